/- Part of a proof: the small language, and functions of the program on it. -/
import Derived.Orders
import Derived.Below
import Derived.Wp
import Derived.Laws.StructEq
import Derived.Laws.BytesString
import Derived.Laws.Pointers
import Derived.Great.BuildSlice
import Derived.Laws.MakeOwn
import Derived.Deep.AppendSrc
import Derived.Lib.ConvBytes
set_option linter.unusedSimpArgs false
set_option linter.unusedVariables false
set_option linter.unusedSectionVars false
theorem X0o {p:Prop} (h:p:=by omega):p:=h
abbrev Xaa:=@Option.bind_eq_bind
abbrev Xab:=@Option.bind_eq_some_iff
abbrev Xac:=@Bool.and_eq_true
abbrev Xad:=@Option.bind_some
abbrev Xae:=@List.getElem?_eq_getElem
abbrev Xaf:=@List.getElem?_eq_some_iff
abbrev Xag:=@Option.map_some
abbrev Xah:=@Option.some.injEq
abbrev Xai:=@Nat.le_refl
abbrev Xaj:=@Bool.false_eq_true
abbrev Xak:=@List.map_cons
abbrev Xal:=@List.length_cons
abbrev Xam:=@Option.map_eq_some_iff
abbrev Xan:=@List.getElem?_map
abbrev Xao:=@List.length_map
abbrev Xap:=@List.length_eq_zero_iff
abbrev Xaq:=@List.getElem?_set_self
abbrev Xar:=@List.getElem?_take
abbrev Xas:=@List.length_append
abbrev Xat:=@List.mem_of_getElem?
abbrev Xau:=@Bool.and_true
abbrev Xav:=@List.getD_eq_getElem?_getD
abbrev Xaw:=@List.mem_cons_self
abbrev Xax:=@List.mem_cons_of_mem
abbrev Xay:=@List.mem_cons
abbrev Xaz:=@List.getElem?_append_left
abbrev Xa0:=@Bool.true_and
abbrev Xa1:=@Nat.zero_le
abbrev Xa2:=@List.append_assoc
abbrev Xa3:=@List.getElem?_eq_none
abbrev Xa4:=@Array.length_toList
abbrev Xa5:=@List.length_drop
abbrev Xa6:=@List.getElem?_drop
abbrev Xa7:=@Array.getElem?_eq_some_iff
abbrev Xa8:=@List.map_nil
abbrev Xa9:=@List.length_nil
abbrev Xba:=@List.getElem?_set_ne
abbrev Xbb:=@List.all_eq_true
abbrev Xbc:=@List.mem_map
abbrev Xbd:=@List.getElem?_set
abbrev Xbe:=@List.append_nil
abbrev Xbf:=@Int.toNat_natCast
abbrev Xbg:=@Option.getD_some
abbrev Xbh:=@List.length_take
abbrev Xbi:=@Option.some.inj
abbrev Xbj:=@List.map_append
abbrev Xbk:=@List.map_congr_left
abbrev Xbl:=@List.take_of_length_le
abbrev Xbm:=@Option.pure_def
abbrev Xbn:=@List.drop_eq_getElem_cons
abbrev Xbo:=@List.mapM_cons
abbrev Xbp:=@List.flatMap_cons
abbrev Xbq:=@List.mem_append
abbrev Xbr:=@List.mem_singleton
abbrev Xbs:=@Array.getD_eq_getD_getElem?
abbrev Xbt:=@Bool.false_and
abbrev Xbu:=@List.getElem?_append_right
abbrev Xbv:=@List.mem_append_left
abbrev Xbw:=@Nat.lt_of_lt_of_le
abbrev Xbx:=@List.take_length
abbrev Xby:=@Nat.lt_or_ge
abbrev Xbz:=@List.ext_getElem?
abbrev Xb0:=@List.drop_zero
abbrev Xb1:=@Nat.zero_add
abbrev Xb2:=@Array.getElem?_eq_none
abbrev Xb3:=@List.flatten_append
abbrev Xb4:=@Array.getElem?_eq_getElem
abbrev Xb5:=@List.mem_append_right
abbrev Xb6:=@List.eq_of_mem_replicate
abbrev Xb7:=@Option.getD_none
abbrev Xb8:=@Nat.mul_le_mul_right
abbrev Xb9:=@List.getElem?_cons_zero
abbrev Xca:=@Nat.le_trans
abbrev Xcb:=@List.set_getElem_self
abbrev Xcc:=@List.mem_iff_getElem?
abbrev Xcd:=@List.length_replicate
abbrev Xce:=@List.map_map
abbrev Xcf:=@List.map_set
abbrev Xcg:=@List.all_cons
abbrev Xch:=@Int.add_sub_cancel
abbrev Xci:=@List.mem_or_eq_of_mem_set
abbrev Xcj:=@List.getLast?_eq_none_iff
abbrev Xck:=@List.getLast?_eq_getElem?
abbrev Xcl:=@Bool.not_eq_true'
abbrev Xcm:=@Bool.or_eq_true
abbrev Xcn:=@List.nil_append
abbrev Xco:=@Bool.true_or
abbrev Xcp:=@Nat.add_assoc
abbrev Xcq:=@List.getElem?_cons_succ
abbrev Xcr:=@List.length_pos_iff
abbrev Xcs:=@List.cons_append
abbrev Xct:=@Int.natCast_succ
abbrev Xcu:=@List.drop_drop
abbrev Xcv:=@List.length_eq_one_iff
abbrev Xcw:=@Array.getElem?_setIfInBounds
abbrev Xcx:=@List.map_replicate
abbrev Xcy:=@Array.getElem_setIfInBounds
abbrev Xcz:=@List.cons.injEq
abbrev Xc0:=@Nat.not_lt
abbrev Xc1:=@Array.ext'
abbrev Xc2:=@Bool.false_or
abbrev Xc3:=@List.getElem?_of_mem
abbrev Xc4:=@List.extract_eq_take_drop
abbrev Xc5:=@List.getElem?_eq_none_iff
abbrev Xc6:=@List.not_mem_nil
abbrev Xc7:=@Int.le_refl
abbrev Xc8:=@Nat.succ_mul
abbrev Xc9:=@Nat.sub_self
abbrev Xda:=@List.all_map
abbrev Xdb:=@List.length_set
abbrev Xdc:=@Nat.div_add_mod
abbrev Xdd:=@List.mem_filterMap
abbrev Xde:=@List.map_take
abbrev Xdf:=@Option.map_none
abbrev Xdg:=@List.drop_eq_nil_of_le
abbrev Xdh:=@List.size_toArray
abbrev Xdi:=@List.flatten_cons
abbrev Xdj:=@Array.getElem?_toList
abbrev Xdk:=@List.getElem?_toArray
abbrev Xdl:=@Nat.mul_comm
abbrev Xdm:=@List.contains_iff_mem
abbrev Xdn:=@List.take_append_drop
abbrev Xdo:=@Option.bind_none
abbrev Xdp:=@List.mem_flatMap
abbrev Xdq:=@Int.mul_le_mul_of_nonneg_left
abbrev Xdr:=@List.mem_flatten
abbrev Xds:=@List.getElem?_append
abbrev Xdt:=@Array.toList_extract
abbrev Xdu:=@Array.replicate_succ
abbrev Xdv:=@Array.replicate_zero
abbrev Xdw:=@List.map_drop
abbrev Xdx:=@Array.toList_append
abbrev Xdy:=@List.replicate_zero
abbrev Xdz:=@List.flatMap_append
abbrev Xd0:=@List.append_toArray
abbrev Xd1:=@Nat.pos_of_ne_zero
abbrev Xd2:=@Nat.add_zero
abbrev Xd3:=@List.mem_range
abbrev Xd4:=@List.push_toArray
abbrev Xd5:=@Nat.add_mul
abbrev Xd6:=@List.mapM_nil
abbrev Xd7:=@List.getElem_mem
abbrev Xd8:=@Nat.sub_zero
abbrev Xd9:=@Nat.add_comm
abbrev Xea:=@Nat.zero_mul
abbrev Xeb:=@List.set_set
namespace Go.Ev
inductive Cap where
 |no|fx|gr (sz:Nat)|lk
 deriving DecidableEq,Repr
inductive V where
 |any|undef
 |bool (b:Bool)|int (k:IntKind) (n:Int)|str (s:List UInt8)
 |nilp|ptr (o off:Nat)|eptr (cs:List V) (off:Nat)
 |nils|sl (xs:List V) (c:Cap)|hs (o off len sz:Nat) (ag:Bool)
 |agg (cs:List V)|tup (vs:List V)
 |ifc (t:TypeId) (x:V)|nili
 |fn (f:FuncId) (first caps:List V)|nilf
 |mp (o:Nat)|nilm
 deriving Repr
inductive O where
 |cells (cs:List V)|mp (es:List (V×V))
 deriving Repr
mutual
def V.beq:V→V→Bool
 | .any,.any | .undef,.undef | .nilp,.nilp | .nils,.nils | .nili,.nili | .nilf,.nilf | .nilm,.nilm=>true
 | .bool a,.bool b=>a == b
 | .int k a,.int j b=>decide (k=j)&&a == b
 | .str a,.str b=>decide (a=b)
 | .ptr a i,.ptr b j=>a == b&&i == j
 | .eptr a i,.eptr b j=>V.beqs a b&&i == j
 | .sl a i,.sl b j=>V.beqs a b&&decide (i=j)
 | .hs a b c d e,.hs a' b' c' d' e'=>a == a'&&b == b'&&c == c'&&d == d'&&e == e'
 | .agg a,.agg b=>V.beqs a b
 | .tup a,.tup b=>V.beqs a b
 | .ifc t a,.ifc u b=>t == u&&V.beq a b
 | .fn f a b,.fn g c d=>f == g&&V.beqs a c&&V.beqs b d
 | .mp a,.mp b=>a == b
 |_,_=>false
def V.beqs:List V→List V→Bool
 |[],[]=>true
 |x::xs,y::ys=>V.beq x y&&V.beqs xs ys
 |_,_=>false
end
mutual
def V.rb (n:Nat):V→Bool
 | .ptr o _=>decide (o<n)
 | .hs o _ _ _ _=>decide (o<n)
 | .mp o=>decide (o<n)
 | .eptr cs _=>V.rbs n cs
 | .sl xs _=>V.rbs n xs
 | .agg cs=>V.rbs n cs
 | .tup cs=>V.rbs n cs
 | .ifc _ x=>V.rb n x
 | .fn _ a b=>V.rbs n a&&V.rbs n b
 |_=>true
def V.rbs (n:Nat):List V→Bool
 |[]=>true
 |x::xs=>V.rb n x&&V.rbs n xs
end
def V.ng:V→V
 | .sl xs _=>.sl xs .no
 |x=>x
def V.isLk:V→Bool
 | .sl _ .lk=>true
 |_=>false
def V.cells:V→List V
 | .agg cs=>cs
 |x=>[x]
def V.one:V→Bool
 | .any | .undef | .agg _ | .tup _=>false
 |_=>true
def part (ag:Bool) (sz:Nat) (cs:List V) (off:Nat):Option V:=
 if ag then (if off+sz≤cs.length then some (.agg (((cs.drop off).take sz).map V.ng)) else none)
 else if sz=1 then cs[off]?.map V.ng else none
def Qcp:List V→Nat→List V→List V
 |cs,_,[]=>cs
 |[],_,_=>[]
 |_::cs,0,x::xs=>x::Qcp cs 0 xs
 |c::cs,n+1,xs=>c::Qcp cs n xs
def chunks (ag:Bool) (sz:Nat) (cs:List V):Nat→Nat→Option (List V)
 |0,_=>some []
 |n+1,off=>do
  let x ←part ag sz cs off
  let xs ←chunks ag sz cs n (off+sz)
  pure (x::xs)
abbrev Objs:=List O
def Objs.get (U:Objs) (o:Nat):Option (List V):=
 match U[o]? with
 |some (.cells cs)=>some cs
 |_=>none
def fz (n:Nat) (U:Objs):Nat→V→Option V
 |0,x=>if x.rb n then some x else none
 |f+1,x=>
  if x.rb n then some x else
  match x with
  | .ptr o off=>do
   let cs ←Objs.get U o
   let ds ←cs.mapM (fz n U f)
   pure (.eptr ds off)
  | .hs o off len sz ag=>do
   let cs ←Objs.get U o
   let xs ←chunks ag sz cs len off
   let ys ←xs.mapM (fz n U f)
   pure (.sl ys .no)
  | .eptr cs off=>do pure (.eptr (←cs.mapM (fz n U f)) off)
  | .sl xs c=>do pure (.sl (←xs.mapM (fz n U f)) c)
  | .agg cs=>do pure (.agg (←cs.mapM (fz n U f)))
  | .tup cs=>do pure (.tup (←cs.mapM (fz n U f)))
  | .ifc t x=>do pure (.ifc t (←fz n U f x))
  | .fn g a b=>do pure (.fn g (←a.mapM (fz n U f)) (←b.mapM (fz n U f)))
  |_=>none
def fzD:Nat:=40
def fzO (n:Nat) (U:Objs):O→Option O
 | .cells cs=>if V.rbs n cs then some (.cells cs) else (cs.mapM (fz n U fzD)).map O.cells
 | .mp es=>if V.rbs n (es.map Prod.fst)&&V.rbs n (es.map Prod.snd) then some (.mp es) else none
def cuO (n:Nat) (U:Objs):Option Objs:=(U.take n).mapM (fzO n U)
def Qaz (n:Nat) (U:Objs) (live:List Nat):Nat→List V→Option (List V)
 |_,[]=>some []
 |i,x::xs=>do
  let y ←if live.contains i then fz n U fzD x else some .any
  let ys ←Qaz n U live (i+1) xs
  pure (y::ys)
inductive Arg where
 |t (n:Nat)|c (x:V)|g (n:Nat)|f (id:FuncId)
 deriving Repr
inductive CK where
 |b|i|s
 deriving Repr,DecidableEq
inductive EqK where
 |no|bool|ptr|row|ifc|fn|mp|agg (ks:List CK)
 deriving Repr,DecidableEq
inductive Conv where
 |toInt (k:IntKind)|same|intStr|strBytes|bytesStr|bytesStrN
 deriving Repr,DecidableEq
inductive Ins where
 |mv (x:Arg) (tk:Bool)
 |pick (c a b:Arg)
 |alloc (z:List V)
 |box (x:Arg)
 |build (z:List V) (parts:List (Nat×Nat×Arg))
 |buildSl (ag:Bool) (sz len:Nat) (z:V) (parts:List (Nat×Arg)) (h:Bool)
 |load (ag:Bool) (sz:Nat) (x:Arg)
 |loadT (x:Arg)
 |store (sz:Nat) (p x:Arg) (tk:Bool)
 |nilc (x:Arg)
 |bin (op:BinOp) (k:EqK) (x y:Arg)
 |un (op:UnOp) (x:Arg)
 |conv (k:Conv) (x:Arg)
 |cutS (x:Arg) (lo hi:Option Arg)
 |cut (sz:Nat) (x:Arg) (lo hi mx:Option Arg)
 |cutA (n sz:Nat) (ag:Bool) (x:Arg) (lo hi:Option Arg)
 |faddr (off:Nat) (x:Arg)
 |field (ag:Bool) (off sz:Nat) (x:Arg)
 |iaddr (sz:Nat) (x i:Arg)
 |iaddrA (n sz:Nat) (x i:Arg)
 |idx (x i:Arg)
 |idxA (n:Nat) (ag:Bool) (sz:Nat) (x i:Arg)
 |lenS (x:Arg)
 |len (x:Arg)
 |app (str ag:Bool) (sz bytes:Nat) (x y:Arg) (tk:Bool)
 |appH (str ag:Bool) (sz bytes:Nat) (x y:Arg)
 |bytesH (x:Arg)
 |call (f:FuncId) (args:List Arg)
 |callv (x:Arg) (args:List Arg)
 |mkfn (f:FuncId) (first caps:List Arg)
 |mkif (t:TypeId) (x:Arg)
 |extr (x:Arg) (i:Nat)
 |mkSl (ag:Bool) (sz bytes:Nat) (z:V) (l c:Arg) (h:Bool)
 |mm (mx:Bool) (args:List Arg)
 |mkmp
 |mset (m k x:Arg)
 |mget (z:V) (m k:Arg) (ok:Bool)
 |buildG (ag:Bool) (sz len:Nat) (z:V) (parts:List (Nat×Arg))
 |mark (x:Arg)
 deriving Repr
structure Step where
 dst:Option Nat
 gd:Option (Nat×Bool)
 ins:Ins
 deriving Repr
structure DS where
 s:Step
 op:Nat
 un:List Nat
 deriving Repr
inductive Cd where
 |skip|ret
 |ops (k:Nat) (l:List Step)
 |drw (k:Nat) (l:List DS)
 |seq (a b:Cd)
 |cond (c:Arg) (a b:Cd)
 |block (id:Nat) (b:Cd)
 |loop (lin lout:List Nat) (b:Cd)
 |exit (id:Nat)
 deriving Repr
inductive Res where
 |tmp (t:Nat)|cell (t:Nat) (ag:Bool) (sz:Nat)
 deriving Repr
structure Fn where
 nt:Nat
 res:List Res
 keep:Bool
 esc:Bool
 body:Cd
 deriving Repr
def bytesLess:List UInt8→List UInt8→Bool
 |_,[]=>false
 |[],_::_=>true
 |a::x,b::y=>a<b||(a == b&&bytesLess x y)
def Ql8:V→V→Option Bool
 | .bool a,.bool b=>some (a == b)
 | .int k a,.int j b=>if k=j then some (a == b) else none
 | .str a,.str b=>some (decide (a=b))
 |_,_=>none
def Qdq:CK→V→V→Option Bool
 | .b,.bool a,.bool b=>some (a == b)
 | .i,.int k a,.int j b=>if k=j then some (a == b) else none
 | .s,.str a,.str b=>some (decide (a=b))
 |_,_,_=>none
def Qbg:List CK→List V→List V→Option Bool
 |[],[],[]=>some true
 |k::ks,x::xs,y::ys=>do
  let a ←Qdq k x y
  let b ←Qbg ks xs ys
  pure (a&&b)
 |_,_,_=>none
def eqV (k:EqK) (x y:V):Option Bool:=
 match k,x,y with
 | .bool,.bool a,.bool b=>some (a == b)
 | .ptr,.nilp,.nilp=>some true
 | .ptr,.nilp,.ptr _ _ | .ptr,.ptr _ _,.nilp | .ptr,.nilp,.eptr _ _ | .ptr,.eptr _ _,.nilp=>some false
 | .row,.nils,.nils=>some true
 | .row,.nils,.sl _ _ | .row,.sl _ _,.nils | .row,.nils,.hs .. | .row,.hs ..,.nils=>some false
 | .ifc,.nili,.nili=>some true
 | .ifc,.nili,.ifc _ _ | .ifc,.ifc _ _,.nili=>some false
 | .fn,.nilf,.nilf=>some true
 | .fn,.nilf,.fn .. | .fn,.fn ..,.nilf=>some false
 | .mp,.nilm,.nilm=>some true
 | .mp,.nilm,.mp _ | .mp,.mp _,.nilm=>some false
 | .agg ks,.agg a,.agg b=>Qbg ks a b
 |_,_,_=>none
def Qwi:Nat:=4611686018427387904
def Qbj:Nat:=140737488355328
def eB (op:BinOp) (e:EqK) (x y:V):Option V:=
 match x,y with
 | .int k a,.int j b=>
  match op with
  | .shl=>if b<0 then none else some (.int k (k.wrap (a * 2 ^ (min b.toNat k.bits))))
  | .shr=>if b<0 then none else some (.int k (a.fdiv (2 ^ (min b.toNat k.bits))))
  |_=>if k=j then
   match op with
   | .add=>some (.int k (k.wrap (a+b)))
   | .sub=>some (.int k (k.wrap (a - b)))
   | .mul=>some (.int k (k.wrap (a * b)))
   | .quo=>if b=0 then none else some (.int k (k.wrap (a.tdiv b)))
   | .rem=>if b=0 then none else some (.int k (a.tmod b))
   | .and=>some (.int k (k.wrap (BitVec.ofInt k.bits a &&& BitVec.ofInt k.bits b).toNat))
   | .or=>some (.int k (k.wrap (BitVec.ofInt k.bits a ||| BitVec.ofInt k.bits b).toNat))
   | .xor=>some (.int k (k.wrap (BitVec.ofInt k.bits a ^^^ BitVec.ofInt k.bits b).toNat))
   | .andNot=>some (.int k (k.wrap (BitVec.ofInt k.bits a &&& ~~~ BitVec.ofInt k.bits b).toNat))
   | .eql=>some (.bool (a == b))
   | .neq=>some (.bool (a != b))
   | .lss=>some (.bool (decide (a<b)))
   | .leq=>some (.bool (decide (a≤b)))
   | .gtr=>some (.bool (decide (a > b)))
   | .geq=>some (.bool (decide (a ≥ b)))
   |_=>none
   else none
 | .str a,.str b=>
  match op with
  | .add=>if a.length+b.length≤Qwi then some (.str (a++b)) else none
  | .eql=>some (.bool (decide (a=b)))
  | .neq=>some (.bool (!decide (a=b)))
  | .lss=>some (.bool (bytesLess a b))
  | .leq=>some (.bool (bytesLess a b||decide (a=b)))
  | .gtr=>some (.bool (!(bytesLess a b||decide (a=b))))
  | .geq=>some (.bool (!bytesLess a b))
  |_=>none
 |x,y=>
  match op with
  | .eql=>(eqV e x y).map V.bool
  | .neq=>(eqV e x y).map fun b=>.bool (!b)
  |_=>none
def evUn (op:UnOp) (x:V):Option V:=
 match op,x with
 | .neg,.int k n=>some (.int k (k.wrap (0 - n)))
 | .xor,.int k n=>some (.int k (k.wrap (BitVec.ofInt k.bits (if k.signed then -1 else k.max) ^^^ BitVec.ofInt k.bits n).toNat))
 | .not,.bool b=>some (.bool !b)
 |_,_=>none
def bytesOf:List V→Option (List UInt8)
 |[]=>some []
 | .int .u8 n::xs=>do
  let bs ←bytesOf xs
  pure (UInt8.ofNat n.toNat::bs)
 |_=>none
def Qae (s:List UInt8):List V:=s.map fun b=>.int .u8 b.toNat
def Qiu (U:Objs):V→Option (List V)
 | .nils=>some []
 | .sl xs _=>some xs
 | .hs o off len sz ag=>do
  let cs ←Objs.get U o
  chunks ag sz cs len off
 |_=>none
def Qfj (str:Bool) (U:Objs) (x:V):Option (List V):=
 if str then (match x with | .str s=>some (Qae s)|_=>none) else Qiu U x
def eC (U:Objs) (k:Conv) (x:V):Option V:=
 match k,x with
 | .toInt k,.int _ n=>some (.int k (k.wrap n))
 | .same,.str s=>some (.str s)
 | .intStr,.int _ n=>some (.str (Utf8.encode n).data.toList)
 | .strBytes,.str s=>some (.sl (Qae s) (.gr 1))
 | .bytesStr,.nils=>some (.str [])
 | .bytesStr,.sl xs _=>(bytesOf xs).map V.str
 | .bytesStrN,.nils=>some (.str [])
 | .bytesStrN,.sl xs _=>(bytesOf xs).map V.str
 | .bytesStr,.hs o off len sz ag=>do
  let xs ←Qiu U (.hs o off len sz ag)
  (bytesOf xs).map V.str
 |_,_=>none
def bound (x:V) (hi:Nat):Option Nat:=
 match x with
 | .int _ i=>if 0≤i∧i≤hi then some i.toNat else none
 |_=>none
def bounds (len:Nat) (lo hi mx:Option V):Option (Nat×Nat×Option Nat):=do
 let m ←match mx with|some v=>(bound v len).map some|none=>some none
 let h ←match hi with|some v=>bound v (m.getD len)|none=>some len
 let l ←match lo with|some v=>bound v h|none=>some 0
 pure (l,h,m)
def Qhb (x:V) (lo hi:Option V):Option V:=
 match x with
 | .str s=>do
  let (l,h,_) ←bounds s.length lo hi none
  some (.str ((s.drop l).take (h - l)))
 |_=>none
def Qbm (sz:Nat) (x:V) (lo hi mx:Option V):Option V:=
 match x with
 | .nils=>do
  let (_,_,_) ←bounds 0 lo hi mx
  some .nils
 | .sl xs _=>do
  let (l,h,m) ←bounds xs.length lo hi mx
  if xs.all (fun y=>decide (y.cells.length=sz)) then some (.sl ((xs.drop l).take (h - l)) (if m=some h then .fx else .no)) else none
 | .hs o off len s ag=>do
  let (l,h,_) ←bounds len lo hi mx
  if s=sz then some (if l=h then .sl [] .no else .hs o (off+l * sz) (h - l) sz ag) else none
 |_=>none
def Qan (cs:List V):Bool:=cs.all V.one
def Qfv (n sz:Nat) (ag:Bool) (x:V) (lo hi:Option V):Option V:=do
 let (l,h,_) ←bounds n lo hi none
 match x with
 | .ptr o off=>some (if l=h then .sl [] .no else .hs o (off+l * sz) (h - l) sz ag)
 | .eptr cs off=>do
  let xs ←chunks ag sz cs (h - l) (off+l * sz)
  if Qan cs then some (.sl xs .no) else none
 |_=>none
def index (i:V) (n:Nat):Option Nat:=
 match i with
 | .int _ i=>if 0≤i∧i<n then some i.toNat else none
 |_=>none
def Qkp (mx:Bool):V→List V→Option V
 |x,[]=>some x
 | .int k a,.int j b::r=>if k=j then Qkp mx (.int k (if mx then (if b > a then b else a) else (if b<a then b else a))) r else none
 |_,_=>none
def agOk (ag:Bool):V→Bool
 | .agg _=>ag
 |_=>!ag
def lay (z:List V):List (Nat×Nat×V)→Option (List V)
 |[]=>some z
 |(off,sz,x)::r=>
  if x.cells.length=sz∧off+sz≤z.length∧Qan x.cells then lay (Qcp z off (x.cells.map V.ng)) r else none
def Qdr (sz:Nat) (z:List V):List (Nat×V)→Option (List V)
 |[]=>some z
 |(i,x)::r=>if x.cells.length=sz∧i<z.length∧Qan x.cells then Qdr sz (z.set i x.ng) r else none
def Qf1:V→Option Int
 | .int _ n=>some n
 |_=>none
def mfind (k:V):List (V×V)→Option (Option V)
 |[]=>some none
 |(k',x)::r=>do
  let b ←Ql8 k k'
  if b then some (some x) else mfind k r
def mput (k x:V):List (V×V)→Option (List (V×V))
 |[]=>some [(k,x)]
 |(k',y)::r=>do
  let b ←Ql8 k k'
  if b then some ((k,x)::r) else
  let r' ←mput k x r
  some ((k',y)::r')
structure GV where
 g:Nat→V
 ex:List (Nat×Nat×Value)
instance : CoeFun GV (fun _=>Nat→V):=⟨GV.g⟩
section
variable (G:GV) (call:FuncId→List V→Objs→Option (V×Objs))
def argT (J:List V):Arg→V
 | .t n=>J.getD n .undef
 | .c x=>x
 | .g n=>G n
 | .f id=>.fn id [] []
def arg (J:List V) (x:Arg):V:=(argT G J x).ng
def Qol (tk:Bool) (x:V):V:=if tk then x else x.ng
def unslot (J:List V) (x:Arg) (tk:Bool):List V:=
 match x,tk with
 | .t n,true=>J.set n (J.getD n .undef).ng
 |_,_=>J
def put (J:List V) (d:Option Nat) (x:V):List V:=
 match d with
 |some d=>J.set d x
 |none=>J
def Ins.takes:Ins→Arg×Bool
 | .mv x tk=>(x,tk)
 | .store _ _ x tk=>(x,tk)
 | .app _ _ _ _ x _ tk=>(x,tk)
 | .mark x=>(x,true)
 |_=>(.c .undef,false)
def eL (U:Objs) (ag:Bool) (sz:Nat):V→Option V
 | .ptr o off=>do
  let cs ←Objs.get U o
  part ag sz cs off
 | .eptr cs off=>part ag sz cs off
 |_=>none
def eF (off:Nat):V→Option V
 | .ptr o a=>some (.ptr o (a+off))
 | .eptr cs a=>some (.eptr cs (a+off))
 |_=>none
def Qhl (ag:Bool) (off sz:Nat):V→Option V
 | .agg cs=>part ag sz cs off
 |_=>none
def eI (sz:Nat) (i:V):V→Option V
 | .sl xs _=>do
  let j ←index i xs.length
  let e ←xs[j]?
  if e.cells.length=sz then some (.eptr e.cells 0) else none
 | .hs o off len s _=>do
  let j ←index i len
  if s=sz then some (.ptr o (off+j * sz)) else none
 |_=>none
def Qc8 (n sz:Nat) (i x:V):Option V:=do
 let j ←index i n
 match x with
 | .ptr o a=>some (.ptr o (a+j * sz))
 | .eptr cs a=>some (.eptr cs (a+j * sz))
 |_=>none
def Qm3 (i:V):V→Option V
 | .str s=>do
  let j ←index i s.length
  let b ←s[j]?
  some (.int .u8 b.toNat)
 |_=>none
def Ql9 (n:Nat) (ag:Bool) (sz:Nat) (i x:V):Option V:=do
 let j ←index i n
 match x with
 | .agg cs=>part ag sz cs (j * sz)
 |_=>none
def eX (i:Nat):V→Option V
 | .tup vs=>vs[i]?
 |_=>none
def Qfw:V→Option V
 | .str s=>some (.int .i64 s.length)
 |_=>none
def Qai:V→Option V
 | .nils=>some (.int .i64 0)
 | .sl xs _=>some (.int .i64 xs.length)
 | .hs _ _ len _ _=>some (.int .i64 len)
 |_=>none
def Qa4:V→Option V
 | .ptr o off=>some (.ptr o off)
 | .eptr cs off=>some (.eptr cs off)
 | .fn f a b=>some (.fn f a b)
 |_=>none
def Qa8 (A:Arg→V) (U:Objs):Ins→Option V
 | .pick c a b=>
  match A c with
  | .bool t=>some (if t then A a else A b)
  |_=>none
 | .build z parts=>(lay z (parts.map fun (o,s,x)=>(o,s,A x))).map V.agg
 | .nilc x=>Qa4 (A x)
 | .bin op k x y=>eB op k (A x) (A y)
 | .un op x=>evUn op (A x)
 | .conv k x=>eC U k (A x)
 | .cutS x lo hi=>Qhb (A x) (lo.map A) (hi.map A)
 | .cut sz x lo hi mx=>Qbm sz (A x) (lo.map A) (hi.map A) (mx.map A)
 | .cutA n sz ag x lo hi=>Qfv n sz ag (A x) (lo.map A) (hi.map A)
 | .load ag sz x=>eL U ag sz (A x)
 | .faddr off x=>eF off (A x)
 | .field ag off sz x=>Qhl ag off sz (A x)
 | .iaddr sz x i=>eI sz (A i) (A x)
 | .iaddrA n sz x i=>Qc8 n sz (A i) (A x)
 | .idx x i=>Qm3 (A i) (A x)
 | .idxA n ag sz x i=>Ql9 n ag sz (A i) (A x)
 | .lenS x=>Qfw (A x)
 | .len x=>Qai (A x)
 | .mkfn f first caps=>some (.fn f (first.map A) (caps.map A))
 | .mkif t x=>some (.ifc t (A x))
 | .extr x i=>eX i (A x)
 | .mm mx args=>
  match args.map A with
  |x::r=>if (Qf1 x).isSome then Qkp mx x r else none
  |[]=>none
 | .mget z m k ok=>do
  let r ←match A m with
   | .nilm=>some none
   | .mp o=>(match U[o]? with|some (.mp es)=>mfind (A k) es|_=>none)
   |_=>none
  let x:=r.getD z
  some (if ok then .tup [x,.bool r.isSome] else x)
 |_=>none
def Qdj (ag:Bool) (sz:Nat) (ys:List V):Bool:=ys.all fun y=>decide (y.cells.length=sz)&&Qan y.cells&&agOk ag y
def Qd1 (ag:Bool) (sz bytes:Nat) (x:V) (ys:List V):Option V:=
 if Qdj ag sz ys then
  match x with
  | .nils=>if ys=[] then some .nils else if ys.length * bytes≤Qbj then some (.sl ys (.gr sz)) else none
  | .sl xs c=>
   match ys with
   |[]=>some (.sl xs c)
   |_::_=>
    if (c = .fx∨c = .gr sz)∧xs.all (fun y=>decide (y.cells.length=sz))∧(xs.length+ys.length) * bytes≤Qbj then some (.sl (xs++ys) (.gr sz)) else none
  |_=>none
 else none
def Qa5 (A T:Arg→V) (U:Objs):Ins→Option (V×Objs)
 | .mv x tk=>some (if tk then T x else A x,U)
 | .alloc z=>if Qan z then some (.ptr U.length 0,U++[.cells z]) else none
 | .box x=>
  let cs:=(A x).cells
  if Qan cs then some (.ptr U.length 0,U++[.cells (cs.map V.ng)]) else none
 | .buildSl ag sz len z parts h=>do
  let xs ←Qdr sz (List.replicate len z) (parts.map fun (i,x)=>(i,A x))
  if Qdj ag sz xs then
   if h then some (.hs U.length 0 len sz ag,U++[.cells ((xs.flatMap V.cells).map V.ng)])
   else some (.sl xs .fx,U)
  else none
 | .buildG ag sz len z parts=>do
  let xs ←Qdr sz (List.replicate len z) (parts.map fun (i,x)=>(i,A x))
  if Qdj ag sz xs then some (.sl xs (.gr sz),U) else none
 | .mark x=>
  match T x with
  | .sl xs (.gr _)=>some (.sl xs .no,U)
  |_=>none
 | .store sz p x tk=>
  match A p with
  | .ptr o off=>do
   let cs ←Objs.get U o
   let v:=A x
   let ds:=v.cells
   if ds.length=sz∧off+sz≤cs.length∧Qan ds then
    match v with
    | .agg _=>some (.undef,U.set o (.cells (Qcp cs off (ds.map V.ng))))
    |_=>if (if tk then T x else v).isLk then none else some (.undef,U.set o (.cells (cs.set off (if tk then T x else v))))
   else none
  |_=>none
 | .loadT x=>
  match A x with
  | .ptr o off=>do
   let cs ←Objs.get U o
   let v ←cs[off]?
   match v with
   | .sl xs (.gr s)=>some (.sl xs (.gr s),U.set o (.cells (cs.set off (.sl xs .no))))
   | .sl _ .lk=>none
   |v=>some (v,U)
  | .eptr cs off=>do
   let v ←cs[off]?
   some (v.ng,U)
  |_=>none
 | .app str ag sz bytes x y tk=>do
  let ys ←Qfj str U (A y)
  let v ←Qd1 ag sz bytes (if tk then T x else A x) ys
  some (v,U)
 | .appH str ag sz bytes x y=>do
  let ys ←Qfj str U (A y)
  match ys with
  |[]=>do
   let v ←Qd1 ag sz bytes (A x) []
   some (v.ng,U)
  |_::_=>do
   let v ←Qd1 ag sz bytes (A x) ys
   match v with
   | .sl xs _=>some (.hs U.length 0 xs.length sz ag,U++[.cells ((xs.flatMap V.cells).map V.ng)])
   |_=>none
 | .bytesH x=>
  match A x with
  | .str b=>some (.hs U.length 0 b.length 1 false,U++[.cells (Qae b)])
  |_=>none
 | .mkSl ag sz bytes z l c h=>do
  let l ←Qf1 (A l)
  let c ←Qf1 (A c)
  if 0≤l∧l≤c∧c * bytes≤Qbj∧z.cells.length=sz∧Qan z.cells∧agOk ag z then
   if h then
    some (.hs U.length 0 l.toNat sz ag,U++[.cells ((List.replicate c.toNat z).flatMap V.cells)])
   else some (.sl (List.replicate l.toNat z) (if l=c then .fx else .gr sz),U)
  else none
 | .mkmp=>some (.mp U.length,U++[.mp []])
 | .mset m k x=>
  match A m with
  | .mp o=>
   match U[o]? with
   |some (.mp es)=>do
    let es' ←mput (A k) (A x) es
    some (.undef,U.set o (.mp es'))
   |_=>none
  |_=>none
 | .call f args=>call f (args.map A) U
 | .callv x args=>
  match A x with
  | .fn f first caps=>call f (((first++args.map A)++caps).map V.ng) U
  |_=>none
 | .conv .strBytes x=>do
  let v ←eC U .strBytes (A x)
  some (v,U)
 |i=>do
  let v ←Qa8 A U i
  some (v.ng,U)
def ev1 (s:Step) (J:List V) (U:Objs):Option (List V×Objs):=do
 let (v,U') ←Qa5 call (arg G J) (argT G J) U s.ins
 some (put (unslot J s.ins.takes.1 s.ins.takes.2) s.dst v,U')
def wanted (J:List V):Option (Nat×Bool)→Option Bool
 |none=>some true
 |some (g,b)=>
  match J.getD g .undef with
  | .bool t=>some (t == b)
  | .undef=>some false
  |_=>none
def Qb4 (s:Step) (J:List V) (U:Objs):Option (List V×Objs):=do
 if ←wanted J s.gd then ev1 G call s J U else some (put J s.dst .undef,U)
def Qdb:List Step→List V→Objs→Option (List V×Objs)
 |[],J,U=>some (J,U)
 |s::r,J,U=>do
  let (J',U') ←Qb4 G call s J U
  Qdb r J' U'
inductive Rd where
 |none|same (ex:Bool) (o off n:Nat)|made (o:Nat)|took (o off:Nat)
def reads (A:Arg→V) (U:Objs):Ins→Rd
 | .load ag sz x=>match A x with | .ptr o off=>.same false o off (if ag then sz else 1)|_=>.none
 | .loadT x=>
  match A x with
  | .ptr o off=>
   match (Objs.get U o).bind (·[off]?) with
   |some (.sl _ (.gr _))=>.took o off
   |_=>.same true o off 1
  |_=>.none
 | .alloc _ | .box _=>.made U.length
 |_=>.none
def Rd.cell:Rd→Option (Nat×Nat)
 | .took o off=>some (o,off)
 |_=>Option.none
def stable (U U':Objs):Rd→Bool
 | .same ex o off n=>
  match Objs.get U o,Objs.get U' o with
  |some cs,some ds=>decide (cs.length=ds.length)&&(if ex then V.beqs ((cs.drop off).take n) ((ds.drop off).take n) else V.beqs (((cs.drop off).take n).map V.ng) (((ds.drop off).take n).map V.ng))
  |_,_=>false
 | .made o=>
  match Objs.get U o,Objs.get U' o with
  |some cs,some ds=>V.beqs cs ds
  |_,_=>false
 |_=>true
def Qg8 (U:Objs):List (Nat×Nat)→Option Objs
 |[]=>some U
 |(o,off)::r=>
  match Objs.get U o with
  |some cs=>
   match cs[off]? with
   |some (.sl xs _)=>Qg8 (U.set o (.cells (cs.set off (.sl xs .lk)))) r
   |_=>none
  |none=>none
def Qe0 (U:Objs):List (Nat×Nat)→Option Objs
 |[]=>some U
 |(o,off)::r=>
  match Objs.get U o with
  |some cs=>
   match cs[off]? with
   |some (.sl xs .lk)=>Qe0 (U.set o (.cells (cs.set off (.sl xs .no)))) r
   |_=>none
  |none=>none
def Qg9 (past:List Rd):List DS→List V→Objs→Option (List V×Objs)
 |[],J,U=>some (J,U)
 |d::r,J,U=>do
  let seen:=d.un.map fun k=>past.getD k .none
  let taken:=seen.filterMap Rd.cell
  let U0 ←Qg8 U taken
  let (J',U1) ←Qb4 G call d.s J U0
  let U' ←Qe0 U1 taken
  if seen.all (stable U U') then
   Qg9 (past++[if (wanted J d.s.gd).getD false then reads (arg G J) U d.s.ins else .none]) r J' U'
  else none
inductive Out where
 |norm|ex (id:Nat)|ret
abbrev Ran:=Option (Out×List V×Objs)
def Qj4 (lin lout:List Nat) (n:Nat) (rd:List V→Objs→Ran):Nat→List V→Objs→Ran
 |0,_,_=>none
 |k+1,J,U=>
  match rd J U with
  |none=>none
  |some (.norm,J',U')=>do
   let J'' ←Qaz n U' lin 0 J'
   let U'' ←cuO n U'
   Qj4 lin lout n rd k J'' U''
  |some (e,J',U')=>do
   let J'' ←Qaz n U' lout 0 J'
   let U'' ←cuO n U'
   some (e,J'',U'')
def evCd (fuel:Nat):Cd→List V→Objs→Ran
 | .skip,J,U=>some (.norm,J,U)
 | .ret,J,U=>some (.ret,J,U)
 | .exit id,J,U=>some (.ex id,J,U)
 | .ops _ l,J,U=>(Qdb G call l J U).map fun (J',U')=>(.norm,J',U')
 | .drw _ l,J,U=>(Qg9 G call [] l J U).map fun (J',U')=>(.norm,J',U')
 | .seq a b,J,U=>
  match evCd fuel a J U with
  |some (.norm,J',U')=>evCd fuel b J' U'
  |r=>r
 | .cond c a b,J,U=>
  match arg G J c with
  | .bool true=>evCd fuel a J U
  | .bool false=>evCd fuel b J U
  |_=>none
 | .block id b,J,U=>
  match evCd fuel b J U with
  |some (.ex i,J',U')=>if i=id then some (.norm,J',U') else some (.ex i,J',U')
  |r=>r
 | .loop lin lout b,J,U=>do
  let J' ←Qaz U.length U lin 0 J
  Qj4 lin lout U.length (evCd fuel b) fuel J' U
def resV (J:List V) (U:Objs):Res→Option V
 | .tmp t=>some (J.getD t .undef)
 | .cell t ag sz=>
  match J.getD t .undef with
  | .ptr o off=>do
   let cs ←Objs.get U o
   part ag sz cs off
  |_=>none
def results (keep:Bool) (J:List V) (U:Objs):List Res→Option V
 |[r]=>do
  let v ←resV J U r
  if v.one||agOk true v then some (Qol keep v) else none
 |rs=>do
  let vs ←rs.mapM (resV J U)
  some (.tup (vs.map V.ng))
def leaves (n:Nat) (U:Objs) (o:Nat):Option (List V):=do
 let cs ←Objs.get U o
 cs.mapM (fz n U fzD)
def evFn (F:Fn) (fuel:Nat) (args:List V) (U:Objs):Option (V×Objs):=do
 let fin (J:List V) (U':Objs):Option (V×Objs):=do
  let r ←results F.keep J U' F.res
  let U'' ←cuO U.length U'
  match F.esc,r with
  |true,.ptr o off=>if o<U.length then some (.ptr o off,U'') else do
   let cs ←leaves U.length U' o
   some (.ptr U.length off,U''++[.cells cs])
  |true,.hs o off len sz ag=>if o<U.length then some (.hs o off len sz ag,U'') else do
   let cs ←leaves U.length U' o
   some (.hs U.length off len sz ag,U''++[.cells cs])
  |true,.tup (.ptr o off::vs)=>do
   let vs' ←vs.mapM (fz U.length U' fzD)
   if o<U.length then some (.tup (.ptr o off::vs'),U'') else do
   let cs ←leaves U.length U' o
   some (.tup (.ptr U.length off::vs'),U''++[.cells cs])
  |_,_=>do
   let r' ←fz U.length U' fzD r
   some (r',U'')
 match ←evCd G call fuel F.body (args++List.replicate (F.nt - args.length) .undef) U with
 |(.ret,J,U')=>fin J U'
 |(.norm,J,U')=>fin J U'
 |_=>none
end
structure Ctx where
 G:GV
 code:FuncId→Option Fn
 prim:FuncId→Option (List V→Objs→Option (V×Objs))
def ev (C:Ctx):Nat→FuncId→List V→Objs→Option (V×Objs)
 |0,_,_,_=>none
 |n+1,f,args,U=>
  match C.prim f with
  |some h=>h args U
  |none=>
   match C.code f with
   |some F=>evFn C.G (ev C n) F n args U
   |none=>none
end Go.Ev
namespace Go.Ev
open Go
abbrev Mem:=Nat→Nat→Option Value
abbrev Plc:=Nat→Option Nat
inductive Rep (M:Mem) (Z:Plc):Value→V→Prop
 |any (v:Value):Rep M Z v .any
 |undef:Rep M Z (.tuple #[]) .undef
 |bool (b:Bool):Rep M Z (.bool b) (.bool b)
 |int (k:IntKind) (n:Int):Rep M Z (.int k n) (.int k n)
 |str (s:ByteArray) (l:List UInt8) (h:s.data.toList=l):Rep M Z (.string s) (.str l)
 |nilp:Rep M Z (.pointer none) .nilp
 |ptr (o off b:Nat) (h:Z o=some b):Rep M Z (.pointer (some ⟨b,off,none⟩)) (.ptr o off)
 |eptr (cs:List V) (off b base:Nat) (us:List Value) (hl:us.length=cs.length)
   (hm:∀(i:Nat) u,us[i]? = some u→M b (base+i)=some u) (hr:∀(i:Nat) u c,us[i]? = some u→cs[i]? = some c→Rep M Z u c):
   Rep M Z (.pointer (some ⟨b,base+off,none⟩)) (.eptr cs off)
 |nils:Rep M Z (.slice none 0 0) .nils
 |sl (xs:List V) (c:Cap) (b off cap sz:Nat) (us:List Value) (hs:∀x∈xs,x.cells.length=sz) (hl:us.length=(xs.flatMap V.cells).length)
   (hm:∀(i:Nat) u,us[i]? = some u→M b (off+i)=some u) (hr:∀(i:Nat) u c,us[i]? = some u→(xs.flatMap V.cells)[i]? = some c→Rep M Z u c)
   (hcap:xs.length≤cap) (hfx:c = .fx→cap=xs.length):Rep M Z (.slice (some ⟨b,off,none⟩) xs.length cap) (.sl xs c)
 |sl0 (a:Addr) (c:Cap) (hg:∀s,c≠.gr s):Rep M Z (.slice (some a) 0 0) (.sl [] c)
 |hs (o off len sz:Nat) (ag:Bool) (b cap:Nat) (h:Z o=some b) (hc:len≤cap):Rep M Z (.slice (some ⟨b,off,none⟩) len cap) (.hs o off len sz ag)
 |agg (vs:Array Value) (cs:List V) (hl:vs.size=cs.length) (hr:∀(i:Nat) v c,vs[i]? = some v→cs[i]? = some c→Rep M Z v c):Rep M Z (.agg vs) (.agg cs)
 |tup (vs:Array Value) (cs:List V) (hl:vs.size=cs.length) (hr:∀(i:Nat) v c,vs[i]? = some v→cs[i]? = some c→Rep M Z v c):Rep M Z (.tuple vs) (.tup cs)
 |ifc (t:TypeId) (v:Value) (x:V) (h:Rep M Z v x):Rep M Z (.iface t v) (.ifc t x)
 |nili:Rep M Z .nilIface .nili
 |fn (f:FuncId) (ars bs:Array Value) (first caps:List V) (ha:ars.size=first.length) (hb:bs.size=caps.length)
   (hra:∀(i:Nat) v c,ars[i]? = some v→first[i]? = some c→Rep M Z v c) (hrb:∀(i:Nat) v c,bs[i]? = some v→caps[i]? = some c→Rep M Z v c):
   Rep M Z (.func (.func f) ars bs) (.fn f first caps)
 |nilf:Rep M Z .nilFunc .nilf
 |mp (o r:Nat) (h:Z o=some r):Rep M Z (.map (some r)) (.mp o)
 |nilm:Rep M Z (.map none) .nilm
structure MemLe (M M':Mem):Prop where
 le:∀b i u,M b i=some u→M' b i=some u
structure PlcLe (Z Z':Plc):Prop where
 le:∀o b,Z o=some b→Z' o=some b
theorem MemLe.refl (M:Mem):MemLe M M:=⟨fun _ _ _ h=>h⟩
theorem MemLe.trans {M M' M'':Mem} (h:MemLe M M') (k:MemLe M' M''):MemLe M M'':=⟨fun b i u e=>k.le b i u (h.le b i u e)⟩
theorem PlcLe.refl (Z:Plc):PlcLe Z Z:=⟨fun _ _ h=>h⟩
theorem PlcLe.trans {Z Z' Z'':Plc} (h:PlcLe Z Z') (k:PlcLe Z' Z''):PlcLe Z Z'':=⟨fun o b e=>k.le o b (h.le o b e)⟩
theorem Rep.mono {M M':Mem} {Z Z':Plc} (hm:MemLe M M') (hi:PlcLe Z Z') {v:Value} {x:V} (h:Rep M Z v x):Rep M' Z' v x:=by
 induction h with
 |any v=>exact .any v
 |undef=>exact .undef
 |bool b=>exact .bool b
 |int k n=>exact .int k n
 |str s l h=>exact .str s l h
 |nilp=>exact .nilp
 |ptr o off b h=>exact .ptr o off b (hi.le _ _ h)
 |eptr cs off b base us hl hmm hr ih=>exact .eptr cs off b base us hl (fun i u e=>hm.le _ _ _ (hmm i u e)) ih
 |nils=>exact .nils
 |sl xs c b off cap sz us hs hl hmm hr hcap hfx ih=>exact .sl xs c b off cap sz us hs hl (fun i u e=>hm.le _ _ _ (hmm i u e)) ih hcap hfx
 |sl0 a c hg=>exact .sl0 a c hg
 |hs o off len sz ag b cap h hc=>exact .hs o off len sz ag b cap (hi.le _ _ h) hc
 |agg vs cs hl hr ih=>exact .agg vs cs hl ih
 |tup vs cs hl hr ih=>exact .tup vs cs hl ih
 |ifc t v x h ih=>exact .ifc t v x ih
 |nili=>exact .nili
 |fn f ars bs first caps ha hb hra hrb iha ihb=>exact .fn f ars bs first caps ha hb iha ihb
 |nilf=>exact .nilf
 |mp o r h=>exact .mp o r (hi.le _ _ h)
 |nilm=>exact .nilm
theorem Rep.ng {M:Mem} {Z:Plc} {v:Value} {x:V} (h:Rep M Z v x):Rep M Z v x.ng:=by
 cases h with
 |sl xs c b off cap sz us hs hl hmm hr hcap hfx=>exact .sl xs .no b off cap sz us hs hl hmm hr hcap (fun e=>by cases e)
 |sl0 a c hg=>exact .sl0 a .no (fun s e=>by cases e)
 |any v=>exact .any v
 |undef=>exact .undef
 |bool b=>exact .bool b
 |int k n=>exact .int k n
 |str s l h=>exact .str s l h
 |nilp=>exact .nilp
 |ptr o off b h=>exact .ptr o off b h
 |eptr cs off b base us hl hmm hr=>exact .eptr cs off b base us hl hmm hr
 |nils=>exact .nils
 |hs o off len sz ag b cap h hc=>exact .hs o off len sz ag b cap h hc
 |agg vs cs hl hr=>exact .agg vs cs hl hr
 |tup vs cs hl hr=>exact .tup vs cs hl hr
 |ifc t v x h=>exact .ifc t v x h
 |nili=>exact .nili
 |fn f ars bs first caps ha hb hra hrb=>exact .fn f ars bs first caps ha hb hra hrb
 |nilf=>exact .nilf
 |mp o r h=>exact .mp o r h
 |nilm=>exact .nilm
theorem V.nogr_cells_length (x:V):x.ng.cells.length=x.cells.length:=by cases x <;> rfl
theorem V.nogr_one (x:V):x.ng.one=x.one:=by cases x <;> rfl
theorem V.nogr_nogr (x:V):x.ng.ng=x.ng:=by cases x <;> rfl
def Reps (M:Mem) (Z:Plc) (us:List Value) (cs:List V):Prop:=us.length=cs.length∧∀(i:Nat) u c,us[i]? = some u→cs[i]? = some c→Rep M Z u c
theorem Reps.nil {M:Mem} {Z:Plc} : Reps M Z [] []:=⟨rfl,fun i u c h=>by simp at h⟩
theorem Reps.cons {M:Mem} {Z:Plc} {u:Value} {c:V} {us:List Value} {cs:List V} (h:Rep M Z u c) (hs:Reps M Z us cs):Reps M Z (u::us) (c::cs):=
 ⟨by simp [hs.1],fun i u' c' hu hc=>by
  cases i with
  |zero=>simp at hu hc;subst hu hc;exact h
  |succ i=>simp at hu hc;exact hs.2 i u' c' hu hc⟩
theorem Reps.head {M:Mem} {Z:Plc} {u:Value} {c:V} {us:List Value} {cs:List V} (h:Reps M Z (u::us) (c::cs)):Rep M Z u c:=h.2 0 u c rfl rfl
theorem Reps.tail {M:Mem} {Z:Plc} {u:Value} {c:V} {us:List Value} {cs:List V} (h:Reps M Z (u::us) (c::cs)):Reps M Z us cs:=
 ⟨by have:=h.1;simpa using this,fun i u' c' hu hc=>h.2 (i+1) u' c' (by simpa using hu) (by simpa using hc)⟩
theorem Reps.mono {M M':Mem} {Z Z':Plc} (hm:MemLe M M') (hi:PlcLe Z Z') {us:List Value} {cs:List V} (h:Reps M Z us cs):Reps M' Z' us cs:=
 ⟨h.1,fun i u c hu hc=>(h.2 i u c hu hc).mono hm hi⟩
theorem Reps.append {M:Mem} {Z:Plc} {us us':List Value} {cs cs':List V} (h:Reps M Z us cs) (h':Reps M Z us' cs'):Reps M Z (us++us') (cs++cs'):=by
 refine ⟨by simp [h.1,h'.1],fun i u c hu hc => ?_⟩
 rw [Xds] at hu hc
 rw [←h.1] at hc
 split at hu
 ·rename_i hi;rw [if_pos hi] at hc;exact h.2 i u c hu hc
 ·rename_i hi;rw [if_neg hi] at hc;exact h'.2 _ u c hu hc
theorem Reps.drop {M:Mem} {Z:Plc} {us:List Value} {cs:List V} (h:Reps M Z us cs) (n:Nat):Reps M Z (us.drop n) (cs.drop n):=
 ⟨by simp [h.1],fun i u c hu hc=>h.2 (n+i) u c (by simpa using hu) (by simpa using hc)⟩
theorem Reps.take {M:Mem} {Z:Plc} {us:List Value} {cs:List V} (h:Reps M Z us cs) (n:Nat):Reps M Z (us.take n) (cs.take n):=
 ⟨by simp [h.1],fun i u c hu hc=>by
  rw [Xar] at hu hc
  split at hu
  ·rename_i hi;rw [if_pos hi] at hc;exact h.2 i u c hu hc
  ·cases hu⟩
theorem Reps.ng {M:Mem} {Z:Plc} {us:List Value} {cs:List V} (h:Reps M Z us cs):Reps M Z us (cs.map V.ng):=
 ⟨by simp [h.1],fun i u c hu hc=>by
  simp only [Xan,Xam] at hc
  obtain ⟨c',hc',rfl⟩:=hc
  exact (h.2 i u c' hu hc').ng⟩
theorem Reps.get {M:Mem} {Z:Plc} {us:List Value} {cs:List V} (h:Reps M Z us cs) {i:Nat} {c:V} (hc:cs[i]? = some c):∃u,us[i]? = some u∧Rep M Z u c:=by
 have hi:i<us.length:=by rw [h.1];exact (Xaf.1 hc).1
 exact ⟨us[i],Xae hi,h.2 i _ c (Xae hi) hc⟩
theorem Reps.get' {M:Mem} {Z:Plc} {us:List Value} {cs:List V} (h:Reps M Z us cs) {i:Nat} {u:Value} (hu:us[i]? = some u):∃c,cs[i]? = some c∧Rep M Z u c:=by
 have hi:i<cs.length:=by rw [←h.1];exact (Xaf.1 hu).1
 exact ⟨cs[i],Xae hi,h.2 i u _ hu (Xae hi)⟩
theorem Reps.set {M:Mem} {Z:Plc} {us:List Value} {cs:List V} (h:Reps M Z us cs) {u:Value} {c:V} (hu:Rep M Z u c) (i:Nat):Reps M Z (us.set i u) (cs.set i c):=by
 refine ⟨by simp [h.1],fun j u' c' hu' hc' => ?_⟩
 rw [Xbd] at hu' hc'
 by_cases hij:i=j
 ·subst hij
  rw [if_pos rfl] at hu' hc'
  split at hu'
  ·rename_i hlt;rw [if_pos (by rw [←h.1];exact hlt)] at hc';cases hu';cases hc';exact hu
  ·cases hu'
 ·rw [if_neg hij] at hu' hc';exact h.2 j u' c' hu' hc'
theorem Rep.agg_iff {M:Mem} {Z:Plc} {vs:Array Value} {cs:List V} : Rep M Z (.agg vs) (.agg cs)↔Reps M Z vs.toList cs:=by
 constructor
 ·intro h
  cases h with
  |agg _ _ hl hr=>exact ⟨by simpa using hl,fun i u c hu hc=>hr i u c (by simpa using hu) hc⟩
 ·intro h
  exact .agg vs cs (by simpa using h.1) (fun i v c hv hc=>h.2 i v c (by simpa using hv) hc)
theorem Rep.cells {M:Mem} {Z:Plc} {v:Value} {x:V} (h:Rep M Z v x) (hx:∀c∈x.cells,c.one=true):Reps M Z v.cells.toList x.cells:=by
 cases h with
 |agg vs cs hl hr=>exact Rep.agg_iff.1 (.agg vs cs hl hr)
 |any v=>exact absurd (hx .any (by simp [V.cells])) (by simp [V.one])
 |undef=>exact absurd (hx .undef (by simp [V.cells])) (by simp [V.one])
 |tup vs cs hl hr=>exact absurd (hx (.tup cs) (by simp [V.cells])) (by simp [V.one])
 |bool b=>exact Reps.cons (.bool b) Reps.nil
 |int k n=>exact Reps.cons (.int k n) Reps.nil
 |str s l h=>exact Reps.cons (.str s l h) Reps.nil
 |nilp=>exact Reps.cons .nilp Reps.nil
 |ptr o off b h=>exact Reps.cons (.ptr o off b h) Reps.nil
 |eptr cs off b base us hl hmm hr=>exact Reps.cons (.eptr cs off b base us hl hmm hr) Reps.nil
 |nils=>exact Reps.cons .nils Reps.nil
 |sl xs c b off cap sz us hs hl hmm hr hcap hfx=>exact Reps.cons (.sl xs c b off cap sz us hs hl hmm hr hcap hfx) Reps.nil
 |sl0 a c hg=>exact Reps.cons (.sl0 a c hg) Reps.nil
 |hs o off len sz ag b cap h hc=>exact Reps.cons (.hs o off len sz ag b cap h hc) Reps.nil
 |ifc t v x h=>exact Reps.cons (.ifc t v x h) Reps.nil
 |nili=>exact Reps.cons .nili Reps.nil
 |fn f ars bs first caps ha hb hra hrb=>exact Reps.cons (.fn f ars bs first caps ha hb hra hrb) Reps.nil
 |nilf=>exact Reps.cons .nilf Reps.nil
 |mp o r h=>exact Reps.cons (.mp o r h) Reps.nil
 |nilm=>exact Reps.cons .nilm Reps.nil
theorem Rep.one {M:Mem} {Z:Plc} {v:Value} {x:V} (h:Rep M Z v x) (hx:x.one=true):v.oneCell=true:=by
 cases h <;> first|rfl|simp [V.one] at hx
def ownB:Value→V→Option Nat
 | .slice (some a) _ _,.sl _ (.gr _)=>some a.block
 |_,_=>none
def Qbp (fz:Nat×Nat) (i:Nat):Bool:=decide (fz.1≤i)&&decide (i<fz.2)
theorem Qbh (v:Value) (x:V):ownB v x.ng=none:=by
 unfold ownB
 split
 ·rename_i heq
  cases x <;> simp [V.ng] at heq
 ·rfl
inductive Pl where
 |s (i:Nat)|c (o i:Nat)
abbrev Own:=Nat→Option Pl
def At (Z:Plc) (w:World) (us:List Value) (J:List V) (U:Objs):Pl→Value→V→Prop
 | .s i,v,x=>us[i]? = some v∧J[i]? = some x
 | .c o i,v,x=>∃b ws T fz cs,Z o=some b∧w.heap[b]? = some (.cells ws T fz)∧U[o]? = some (.cells cs)∧ws[i]? = some v∧cs[i]? = some x
structure GrOK (M:Mem) (w:World) (v:Value) (x:V):Prop where
 ok:∀xs sz,x = .sl xs (.gr sz)→∀a len cap,v = .slice (some a) len cap→
  (∀y∈xs,y.cells.length=sz)∧(∀i,a.off+(xs.flatMap V.cells).length≤i→M a.block i=none)∧
  ∃ws T fz,w.heap[a.block]? = some (.cells ws T fz)∧a.off+cap * sz≤ws.size∧∀i,a.off+(xs.flatMap V.cells).length≤i→i<ws.size→Qbp fz i=false
theorem GrOK.of_none {M:Mem} {w:World} {v:Value} {x:V} (h:ownB v x=none):GrOK M w v x:=by
 refine ⟨fun xs sz hx a len cap hv => ?_⟩
 subst hx hv
 simp [ownB] at h
def Wiy (M:Mem) (Z:Plc) (en:List MapEntry) (es:List (V×V)):Prop:=
 en.length=es.length∧∀(i:Nat) e p,en[i]? = some e→es[i]? = some p→Rep M Z e.key p.1∧Rep M Z e.val p.2
def Qkq (M:Mem) (Z:Plc) (w:World) (b:Nat):O→Prop
 | .cells cs=>∃ws T fz,w.heap[b]? = some (.cells ws T fz)∧Reps M Z (ws.toList.take cs.length) cs∧(∀i,i<cs.length→Qbp fz i=false)∧(∀i,M b i=none)∧∀c∈cs,c.one=true
 | .mp es=>∃en clock,w.heap[b]? = some (.map en clock)∧Wiy M Z en.toList es
structure Wd (M:Mem) (Z:Plc) (X:Nat→Prop) (D:Own) (w:World) (U:Objs):Prop where
 mem:∀b i u,M b i=some u→w.cell? ⟨b,i,none⟩=some u
 obj:∀o b,Z o=some b→∃O,U[o]? = some O∧Qkq M Z w b O
 olt:∀o b,Z o=some b→b<w.heap.size
 inj:∀o o' b,Z o=some b→Z o'=some b→o=o'
 xlt:∀b,X b→b<w.heap.size
 xobj:∀o b,Z o=some b→¬X b
 kap:∀b p,D b=some p→¬X b∧(∀o,Z o≠some b)∧b<w.heap.size
structure St (M:Mem) (Z:Plc) (X:Nat→Prop) (D:Own) (w:World) (us:List Value) (J:List V) (U:Objs):Prop where
 wd:Wd M Z X D w U
 rep:Reps M Z us J
 own:∀p v x b,At Z w us J U p v x→ownB v x=some b→D b=some p
 gr:∀p v x,At Z w us J U p v x→GrOK M w v x
structure Ext (X:Nat→Prop) (M:Mem) (Z:Plc) (w:World) (M':Mem) (Z':Plc) (w':World):Prop where
 m:MemLe M M'
 i:PlcLe Z Z'
 mX:∀b i,X b→M' b i=M b i
 size:w.heap.size≤w'.heap.size
 keep:∀b,X b→w'.heap[b]? = w.heap[b]?
 os:w'.os=w.os
 tape:w'.tape=w.tape
 output:w'.output=w.output
theorem Ext.refl (X:Nat→Prop) (M:Mem) (Z:Plc) (w:World):Ext X M Z w M Z w:=
 ⟨.refl _,.refl _,fun _ _ _=>rfl,Xai _,fun _ _=>rfl,rfl,rfl,rfl⟩
theorem Ext.trans {X:Nat→Prop} {M M' M'':Mem} {Z Z' Z'':Plc} {w w' w'':World} (h:Ext X M Z w M' Z' w') (k:Ext X M' Z' w' M'' Z'' w''):Ext X M Z w M'' Z'' w'':=
 ⟨h.m.trans k.m,h.i.trans k.i,fun b i hx=>(k.mX b i hx).trans (h.mX b i hx),Xca h.size k.size,fun b hx=>(k.keep b hx).trans (h.keep b hx),k.os.trans h.os,k.tape.trans h.tape,k.output.trans h.output⟩
theorem Ext.less {X X':Nat→Prop} {M M':Mem} {Z Z':Plc} {w w':World} (h:Ext X M Z w M' Z' w') (hX:∀b,X' b→X b):Ext X' M Z w M' Z' w':=
 ⟨h.m,h.i,fun b i hx=>h.mX b i (hX b hx),h.size,fun b hx=>h.keep b (hX b hx),h.os,h.tape,h.output⟩
section
variable {M:Mem} {Z:Plc} {X:Nat→Prop} {D:Own} {w:World} {us:List Value} {J:List V} {U:Objs}
theorem Wd.lt (h:Wd M Z X D w U) {b i:Nat} {u:Value} (hm:M b i=some u):b<w.heap.size:=by
 have:=h.mem b i u hm
 unfold World.cell? at this
 rcases Xby b w.heap.size with hb|hb
 ·exact hb
 ·simp [Xb2 hb] at this
theorem Wd.drew (h:Wd M Z X D w U):Wd M Z X D { w with drawn:=w.drawn+1 } U:=
 ⟨h.mem,fun o b hi=>by
  obtain ⟨O,hO,hr⟩:=h.obj o b hi
  refine ⟨O,hO,?_⟩
  cases O <;> exact hr,h.olt,h.inj,h.xlt,h.xobj,h.kap⟩
theorem At.heap {w':World} (hw:w'.heap=w.heap) {p:Pl} {v:Value} {x:V} (h:At Z w' us J U p v x):At Z w us J U p v x:=by
 cases p with
 |s i=>exact h
 |c o i=>obtain ⟨b,ws,T,fz,cs,h1,h2,h3⟩:=h;exact ⟨b,ws,T,fz,cs,h1,hw▸h2,h3⟩
theorem GrOK.heap {w':World} {v:Value} {x:V} (hw:w'.heap=w.heap) (h:GrOK M w v x):GrOK M w' v x:=
 ⟨fun xs sz hx a len cap hv=>by
  obtain ⟨h1,h2,ws,T,fz,h3,h4⟩:=h.ok xs sz hx a len cap hv
  exact ⟨h1,h2,ws,T,fz,hw.symm▸h3,h4⟩⟩
theorem St.drew (h:St M Z X D w us J U):St M Z X D { w with drawn:=w.drawn+1 } us J U:=
 ⟨h.wd.drew,h.rep,fun p v x b ha=>h.own p v x b (At.heap (w:=w) rfl ha),fun p v x ha=>GrOK.heap (w:=w) (w':={ w with drawn:=w.drawn+1 }) rfl (h.gr p v x (At.heap (w:=w) rfl ha))⟩
theorem Ext.drew (X:Nat→Prop) (M:Mem) (Z:Plc) (w:World):Ext X M Z w M Z { w with drawn:=w.drawn+1 }:=
 ⟨.refl _,.refl _,fun _ _ _=>rfl,Xai _,fun _ _=>rfl,rfl,rfl,rfl⟩
theorem St.setSlot (h:St M Z X D w us J U) {v:Value} {x:V} (hr:Rep M Z v x) (ho:ownB v x=none) (d:Nat):St M Z X D w (us.set d v) (J.set d x) U:=by
 have key:∀p u y,At Z w (us.set d v) (J.set d x) U p u y→At Z w us J U p u y∨(u=v∧y=x):=by
  intro p u y ha
  cases p with
  |c o i=>exact .inl ha
  |s i=>
   obtain ⟨h1,h2⟩:=ha
   rw [Xbd] at h1 h2
   by_cases hd:d=i
   ·subst hd
    rw [if_pos rfl] at h1 h2
    split at h1
    ·split at h2
     ·cases h1;cases h2;exact .inr ⟨rfl,rfl⟩
     ·cases h2
    ·cases h1
   ·rw [if_neg hd] at h1 h2;exact .inl ⟨h1,h2⟩
 refine ⟨h.wd,h.rep.set hr d,fun p u y b ha hb => ?_,fun p u y ha => ?_⟩
 ·rcases key p u y ha with ha|⟨rfl,rfl⟩
  ·exact h.own p u y b ha hb
  ·rw [ho] at hb;cases hb
 ·rcases key p u y ha with ha|⟨rfl,rfl⟩
  ·exact h.gr p u y ha
  ·exact .of_none ho
theorem St.dropSlot (h:St M Z X D w us J U) (n:Nat):St M Z X D w us (J.set n (J.getD n .undef).ng) U:=by
 by_cases hn:n<J.length
 ·have hu:us[n]? = some (us[n]'(by rw [h.rep.1];exact hn)):=Xae _
  have hx:J[n]? = some (J[n]):=Xae hn
  have:=h.setSlot ((h.rep.2 n _ _ hu hx).ng) (Qbh _ _) n
  rw [show us.set n (us[n]'(by rw [h.rep.1];exact hn))=us from Xcb _] at this
  simpa [List.getD,hx] using this
 ·rw [List.set_eq_of_length_le X0o];exact h
theorem St.moveSlot (h:St M Z X D w us J U) {n d:Nat} {v:Value} {x:V} (hv:us[n]? = some v) (hx:J[n]? = some x):
  ∃D',St M Z X D' w (us.set d v) ((J.set n x.ng).set d x) U∧(∀b,(D b).isNone→(D' b).isNone):=by
 have hd:=h.dropSlot n
 have hg:J.getD n .undef=x:=by simp [List.getD,hx]
 rw [hg] at hd
 have hrx:=h.rep.2 n v x hv hx
 have hnlt:n<J.length:=(Xaf.1 hx).1
 cases hb:ownB v x with
 |none=>exact ⟨D,hd.setSlot hrx hb d,fun b hb=>hb⟩
 |some b=>
  have hat:At Z w us J U (.s n) v x:=⟨hv,hx⟩
  have hk:=h.own _ v x b hat hb
  refine ⟨fun b'=>if b'=b then some (.s d) else D b',⟨⟨h.wd.mem,h.wd.obj,h.wd.olt,h.wd.inj,h.wd.xlt,h.wd.xobj,?_⟩,hd.rep.set hrx d,?_,?_⟩,?_⟩
  ·intro b' p hp
   by_cases hbb:b'=b
   ·subst hbb;exact h.wd.kap b' _ hk
   ·rw [if_neg hbb] at hp;exact h.wd.kap b' p hp
  ·intro p u y b' ha hb'
   have hcase:p = .s d∧u=v∧y=x∨(p≠.s d∧At Z w us (J.set n x.ng) U p u y):=by
    cases p with
    |c o i=>exact .inr ⟨by simp,ha⟩
    |s i=>
     obtain ⟨h1,h2⟩:=ha
     rw [Xbd] at h1 h2
     by_cases hd':d=i
     ·subst hd'
      rw [if_pos rfl] at h1 h2
      split at h1
      ·split at h2
       ·cases h1;cases h2;exact .inl ⟨rfl,rfl,rfl⟩
       ·cases h2
      ·cases h1
     ·rw [if_neg hd'] at h1 h2;exact .inr ⟨by simpa using fun e=>hd' e.symm,⟨h1,h2⟩⟩
   rcases hcase with ⟨rfl,rfl,rfl⟩|⟨hp,ha'⟩
   ·rw [hb] at hb';cases hb';rw [if_pos rfl]
   ·have hk':=hd.own p u y b' ha' hb'
    by_cases hbb:b'=b
    ·subst hbb
     rw [hk] at hk'
     cases hk'
     obtain ⟨h1,h2⟩:=ha'
     rw [Xaq hnlt] at h2
     cases h2
     rw [Qbh] at hb';cases hb'
    ·rw [if_neg hbb];exact hk'
  ·intro p u y ha
   have hcase:(u=v∧y=x)∨At Z w us (J.set n x.ng) U p u y:=by
    cases p with
    |c o i=>exact .inr ha
    |s i=>
     obtain ⟨h1,h2⟩:=ha
     rw [Xbd] at h1 h2
     by_cases hd':d=i
     ·subst hd'
      rw [if_pos rfl] at h1 h2
      split at h1
      ·split at h2
       ·cases h1;cases h2;exact .inl ⟨rfl,rfl⟩
       ·cases h2
      ·cases h1
     ·rw [if_neg hd'] at h1 h2;exact .inr ⟨h1,h2⟩
   rcases hcase with ⟨rfl,rfl⟩|ha'
   ·exact h.gr _ _ _ hat
   ·exact hd.gr p u y ha'
  ·intro b' hb'
   by_cases hbb:b'=b
   ·subst hbb;rw [hk] at hb';cases hb'
   ·simpa [hbb] using hb'
end
theorem Qcs (b off n:Nat):(⟨b,off,none⟩:Addr).add n=⟨b,off+n,none⟩:=by
 unfold Addr.add
 split
 ·rename_i h;subst h;rfl
 ·rfl
theorem Qap {α:Type} (P:Program) (x:α) (w:World):(pure x:Sem α).run P w = .ok x w:=rfl
theorem Qad {α β:Type} (P:Program) (x:Sem α) (f:α→Sem β) (w:World):
  (x >>= f).run P w=(x.run P w).andThen fun a w'=>(f a).run P w':=Sem.run_bind' P x f w
theorem Qj8 {P:Program} {w:World} {a:Addr} {v:Value} (h:w.cell? a=some v):(load a).run P w = .ok v w:=by
 simp [load,Sem.run,h]
theorem Qe1 {P:Program} {w:World} (b off:Nat):∀(vs:List Value) (i:Nat) (acc:Array Value),
  (∀(j:Nat) u,vs[j]? = some u→w.cell? ⟨b,off+(i+j),none⟩=some u)→
  (loadCellsFrom ⟨b,off,none⟩ i vs.length acc).run P w = .ok (acc++vs.toArray) w
 |[],i,acc,_=>by simp [loadCellsFrom,Qap]
 |v::vs,i,acc,h=>by
  have h0:=h 0 v rfl
  simp only [Xal,loadCellsFrom,Qcs]
  rw [Qad,Qj8 (by simpa using h0)]
  simp only [Result.andThen]
  rw [Qe1 b off vs (i+1) (acc.push v) (fun j u hu=>by
   have:=h (j+1) u (by simpa using hu)
   rw [show off+(i+1+j)=off+(i+(j+1)) from by omega]
   exact this)]
  simp
theorem Qfk {P:Program} {w:World} (b off:Nat) (vs:List Value) (h:∀(j:Nat) u,vs[j]? = some u→w.cell? ⟨b,off+j,none⟩=some u):
  (loadCells ⟨b,off,none⟩ vs.length).run P w = .ok vs.toArray w:=by
 unfold loadCells
 rw [Qe1 b off vs 0 #[] (fun j u hu=>by simpa using h j u hu)]
 simp
def setRow (w:World) (b:Nat) (ws:Array Value) (T:TypeId) (fz:Nat×Nat):World:={ w with heap:=w.heap.setIfInBounds b (.cells ws T fz) }
theorem Qav (w:World) (b:Nat) (ws:Array Value) (T:TypeId) (fz:Nat×Nat) (c:Nat):
  (setRow w b ws T fz).heap[c]? = if b=c then (if b<w.heap.size then some (.cells ws T fz) else none) else w.heap[c]? := by
 simp only [setRow,Xcw]
theorem Qbn (w:World) (b:Nat) (ws:Array Value) (T:TypeId) (fz:Nat×Nat):(setRow w b ws T fz).heap.size=w.heap.size:=by
 simp [setRow]
theorem Qqm {w:World} {b:Nat} {ws:Array Value} {T:TypeId} {fz:Nat×Nat} (h:w.heap[b]? = some (.cells ws T fz)):setRow w b ws T fz=w:=by
 have hb:b<w.heap.size:=(Xa7.1 h).1
 have he:w.heap[b] = .cells ws T fz:=by rw [Xb4 hb] at h;exact Xbi h
 unfold setRow
 have:w.heap.setIfInBounds b (.cells ws T fz)=w.heap:=by
  apply Array.ext
  ·simp
  ·intro i h1 h2
   rw [Xcy (by simpa using h1)]
   split
   ·rename_i hbi;subst hbi;exact he.symm
   ·rfl
 rw [this]
def layA:Array Value→Nat→List Value→Array Value
 |ws,_,[]=>ws
 |ws,i,u::us=>layA (ws.setIfInBounds i u) (i+1) us
theorem Qf3:∀(us:List Value) (ws:Array Value) (i:Nat),(layA ws i us).size=ws.size
 |[],_,_=>rfl
 |u::us,ws,i=>by simp [layA,Qf3 us]
theorem Qgq:∀(us:List Value) (ws:Array Value) (i j:Nat),i+us.length≤ws.size→
  (layA ws i us)[j]? = if i≤j∧j<i+us.length then us[j - i]? else ws[j]?
 |[],ws,i,j,_=>by
  have:¬(i≤j∧j<i+([]:List Value).length):=by simp only [Xa9];omega
  rw [if_neg this]
  rfl
 |u::us,ws,i,j,h=>by
  simp only [Xal] at h
  simp only [layA]
  rw [Qgq us _ (i+1) j (by simp;omega),Xcw]
  by_cases hij:i=j
  ·subst hij
   rw [if_neg X0o,if_pos rfl,if_pos X0o,if_pos (by simp)]
   simp
  ·by_cases hc:i+1≤j∧j<i+1+us.length
   ·rw [if_pos hc,if_pos (by simp;omega)]
    rw [show j - i=(j - (i+1))+1 from by omega]
    simp
   ·rw [if_neg hc,if_neg hij,if_neg (by simp;omega)]
theorem Qcx {w:World} {b:Nat} {ws:Array Value} {T:TypeId} {fz:Nat×Nat} (h:w.heap[b]? = some (.cells ws T fz)) (i:Nat):w.cell? ⟨b,i,none⟩=ws[i]? := by
 simp [World.cell?,h]
theorem Qux {w:World} {b:Nat} {ws:Array Value} {T:TypeId} {fz:Nat×Nat} (h:w.heap[b]? = some (.cells ws T fz)) (i:Nat):w.frozen? ⟨b,i,none⟩=Qbp fz i:=by
 simp [World.frozen?,h,Qbp]
theorem Qqn {w:World} {b:Nat} {ws:Array Value} {T:TypeId} {fz:Nat×Nat} (h:w.heap[b]? = some (.cells ws T fz)) (i:Nat) (u:Value):
  w.setCell ⟨b,i,none⟩ u=setRow w b (ws.setIfInBounds i u) T fz:=by
 have hb:b<w.heap.size:=(Xa7.1 h).1
 have he:w.heap[b] = .cells ws T fz:=by rw [Xb4 hb] at h;exact Xbi h
 unfold World.setCell setRow
 have:w.heap.modify b (fun
   | .cells c elem frozen=>.cells (if (⟨b,i,none⟩:Addr).spot.isSome then c else c.setIfInBounds (⟨b,i,none⟩:Addr).off u) elem frozen
   |o=>o)=w.heap.setIfInBounds b (.cells (ws.setIfInBounds i u) T fz):=by
  apply Array.ext
  ·simp
  ·intro j h1 h2
   rw [Array.getElem_modify,Xcy (by simpa using h2)]
   split
   ·rename_i hbj;subst hbj;simp [he]
   ·rfl
 exact congrArg (fun h=>({ w with heap:=h } : World)) this
theorem run_store {P:Program} {w:World} {b i:Nat} {ws:Array Value} {T:TypeId} {fz:Nat×Nat} {u:Value} (h:w.heap[b]? = some (.cells ws T fz))
  (hi:i<ws.size) (hf:Qbp fz i=false) (hu:u.oneCell=true):(store ⟨b,i,none⟩ u).run P w = .ok () (setRow w b (ws.setIfInBounds i u) T fz):=by
 have hc:w.cell? ⟨b,i,none⟩=some ws[i]:=by rw [Qcx h,Xb4 hi]
 have hfz:w.frozen? ⟨b,i,none⟩=false:=by rw [Qux h,hf]
 rw [←Qqn h i u]
 unfold store
 cases u <;> first|(simp [Value.oneCell] at hu;done)|simp [Sem.run,hc,hfz]
theorem Qes {P:Program} (b off:Nat) (T:TypeId) (fz:Nat×Nat):∀(us:List Value) (w:World) (ws:Array Value) (i:Nat),
  w.heap[b]? = some (.cells ws T fz)→off+i+us.length≤ws.size→(∀j,off+i≤j→j<off+i+us.length→Qbp fz j=false)→(∀u∈us,u.oneCell=true)→
  (storeCells ⟨b,off,none⟩ us i).run P w = .ok () (setRow w b (layA ws (off+i) us) T fz)
 |[],w,ws,i,h,_,_,_=>by
  simp only [storeCells,layA]
  rw [Qqm h]
  rfl
 |u::us,w,ws,i,h,hl,hf,hu=>by
  simp only [Xal] at hl hf
  simp only [storeCells,Qcs,layA]
  have hb:b<w.heap.size:=(Xa7.1 h).1
  rw [Qad,run_store h X0o (hf _ X0o X0o) (hu u (by simp))]
  simp only [Result.andThen]
  have h':(setRow w b (ws.setIfInBounds (off+i) u) T fz).heap[b]? = some (.cells (ws.setIfInBounds (off+i) u) T fz):=by
   rw [Qav,if_pos rfl,if_pos hb]
  rw [Qes b off T fz us _ _ (i+1) h' (by simp;omega) (fun j h1 h2=>hf j X0o X0o) (fun v hv=>hu v (by simp [hv]))]
  congr 1
  unfold setRow
  simp only [Array.setIfInBounds_setIfInBounds,Xcp]
def Qcm (w:World) (o:Obj):World:={ w with heap:=w.heap.push o }
theorem Qiv (w:World) (o:Obj) (c:Nat):(Qcm w o).heap[c]? = if c=w.heap.size then some o else w.heap[c]? := by
 simp only [Qcm,Array.getElem?_push]
theorem Qcc (w:World) (o:Obj):(Qcm w o).heap.size=w.heap.size+1:=by simp [Qcm]
theorem Qc5 (w:World) (o:Obj) {c:Nat} (h:c<w.heap.size):(Qcm w o).heap[c]? = w.heap[c]? := by
 rw [Qiv,if_neg X0o]
theorem Qh3 (w:World) (o:Obj):(Qcm w o).heap[w.heap.size]? = some o:=by rw [Qiv,if_pos rfl]
def Qiw (M:Mem) (s:Nat) (ws:List Value):Mem:=fun b i=>if b=s then ws[i]? else M b i
section
variable {M:Mem} {Z:Plc} {X:Nat→Prop} {D:Own} {w:World} {us:List Value} {J:List V} {U:Objs}
theorem Qkq.push (hw:Wd M Z X D w U) {M':Mem} (hM:MemLe M M') (hM':∀b i,b<w.heap.size→M' b i=M b i) {Z':Plc} (hι:PlcLe Z Z') (o:Obj) {b:Nat} {O:O} (h:Qkq M Z w b O)
  (hb:b<w.heap.size):Qkq M' Z' (Qcm w o) b O:=by
 cases O with
 |cells cs=>
  obtain ⟨ws,T,fz,h1,h2,h3,h4,h5⟩:=h
  exact ⟨ws,T,fz,by rw [Qc5 w o hb];exact h1,h2.mono hM hι,h3,fun i=>by rw [hM' b i hb];exact h4 i,h5⟩
 |mp es=>
  obtain ⟨en,c,h1,h2⟩:=h
  exact ⟨en,c,by rw [Qc5 w o hb];exact h1,h2.1,fun i e p he hp=>⟨(h2.2 i e p he hp).1.mono hM hι,(h2.2 i e p he hp).2.mono hM hι⟩⟩
end
section
variable {M:Mem} {Z:Plc} {X:Nat→Prop} {D:Own} {w:World} {us:List Value} {J:List V} {U:Objs}
theorem Qdk {s:Nat} {ws:List Value} {b i:Nat} (h:b≠s):Qiw M s ws b i=M b i:=by unfold Qiw;rw [if_neg h]
theorem Qf4 {s:Nat} {ws:List Value} {i:Nat} : Qiw M s ws s i=ws[i]? := by unfold Qiw;rw [if_pos rfl]
theorem Wd.pushM_le (h:Wd M Z X D w U) (ws:List Value):MemLe M (Qiw M w.heap.size ws):=
 ⟨fun b i u hm=>by rw [Qdk (by have:=h.lt hm;omega)];exact hm⟩
theorem Wd.push (h:Wd M Z X D w U) (o:Obj) (ws:List Value) (ho:∀(i:Nat) u,ws[i]? = some u→∃ars T fz,o = .cells ars T fz∧ars[i]? = some u):
  Wd (Qiw M w.heap.size ws) Z X D (Qcm w o) U:=by
 refine ⟨fun b i u hm => ?_,fun o' b hi => ?_,fun o' b hi => ?_,h.inj,fun b hx => ?_,h.xobj,fun b p hp => ?_⟩
 ·by_cases hb:b=w.heap.size
  ·subst hb
   rw [Qf4] at hm
   obtain ⟨ars,T,fz,rfl,ha⟩:=ho i u hm
   rw [Qcx (Qh3 w _)];exact ha
  ·rw [Qdk hb] at hm
   have:=h.mem b i u hm
   rw [←this]
   have hlt:=h.lt hm
   simp only [World.cell?,Qc5 w o hlt]
 ·obtain ⟨O,hO,hr⟩:=h.obj o' b hi
  exact ⟨O,hO,hr.push h (h.pushM_le ws) (fun b i hb=>Qdk X0o) (.refl _) o (h.olt o' b hi)⟩
 ·have:=h.olt o' b hi;rw [Qcc];omega
 ·have:=h.xlt b hx;rw [Qcc];omega
 ·obtain ⟨h1,h2,h3⟩:=h.kap b p hp
  exact ⟨h1,h2,by rw [Qcc];omega⟩
theorem Ext.push (h:Wd M Z X D w U) (o:Obj) (ws:List Value):Ext X M Z w (Qiw M w.heap.size ws) Z (Qcm w o):=
 ⟨h.pushM_le ws,.refl _,fun b i hx=>Qdk (by have:=h.xlt b hx;omega),by rw [Qcc];omega,fun b hx=>Qc5 w o (h.xlt b hx),rfl,rfl,rfl⟩
theorem At.push (h:Wd M Z X D w U) {o:Obj} {p:Pl} {v:Value} {x:V} (ha:At Z (Qcm w o) us J U p v x):At Z w us J U p v x:=by
 cases p with
 |s i=>exact ha
 |c q i=>
  obtain ⟨b,ws,T,fz,cs,h1,h2,h3⟩:=ha
  rw [Qc5 w o (h.olt q b h1)] at h2
  exact ⟨b,ws,T,fz,cs,h1,h2,h3⟩
theorem GrOK.push {v:Value} {x:V} (h:GrOK M w v x) (o:Obj) (ws:List Value) (hl:∀a len cap,v = .slice (some a) len cap→∀b,ownB v x=some b→b<w.heap.size):
  GrOK (Qiw M w.heap.size ws) (Qcm w o) v x:=by
 refine ⟨fun xs sz hx a len cap hv => ?_⟩
 obtain ⟨h1,h2,ars,T,fz,h3,h4,h5⟩:=h.ok xs sz hx a len cap hv
 have hlt:a.block<w.heap.size:=(Xa7.1 h3).1
 exact ⟨h1,fun i hi=>by rw [Qdk X0o];exact h2 i hi,ars,T,fz,by rw [Qc5 w o hlt];exact h3,h4,h5⟩
theorem St.push (h:St M Z X D w us J U) (o:Obj) (ws:List Value) (ho:∀(i:Nat) u,ws[i]? = some u→∃ars T fz,o = .cells ars T fz∧ars[i]? = some u):
  St (Qiw M w.heap.size ws) Z X D (Qcm w o) us J U:=
 ⟨h.wd.push o ws ho,h.rep.mono (h.wd.pushM_le ws) (.refl _),fun p v x b ha hb=>h.own p v x b (At.push h.wd ha) hb,fun p v x ha=>
  (h.gr p v x (At.push h.wd ha)).push o ws fun a len cap hv b hb=>(h.wd.kap b _ (h.own p v x b (At.push h.wd ha) hb)).2.2⟩
theorem St.setOwn (h:St M Z X D w us J U) {v:Value} {x:V} (hr:Rep M Z v x) {b:Nat} (hb:ownB v x=some b) (hk:D b=none) (hX:¬X b) (hι:∀o,Z o≠some b) (hlt:b<w.heap.size)
  (hg:GrOK M w v x) (d:Nat):∃D',St M Z X D' w (us.set d v) (J.set d x) U:=by
 have key:∀p u y,At Z w (us.set d v) (J.set d x) U p u y→(p≠.s d∧At Z w us J U p u y)∨(p = .s d∧u=v∧y=x):=by
  intro p u y ha
  cases p with
  |c o i=>exact .inl ⟨by simp,ha⟩
  |s i=>
   obtain ⟨h1,h2⟩:=ha
   rw [Xbd] at h1 h2
   by_cases hd:d=i
   ·subst hd
    rw [if_pos rfl] at h1 h2
    split at h1
    ·split at h2
     ·cases h1;cases h2;exact .inr ⟨rfl,rfl,rfl⟩
     ·cases h2
    ·cases h1
   ·rw [if_neg hd] at h1 h2;exact .inl ⟨by simpa using fun e=>hd e.symm,⟨h1,h2⟩⟩
 refine ⟨fun b'=>if b'=b then some (.s d) else D b',⟨h.wd.mem,h.wd.obj,h.wd.olt,h.wd.inj,h.wd.xlt,h.wd.xobj,?_⟩,h.rep.set hr d,?_,?_⟩
 ·intro b' p hp
  by_cases hbb:b'=b
  ·subst hbb;exact ⟨hX,hι,hlt⟩
  ·simp only [hbb,if_false] at hp;exact h.wd.kap b' p hp
 ·intro p u y b' ha hb'
  rcases key p u y ha with ⟨hp,ha⟩|⟨rfl,rfl,rfl⟩
  ·have hk':=h.own p u y b' ha hb'
   have hbb:b'≠b:=fun e=>by subst e;rw [hk] at hk';cases hk'
   simp only [hbb,if_false];exact hk'
  ·rw [hb] at hb';cases hb';simp
 ·intro p u y ha
  rcases key p u y ha with ⟨hp,ha⟩|⟨rfl,rfl,rfl⟩
  ·exact h.gr p u y ha
  ·exact hg
theorem Wfj (h:Wd M Z X D w U):D w.heap.size=none:=by
 cases hk:D w.heap.size with
 |none=>rfl
 |some p=>have:=(h.kap _ p hk).2.2;omega
theorem inew (h:Wd M Z X D w U):∀o,Z o≠some w.heap.size:=fun o ho=>by have:=h.olt o _ ho;omega
theorem St.newRow (h:St M Z X D w us J U) (ars:Array Value) (T:TypeId) (fz:Nat×Nat) (xs:List V) (c:Cap) (cap sz:Nat)
  (hr:Reps M Z (ars.toList.take (xs.flatMap V.cells).length) (xs.flatMap V.cells)) (hs:∀y∈xs,y.cells.length=sz) (hcap:xs.length≤cap) (hfx:c = .fx→cap=xs.length)
  (hgr:∀s,c = .gr s→s=sz∧cap * sz≤ars.size∧∀i,(xs.flatMap V.cells).length≤i→i<ars.size→Qbp fz i=false) (d:Nat):
  ∃M' D',Ext X M Z w M' Z (Qcm w (.cells ars T fz))∧St M' Z X D' (Qcm w (.cells ars T fz)) (us.set d (.slice (some ⟨w.heap.size,0,none⟩) xs.length cap)) (J.set d (.sl xs c)) U∧
   Rep M' Z (.slice (some ⟨w.heap.size,0,none⟩) xs.length cap) (.sl xs c):=by
 generalize hk:(xs.flatMap V.cells).length=k at *
 have hM:=h.wd.pushM_le (ars.toList.take k)
 have hst:=h.push (.cells ars T fz) (ars.toList.take k) (fun i u hu=>⟨ars,T,fz,rfl,by
  rw [Xar] at hu
  split at hu
  ·simpa using hu
  ·cases hu⟩)
 have hrep:Rep (Qiw M w.heap.size (ars.toList.take k)) Z (.slice (some ⟨w.heap.size,0,none⟩) xs.length cap) (.sl xs c):=
  .sl xs c w.heap.size 0 cap sz (ars.toList.take k) hs (by rw [hr.1]) (fun i u hu=>by simpa [Qf4] using hu) (fun i u y hu hy=>(hr.2 i u y hu hy).mono hM (.refl _)) hcap hfx
 cases ho:ownB (.slice (some ⟨w.heap.size,0,none⟩) xs.length cap) (.sl xs c) with
 |none=>exact ⟨_,D,Ext.push h.wd _ _,hst.setSlot hrep ho d,hrep⟩
 |some b=>
  have hb:b=w.heap.size:=by cases c <;> simp [ownB] at ho;exact ho.symm
  subst hb
  obtain ⟨s,hc⟩:∃s,c = .gr s:=by cases c <;> simp [ownB] at ho;exact ⟨_,rfl⟩
  subst hc
  obtain ⟨rfl,hroom,hfrz⟩:=hgr s rfl
  obtain ⟨D',hst'⟩:=hst.setOwn hrep ho (Wfj h.wd) (fun hx=>by have:=h.wd.xlt _ hx;omega) (inew h.wd) (by rw [Qcc];omega)
   ⟨fun xs' sz' hx a len cap' hv=>by
    cases hx;cases hv
    refine ⟨hs,fun i hi => ?_,ars,T,fz,Qh3 w _,by simpa using hroom,fun i h1 h2=>hfrz i (by simpa [hk] using h1) h2⟩
    rw [Qf4,Xar]
    rw [if_neg (by simp only [hk,Xb1] at hi;omega)]⟩ d
  exact ⟨_,D',Ext.push h.wd _ _,hst',hrep⟩
theorem St.newObj (h:St M Z X D w us J U) (hι0:Z U.length=none) (ars:Array Value) (T:TypeId) (fz:Nat×Nat) (cs:List V) (hr:Reps M Z (ars.toList.take cs.length) cs)
  (hfz:∀i,i<cs.length→Qbp fz i=false) (hone:∀c∈cs,c.one=true) (hno:∀c∈cs,∀v,ownB v c=none):
  ∃M' Z',Ext X M Z w M' Z' (Qcm w (.cells ars T fz))∧Z' U.length=some w.heap.size∧St M' Z' X D (Qcm w (.cells ars T fz)) us J (U++[.cells cs])∧∀o,o≠U.length→Z' o=Z o:=by
 have hst:=h.push (.cells ars T fz) [] (fun i u hu=>by simp at hu)
 have hM:=h.wd.pushM_le []
 have hι:PlcLe Z (fun o=>if o=U.length then some w.heap.size else Z o):=⟨fun o b hb=>by
  by_cases ho:o=U.length
  ·subst ho;rw [hι0] at hb;cases hb
  ·simp only [ho,if_false];exact hb⟩
 refine ⟨Qiw M w.heap.size [],fun o=>if o=U.length then some w.heap.size else Z o,⟨hM,hι,fun b i hx=>Qdk (by have:=h.wd.xlt b hx;omega),by rw [Qcc];omega,fun b hx=>Qc5 w _ (h.wd.xlt b hx),rfl,rfl,rfl⟩,by simp,⟨⟨hst.wd.mem,?_,?_,?_,hst.wd.xlt,?_,?_⟩,hst.rep.mono (.refl _) hι,?_,?_⟩,fun o ho=>by simp [ho]⟩
 ·intro o b hb
  by_cases ho:o=U.length
  ·subst ho
   simp only [if_true] at hb
   cases hb
   refine ⟨.cells cs,by simp,ars,T,fz,Qh3 w _,hr.mono hM hι,hfz,fun i=>by rw [Qf4];simp,hone⟩
  ·simp only [ho,if_false] at hb
   obtain ⟨O,hO,hor⟩:=h.wd.obj o b hb
   refine ⟨O,by rw [Xaz (Xaf.1 hO).1];exact hO,?_⟩
   exact hor.push h.wd hM (fun b i hb=>Qdk X0o) hι _ (h.wd.olt o b hb)
 ·intro o b hb
  by_cases ho:o=U.length
  ·simp only [ho,if_true] at hb;cases hb;rw [Qcc];omega
  ·simp only [ho,if_false] at hb;exact hst.wd.olt o b hb
 ·intro o o' b hb hb'
  by_cases ho:o=U.length
  ·by_cases ho':o'=U.length
   ·rw [ho,ho']
   ·simp only [ho,if_true] at hb;simp only [ho',if_false] at hb'
    cases hb;exact absurd hb' (inew h.wd o')
  ·by_cases ho':o'=U.length
   ·simp only [ho,if_false] at hb;simp only [ho',if_true] at hb'
    cases hb';exact absurd hb (inew h.wd o)
   ·simp only [ho,if_false] at hb;simp only [ho',if_false] at hb'
    exact h.wd.inj o o' b hb hb'
 ·intro o b hb
  by_cases ho:o=U.length
  ·simp only [ho,if_true] at hb;cases hb;intro hx;have:=h.wd.xlt _ hx;omega
  ·simp only [ho,if_false] at hb;exact h.wd.xobj o b hb
 ·intro b p hp
  obtain ⟨h1,h2,h3⟩:=h.wd.kap b p hp
  refine ⟨h1,fun o ho => ?_,by rw [Qcc];omega⟩
  by_cases hoo:o=U.length
  ·simp only [hoo,if_true] at ho;cases ho;omega
  ·simp only [hoo,if_false] at ho;exact h2 o ho
 all_goals
  have key:∀p v x,At (fun o=>if o=U.length then some w.heap.size else Z o) (Qcm w (.cells ars T fz)) us J (U++[.cells cs]) p v x→At Z (Qcm w (.cells ars T fz)) us J U p v x∨ownB v x=none:=by
   intro p v x ha
   cases p with
   |s i=>exact .inl ha
   |c o i=>
    obtain ⟨b,ws,T',fz',cs',h1,h2,h3,h4,h5⟩:=ha
    by_cases ho:o=U.length
    ·subst ho
     simp at h3
     subst h3
     exact .inr (hno x (Xat h5) v)
    ·simp only [ho,if_false] at h1
     have hlt:o<U.length:=by
      obtain ⟨O,hO,_⟩:=h.wd.obj o b h1
      exact (Xaf.1 hO).1
     rw [Xaz hlt] at h3
     exact .inl ⟨b,ws,T',fz',cs',h1,h2,h3,h4,h5⟩
 ·intro p v x b ha hb
  rcases key p v x ha with ha|hn
  ·exact hst.own p v x b ha hb
  ·rw [hn] at hb;cases hb
 ·intro p v x ha
  rcases key p v x ha with ha|hn
  ·exact hst.gr p v x ha
  ·exact .of_none hn
theorem Wd.none_of_ge (h:Wd M Z X D w U) {o:Nat} (ho:U.length≤o):Z o=none:=by
 cases hi:Z o with
 |none=>rfl
 |some b=>
  obtain ⟨O,hO,_⟩:=h.obj o b hi
  have:=(Xaf.1 hO).1
  omega
end
theorem Qr7 {α:Type} {l:List α} {i:Nat} {u:α} (h:l[i]? = some u):l.set i u=l:=by
 obtain ⟨hi,rfl⟩:=Xaf.1 h
 exact Xcb hi
theorem Qdf:∀(cs:List V) (off:Nat) (ds:List V),(Qcp cs off ds).length=cs.length
 |cs,_,[]=>by unfold Qcp;rfl
 |[],_,_::_=>by simp [Qcp]
 |_::cs,0,x::xs=>by simp [Qcp,Qdf cs 0 xs]
 |c::cs,n+1,x::xs=>by simp [Qcp,Qdf cs n (x::xs)]
theorem Qd8:∀(cs:List V) (off:Nat) (ds:List V) (j:Nat),off+ds.length≤cs.length→
  (Qcp cs off ds)[j]? = if off≤j∧j<off+ds.length then ds[j - off]? else cs[j]?
 |cs,off,[],j,_=>by
  rw [if_neg (by simp only [Xa9];omega)]
  unfold Qcp;rfl
 |[],off,x::xs,j,h=>by simp at h
 |c::cs,0,x::xs,j,h=>by
  simp only [Qcp]
  cases j with
  |zero=>simp
  |succ j=>
   simp only [Xcq]
   rw [Qd8 cs 0 xs j (by simp at h ⊢; exact h)]
   simp only [Xa1,true_and,Xb1,Xal,Xd8,Nat.add_lt_add_iff_right,Xcq]
 |c::cs,n+1,x::xs,j,h=>by
  simp only [Qcp]
  cases j with
  |zero=>simp
  |succ j=>
   simp only [Xcq]
   rw [Qd8 cs n (x::xs) j (by simp at h ⊢; omega)]
   simp only [Nat.add_le_add_iff_right,Nat.add_sub_add_right]
   by_cases hc:n≤j∧j<n+(x::xs).length
   ·rw [if_pos hc,if_pos X0o]
   ·rw [if_neg hc,if_neg X0o]
section
variable {M:Mem} {Z:Plc} {X:Nat→Prop} {D:Own} {w:World} {us:List Value} {J:List V} {U:Objs}
theorem Ext.setRow {b:Nat} (hX:¬X b) (ws:Array Value) (T:TypeId) (fz:Nat×Nat):Ext X M Z w M Z (setRow w b ws T fz):=
 ⟨.refl _,.refl _,fun _ _ _=>rfl,by rw [Qbn];exact Xai _,fun c hc=>by
  have hbc:b≠c:=fun e=>by subst e;exact hX hc
  rw [Qav,if_neg hbc],rfl,rfl,rfl⟩
theorem Qkq.setRow {b c:Nat} {O:O} {ws:Array Value} {T:TypeId} {fz:Nat×Nat} (h:Qkq M Z w c O) (hbc:b≠c):Qkq M Z (setRow w b ws T fz) c O:=by
 cases O with
 |cells cs=>
  obtain ⟨ars,T',fz',h1,h2⟩:=h
  exact ⟨ars,T',fz',by rw [Qav,if_neg hbc];exact h1,h2⟩
 |mp es=>
  obtain ⟨en,k,h1,h2⟩:=h
  exact ⟨en,k,by rw [Qav,if_neg hbc];exact h1,h2⟩
theorem GrOK.setRow {v:Value} {x:V} {b:Nat} {ws:Array Value} {T:TypeId} {fz:Nat×Nat} (h:GrOK M w v x) (hb:∀c,ownB v x=some c→b≠c):GrOK M (setRow w b ws T fz) v x:=by
 refine ⟨fun xs sz hx a len cap hv => ?_⟩
 obtain ⟨h1,h2,ars,T',fz',h3,h4⟩:=h.ok xs sz hx a len cap hv
 exact ⟨h1,h2,ars,T',fz',by rw [Qav,if_neg (hb a.block (by rw [hx,hv];rfl))];exact h3,h4⟩
theorem St.setObj (h:St M Z X D w us J U) {o b off:Nat} {cs:List V} (hi:Z o=some b) (ho:U[o]? = some (.cells cs)) {ws:Array Value} {T:TypeId} {fz:Nat×Nat}
  (hb:w.heap[b]? = some (.cells ws T fz)) {vs:List Value} {ds:List V} (hr:Reps M Z vs ds) (hl:off+ds.length≤cs.length) (hone:∀c∈ds,c.one=true) (hno:∀c∈ds,∀v,ownB v c=none):
  St M Z X D (setRow w b (layA ws off vs) T fz) us J (U.set o (.cells (Qcp cs off ds)))∧Ext X M Z w M Z (setRow w b (layA ws off vs) T fz):=by
 have hX:=h.wd.xobj o b hi
 have hbl:=h.wd.olt o b hi
 have hol:o<U.length:=(Xaf.1 ho).1
 obtain ⟨O,hO,hor⟩:=h.wd.obj o b hi
 rw [ho] at hO;cases hO
 obtain ⟨ars,T',fz',h1,h2,h3,h4,h5⟩:=hor
 rw [hb] at h1;cases h1
 have hsz:cs.length≤ws.size:=by have:=h2.1;simp at this;omega
 have hvl:vs.length=ds.length:=hr.1
 have hget:∀j,(layA ws off vs)[j]? = if off≤j∧j<off+vs.length then vs[j - off]? else ws[j]? := fun j=>Qgq vs ws off j X0o
 have hget':∀j,(Qcp cs off ds)[j]? = if off≤j∧j<off+ds.length then ds[j - off]? else cs[j]? := fun j=>Qd8 cs off ds j hl
 have hreps:Reps M Z ((layA ws off vs).toList.take (Qcp cs off ds).length) (Qcp cs off ds):=by
  refine ⟨by simp [Qf3,Qdf];omega,fun i u c hu hc => ?_⟩
  rw [Xar] at hu
  split at hu
  ·rename_i hlt
   rw [Xdj,hget i] at hu
   rw [hget' i,←hvl] at hc
   by_cases hin:off≤i∧i<off+vs.length
   ·rw [if_pos hin] at hu hc;exact hr.2 _ u c hu hc
   ·rw [if_neg hin] at hu hc
    refine h2.2 i u c ?_ hc
    rw [Xar,if_pos (by rw [Qdf] at hlt;exact hlt)];simpa using hu
  ·cases hu
 have key:∀p v x,At Z (Ev.setRow w b (layA ws off vs) T fz) us J (U.set o (.cells (Qcp cs off ds))) p v x→At Z w us J U p v x∨ownB v x=none:=by
  intro p v x ha
  cases p with
  |s i=>exact .inl ha
  |c o' i=>
   obtain ⟨b',ws',T',fz',cs',g1,g2,g3,g4,g5⟩:=ha
   by_cases hoo:o=o'
   ·subst hoo
    rw [hi] at g1;cases g1
    rw [Qav,if_pos rfl,if_pos hbl] at g2;cases g2
    rw [Xaq hol] at g3;cases g3
    rw [hget i] at g4;rw [hget' i,←hvl] at g5
    by_cases hin:off≤i∧i<off+vs.length
    ·rw [if_pos hin] at g5;exact .inr (hno x (Xat g5) v)
    ·rw [if_neg hin] at g4 g5;exact .inl ⟨b,ws,_,_,cs,hi,hb,ho,g4,g5⟩
   ·have hbb:b≠b':=fun e=>hoo (h.wd.inj o o' b hi (e▸g1))
    rw [Qav,if_neg hbb] at g2
    rw [Xba hoo] at g3
    exact .inl ⟨b',ws',T',fz',cs',g1,g2,g3,g4,g5⟩
 refine ⟨⟨⟨fun c i u hm => ?_,fun o' c hi' => ?_,fun o' c hi'=>by rw [Qbn];exact h.wd.olt o' c hi',h.wd.inj,fun c hc=>by rw [Qbn];exact h.wd.xlt c hc,h.wd.xobj,
  fun c p hp=>by rw [Qbn];exact h.wd.kap c p hp⟩,h.rep,fun p v x c ha hc => ?_,fun p v x ha => ?_⟩,Ext.setRow hX _ _ _⟩
 ·have hcb:b≠c:=fun e=>by subst e;rw [h4 i] at hm;cases hm
  have:=h.wd.mem c i u hm
  simp only [World.cell?,Qav,if_neg hcb]
  simpa [World.cell?] using this
 ·by_cases hoo:o=o'
  ·subst hoo
   rw [hi] at hi';cases hi'
   refine ⟨_,Xaq hol,layA ws off vs,T,fz,by rw [Qav,if_pos rfl,if_pos hbl],hreps,fun i hi=>h3 i (by rw [Qdf] at hi;exact hi),h4,fun c hc => ?_⟩
   obtain ⟨i,hi⟩:=Xcc.1 hc
   rw [hget' i] at hi
   split at hi
   ·exact hone c (Xat hi)
   ·exact h5 c (Xat hi)
  ·obtain ⟨O',hO',hr'⟩:=h.wd.obj o' c hi'
   have hbb:b≠c:=fun e=>hoo (h.wd.inj o o' b hi (e▸hi'))
   exact ⟨O',by rw [Xba hoo];exact hO',hr'.setRow hbb⟩
 ·rcases key p v x ha with ha|hn
  ·exact h.own p v x c ha hc
  ·rw [hn] at hc;cases hc
 ·rcases key p v x ha with ha|hn
  ·exact (h.gr p v x ha).setRow fun c hc=>fun e=>by
    subst e
    exact (h.wd.kap _ _ (h.own p v x _ ha hc)).2.1 o hi
  ·exact .of_none hn
theorem St.weakCell (h:St M Z X D w us J U) {o i:Nat} {cs:List V} {x y:V} (ho:U[o]? = some (.cells cs)) (hx:cs[i]? = some x) (hx1:y.one=true) (hxy:∀v,Rep M Z v x→Rep M Z v y) (hyo:∀v,ownB v y=none):
  St M Z X D w us J (U.set o (.cells (cs.set i y))):=by
 have hol:o<U.length:=(Xaf.1 ho).1
 have hil:i<cs.length:=(Xaf.1 hx).1
 have key:∀p v z,At Z w us J (U.set o (.cells (cs.set i y))) p v z→At Z w us J U p v z∨ownB v z=none:=by
  intro p v z ha
  cases p with
  |s j=>exact .inl ha
  |c o' j=>
   obtain ⟨b,ws,T,fz,cs',g1,g2,g3,g4,g5⟩:=ha
   by_cases hoo:o=o'
   ·subst hoo
    rw [Xaq hol] at g3;cases g3
    by_cases hij:i=j
    ·subst hij
     rw [Xaq hil] at g5;cases g5
     exact .inr (hyo _)
    ·rw [Xba hij] at g5
     exact .inl ⟨b,ws,T,fz,cs,g1,g2,ho,g4,g5⟩
   ·rw [Xba hoo] at g3
    exact .inl ⟨b,ws,T,fz,cs',g1,g2,g3,g4,g5⟩
 refine ⟨⟨h.wd.mem,fun o' b hi => ?_,h.wd.olt,h.wd.inj,h.wd.xlt,h.wd.xobj,h.wd.kap⟩,h.rep,fun p v z b ha hb => ?_,fun p v z ha => ?_⟩
 ·obtain ⟨O,hO,hr⟩:=h.wd.obj o' b hi
  by_cases hoo:o=o'
  ·subst hoo
   rw [ho] at hO;cases hO
   obtain ⟨ws,T,fz,h1,h2,h3,h4,h5⟩:=hr
   refine ⟨_,Xaq hol,ws,T,fz,h1,?_,fun j hj=>h3 j (by simpa using hj),h4,fun c hc => ?_⟩
   ·rw [Xdb]
    obtain ⟨u,hu,hru⟩:=h2.get hx
    have:=h2.set (hxy _ hru) i
    rwa [Qr7 hu] at this
   ·rcases Xci hc with hc|rfl
    ·exact h5 c hc
    ·exact hx1
  ·exact ⟨O,by rw [Xba hoo];exact hO,hr⟩
 ·rcases key p v z ha with ha|hn
  ·exact h.own p v z b ha hb
  ·rw [hn] at hb;cases hb
 ·rcases key p v z ha with ha|hn
  ·exact h.gr p v z ha
  ·exact .of_none hn
theorem St.dropCell (h:St M Z X D w us J U) {o i:Nat} {cs:List V} {x:V} (ho:U[o]? = some (.cells cs)) (hx:cs[i]? = some x) (hx1:x.ng.one=true):
  St M Z X D w us J (U.set o (.cells (cs.set i x.ng))):=h.weakCell ho hx hx1 (fun _ hr=>hr.ng) (fun _=>Qbh _ _)
end
section
variable {M:Mem} {Z:Plc} {X:Nat→Prop} {D:Own} {w:World} {us:List Value} {J:List V} {U:Objs}
structure Free (M:Mem) (Z:Plc) (X:Nat→Prop) (D:Own) (w:World) (b:Nat):Prop where
 k:D b=none
 x:¬X b
 i:∀o,Z o≠some b
 lt:b<w.heap.size
theorem St.release (h:St M Z X D w us J U) (b:Nat) (hn:∀p v x,At Z w us J U p v x→ownB v x≠some b):St M Z X (fun c=>if c=b then none else D c) w us J U:=
 ⟨⟨h.wd.mem,h.wd.obj,h.wd.olt,h.wd.inj,h.wd.xlt,h.wd.xobj,fun c p hp=>by
  by_cases hc:c=b
  ·simp only [hc,if_true] at hp;cases hp
  ·simp only [hc,if_false] at hp;exact h.wd.kap c p hp⟩,h.rep,fun p v x c ha hc=>by
  by_cases hcb:c=b
  ·subst hcb;exact absurd hc (hn p v x ha)
  ·simp only [hcb,if_false];exact h.own p v x c ha hc,h.gr⟩
theorem St.takeSlot (h:St M Z X D w us J U) {n b:Nat} {v:Value} {x:V} (hv:us[n]? = some v) (hx:J[n]? = some x) (hb:ownB v x=some b):
  ∃D',St M Z X D' w us (J.set n x.ng) U∧Free M Z X D' w b∧GrOK M w v x:=by
 have hat:At Z w us J U (.s n) v x:=⟨hv,hx⟩
 have hk:=h.own _ v x b hat hb
 have hd:=h.dropSlot n
 have hg:J.getD n .undef=x:=by simp [List.getD,hx]
 rw [hg] at hd
 have hnlt:n<J.length:=(Xaf.1 hx).1
 refine ⟨_,hd.release b fun p u y ha hu => ?_,⟨by simp,(h.wd.kap b _ hk).1,(h.wd.kap b _ hk).2.1,(h.wd.kap b _ hk).2.2⟩,h.gr _ _ _ hat⟩
 have:=hd.own p u y b ha hu
 rw [hk] at this
 cases this
 obtain ⟨h1,h2⟩:=ha
 rw [Xaq hnlt] at h2
 cases h2
 rw [Qbh] at hu;cases hu
theorem St.takeCell (h:St M Z X D w us J U) {o i b c:Nat} {cs:List V} {v:Value} {x:V} (hi:Z o=some c) {ws:Array Value} {T:TypeId} {fz:Nat×Nat} (hw:w.heap[c]? = some (.cells ws T fz))
  (ho:U[o]? = some (.cells cs)) (hv:ws[i]? = some v) (hx:cs[i]? = some x) (hb:ownB v x=some b):
  ∃D',St M Z X D' w us J (U.set o (.cells (cs.set i x.ng)))∧Free M Z X D' w b∧GrOK M w v x:=by
 have hat:At Z w us J U (.c o i) v x:=⟨c,ws,T,fz,cs,hi,hw,ho,hv,hx⟩
 have hk:=h.own _ v x b hat hb
 have hx1:x.ng.one=true:=by
  rw [V.nogr_one]
  cases x <;> first|rfl|simp [ownB] at hb
 have hd:=h.dropCell ho hx hx1
 have hol:o<U.length:=(Xaf.1 ho).1
 have hil:i<cs.length:=(Xaf.1 hx).1
 refine ⟨_,hd.release b fun p u y ha hu => ?_,⟨by simp,(h.wd.kap b _ hk).1,(h.wd.kap b _ hk).2.1,(h.wd.kap b _ hk).2.2⟩,h.gr _ _ _ hat⟩
 have:=hd.own p u y b ha hu
 rw [hk] at this
 cases this
 obtain ⟨b',ws',T',fz',cs',g1,g2,g3,g4,g5⟩:=ha
 rw [Xaq hol] at g3;cases g3
 rw [Xaq hil] at g5;cases g5
 rw [Qbh] at hu;cases hu
theorem St.giveSlot (h:St M Z X D w us J U) {v:Value} {x:V} (hr:Rep M Z v x) {b:Nat} (hb:ownB v x=some b) (hf:Free M Z X D w b) (hg:GrOK M w v x) (d:Nat):
  ∃D',St M Z X D' w (us.set d v) (J.set d x) U:=h.setOwn hr hb hf.k hf.x hf.i hf.lt hg d
theorem St.giveCell (h:St M Z X D w us J U) {o i c:Nat} {cs:List V} {v:Value} {x:V} (hi:Z o=some c) {ws:Array Value} {T:TypeId} {fz:Nat×Nat} (hw:w.heap[c]? = some (.cells ws T fz))
  (ho:U[o]? = some (.cells cs)) (hv:ws[i]? = some v) (hx:i<cs.length) (hr:Rep M Z v x) (hx1:x.one=true) {b:Nat} (hb:ownB v x=some b) (hf:Free M Z X D w b) (hg:GrOK M w v x):
  ∃D',St M Z X D' w us J (U.set o (.cells (cs.set i x))):=by
 have hol:o<U.length:=(Xaf.1 ho).1
 have key:∀p u y,At Z w us J (U.set o (.cells (cs.set i x))) p u y→(p≠.c o i∧At Z w us J U p u y)∨(p = .c o i∧u=v∧y=x):=by
  intro p u y ha
  cases p with
  |s j=>exact .inl ⟨by simp,ha⟩
  |c o' j=>
   obtain ⟨b',ws',T',fz',cs',g1,g2,g3,g4,g5⟩:=ha
   by_cases hoo:o=o'
   ·subst hoo
    rw [hi] at g1;cases g1
    rw [hw] at g2;cases g2
    rw [Xaq hol] at g3;cases g3
    by_cases hij:i=j
    ·subst hij
     rw [Xaq hx] at g5;cases g5
     rw [hv] at g4;cases g4
     exact .inr ⟨rfl,rfl,rfl⟩
    ·rw [Xba hij] at g5
     exact .inl ⟨by simpa using fun e=>hij e.symm,⟨_,_,_,_,cs,hi,hw,ho,g4,g5⟩⟩
   ·rw [Xba hoo] at g3
    exact .inl ⟨by simpa using fun e=>absurd e.symm hoo,⟨b',ws',T',fz',cs',g1,g2,g3,g4,g5⟩⟩
 refine ⟨fun b'=>if b'=b then some (.c o i) else D b',⟨h.wd.mem,fun o' c' hi' => ?_,h.wd.olt,h.wd.inj,h.wd.xlt,h.wd.xobj,?_⟩,h.rep,?_,?_⟩
 ·obtain ⟨O,hO,hor⟩:=h.wd.obj o' c' hi'
  by_cases hoo:o=o'
  ·subst hoo
   rw [hi] at hi';cases hi'
   rw [ho] at hO;cases hO
   obtain ⟨ws',T',fz',h1,h2,h3,h4,h5⟩:=hor
   rw [hw] at h1;cases h1
   refine ⟨_,Xaq hol,ws,T,fz,hw,?_,fun j hj=>h3 j (by simpa using hj),h4,fun c hc => ?_⟩
   ·rw [Xdb]
    have:=h2.set hr i
    rwa [Qr7 (show (ws.toList.take cs.length)[i]? = some v by rw [Xar,if_pos hx];simpa using hv)] at this
   ·rcases Xci hc with hc|rfl
    ·exact h5 c hc
    ·exact hx1
  ·exact ⟨O,by rw [Xba hoo];exact hO,hor⟩
 ·intro b' p hp
  by_cases hbb:b'=b
  ·subst hbb;exact ⟨hf.x,hf.i,hf.lt⟩
  ·simp only [hbb,if_false] at hp;exact h.wd.kap b' p hp
 ·intro p u y b' ha hb'
  rcases key p u y ha with ⟨hp,ha⟩|⟨rfl,rfl,rfl⟩
  ·have hk':=h.own p u y b' ha hb'
   have hbb:b'≠b:=fun e=>by subst e;rw [hf.k] at hk';cases hk'
   simp only [hbb,if_false];exact hk'
  ·rw [hb] at hb';cases hb';simp
 ·intro p u y ha
  rcases key p u y ha with ⟨hp,ha⟩|⟨rfl,rfl,rfl⟩
  ·exact h.gr p u y ha
  ·exact hg
def Qkr (M:Mem) (b s:Nat) (vs:List Value):Mem:=fun c i=>if c=b∧s≤i∧i<s+vs.length then vs[i - s]? else M c i
theorem Wbe {b s:Nat} {vs:List Value} (hn:∀i,s≤i→M b i=none):MemLe M (Qkr M b s vs):=
 ⟨fun c i u hm=>by
  unfold Qkr
  by_cases hc:c=b∧s≤i∧i<s+vs.length
  ·obtain ⟨rfl,h1,_⟩:=hc;rw [hn i h1] at hm;cases hm
  ·rw [if_neg hc];exact hm⟩
theorem St.fill (h:St M Z X D w us J U) {b s:Nat} (hf:Free M Z X D w b) {ws:Array Value} {T:TypeId} {fz:Nat×Nat} (hb:w.heap[b]? = some (.cells ws T fz)) {vs:List Value}
  (hn:∀i,s≤i→M b i=none) (hl:s+vs.length≤ws.size):
  St (Qkr M b s vs) Z X D (setRow w b (layA ws s vs) T fz) us J U∧Ext X M Z w (Qkr M b s vs) Z (setRow w b (layA ws s vs) T fz):=by
 have hle:=Wbe (M:=M) (vs:=vs) hn
 have hget:∀j,(layA ws s vs)[j]? = if s≤j∧j<s+vs.length then vs[j - s]? else ws[j]? := fun j=>Qgq vs ws s j hl
 have hother:∀c i,c≠b→Qkr M b s vs c i=M c i:=fun c i hc=>by unfold Qkr;rw [if_neg (fun e=>hc e.1)]
 have hatb:∀p v x,At Z (setRow w b (layA ws s vs) T fz) us J U p v x→At Z w us J U p v x:=by
  intro p v x ha
  cases p with
  |s i=>exact ha
  |c o i=>
   obtain ⟨b',ws',T',fz',cs',g1,g2,g3⟩:=ha
   have hbb:b≠b':=fun e=>by subst e;exact hf.i o g1
   rw [Qav,if_neg hbb] at g2
   exact ⟨b',ws',T',fz',cs',g1,g2,g3⟩
 have hownb:∀p v x c,At Z w us J U p v x→ownB v x=some c→b≠c:=fun p v x c ha hc e=>by
  subst e;have:=h.own p v x _ ha hc;rw [hf.k] at this;cases this
 refine ⟨⟨⟨fun c i u hm => ?_,fun o c hi => ?_,fun o c hi=>by rw [Qbn];exact h.wd.olt o c hi,h.wd.inj,fun c hc=>by rw [Qbn];exact h.wd.xlt c hc,h.wd.xobj,
  fun c p hp=>by rw [Qbn];exact h.wd.kap c p hp⟩,h.rep.mono hle (.refl _),fun p v x c ha hc=>h.own p v x c (hatb p v x ha) hc,fun p v x ha => ?_⟩,
  ⟨hle,.refl _,fun c i hc=>hother c i (fun e=>hf.x (e▸hc)),by rw [Qbn];exact Xai _,fun c hc=>by
   have hbc:b≠c:=fun e=>by subst e;exact hf.x hc
   rw [Qav,if_neg hbc],rfl,rfl,rfl⟩⟩
 ·by_cases hcb:c=b
  ·subst hcb
   rw [Qcx (by rw [Qav,if_pos rfl,if_pos hf.lt]:(setRow w c (layA ws s vs) T fz).heap[c]? = some (.cells (layA ws s vs) T fz)),hget i]
   unfold Qkr at hm
   by_cases hin:s≤i∧i<s+vs.length
   ·rw [if_pos ⟨rfl,hin⟩] at hm;rw [if_pos hin];exact hm
   ·rw [if_neg (fun e=>hin e.2)] at hm;rw [if_neg hin]
    have:=h.wd.mem c i u hm
    rwa [Qcx hb] at this
  ·rw [hother c i hcb] at hm
   have:=h.wd.mem c i u hm
   simp only [World.cell?,Qav,if_neg (Ne.symm hcb)]
   simpa [World.cell?] using this
 ·obtain ⟨O,hO,hor⟩:=h.wd.obj o c hi
  have hcb:c≠b:=fun e=>hf.i o (e▸hi)
  refine ⟨O,hO,?_⟩
  cases O with
  |cells cs=>
   obtain ⟨ars,T',fz',h1,h2,h3,h4,h5⟩:=hor
   exact ⟨ars,T',fz',by rw [Qav,if_neg (Ne.symm hcb)];exact h1,h2.mono hle (.refl _),h3,fun i=>by rw [hother c i hcb];exact h4 i,h5⟩
  |mp es=>
   obtain ⟨en,k,h1,h2⟩:=hor
   exact ⟨en,k,by rw [Qav,if_neg (Ne.symm hcb)];exact h1,h2.1,fun i e p he hp=>⟨(h2.2 i e p he hp).1.mono hle (.refl _),(h2.2 i e p he hp).2.mono hle (.refl _)⟩⟩
 ·have ha':=hatb p v x ha
  refine ⟨fun xs sz hx a len cap hv => ?_⟩
  have hob:ownB v x=some a.block:=by rw [hx,hv];rfl
  have hne:=hownb p v x _ ha' hob
  obtain ⟨h1,h2,ars,T',fz',h3,h4⟩:=(h.gr p v x ha').ok xs sz hx a len cap hv
  exact ⟨h1,fun i hi=>by rw [hother _ i (Ne.symm hne)];exact h2 i hi,ars,T',fz',by rw [Qav,if_neg hne];exact h3,h4⟩
end
def Qm4:Value→V→Bool
 | .bool a,.bool b=>a == b
 | .int k a,.int j b=>decide (k=j)&&decide (a=b)
 | .string s,.str l=>decide (s.data.toList=l)
 | .pointer none,.nilp=>true
 | .slice none n m,.nils=>n == 0&&m == 0
 | .map none,.nilm=>true
 | .nilIface,.nili=>true
 | .nilFunc,.nilf=>true
 |_,_=>false
def Qdw:List Value→List V→Bool
 |[],[]=>true
 |v::vs,x::xs=>Qm4 v x&&Qdw vs xs
 |_,_=>false
def Qm5:Value→V→Bool
 | .agg vs,.agg cs=>Qdw vs.toList cs
 | .tuple vs,.undef=>vs.toList.isEmpty
 |v,x=>Qm4 v x
def Qa2:Operand→Arg→Bool
 | .tmp t,.t n=>t == n
 | .const v,.c x=>Qm5 v x
 | .global g,.g n=>g == n
 | .func f,.f g=>f == g
 |_,_=>false
def Qb2:List Operand→List Arg→Bool
 |[],[]=>true
 |x::xs,y::ys=>Qa2 x y&&Qb2 xs ys
 |_,_=>false
def szOf (P:Program) (t:TypeId):Option Nat:=(P.info? t).map (·.size)
def isAg:TypeDesc→Bool
 | .struct _ | .array _ _=>true
 |_=>false
def agOf (P:Program) (t:TypeId):Option Bool:=(P.underlying t).map isAg
def Qet (P:Program) (t:TypeId) (ag:Bool) (sz:Nat):Bool:=agOf P t == some ag&&szOf P t == some sz&&(ag||sz == 1)
section
variable {M:Mem} {Z:Plc}
theorem Qks {v:Value} {x:V} (h:Qm4 v x=true):Rep M Z v x∧x.one=true∧x.ng=x∧v.oneCell=true:=by
 unfold Qm4 at h
 split at h
 ·simp at h;subst h;exact ⟨.bool _,rfl,rfl,rfl⟩
 ·simp at h;obtain ⟨rfl,rfl⟩:=h;exact ⟨.int _ _,rfl,rfl,rfl⟩
 ·simp at h;exact ⟨.str _ _ h,rfl,rfl,rfl⟩
 ·exact ⟨.nilp,rfl,rfl,rfl⟩
 ·simp at h;obtain ⟨rfl,rfl⟩:=h;exact ⟨.nils,rfl,rfl,rfl⟩
 ·exact ⟨.nilm,rfl,rfl,rfl⟩
 ·exact ⟨.nili,rfl,rfl,rfl⟩
 ·exact ⟨.nilf,rfl,rfl,rfl⟩
 ·cases h
theorem Qb5:∀ {vs:List Value} {xs:List V},Qdw vs xs=true→Reps M Z vs xs∧(∀x∈xs,x.one=true∧x.ng=x)∧∀v∈vs,v.oneCell=true
 |[],[],_=>⟨.nil,by simp,by simp⟩
 |v::vs,x::xs,h=>by
  simp only [Qdw,Xac] at h
  obtain ⟨h1,h2,h3,h4⟩:=Qks (M:=M) (Z:=Z) h.1
  obtain ⟨h5,h6,h7⟩:=Qb5 h.2
  exact ⟨Reps.cons h1 h5,fun y hy=>by
   rcases Xay.1 hy with rfl|hy
   ·exact ⟨h2,h3⟩
   ·exact h6 y hy,fun y hy=>by
   rcases Xay.1 hy with rfl|hy
   ·exact h4
   ·exact h7 y hy⟩
 |[],_::_,h=>by simp [Qdw] at h
 |_::_,[],h=>by simp [Qdw] at h
theorem Qom {v:Value} {x:V} (h:Qm5 v x=true):Rep M Z v x∧x.ng=x:=by
 unfold Qm5 at h
 split at h
 ·exact ⟨Rep.agg_iff.2 (Qb5 h).1,rfl⟩
 ·rename_i vs
  have:vs = #[]:=by simpa using h
  subst this
  exact ⟨.undef,rfl⟩
 ·have:=Qks (M:=M) (Z:=Z) h;exact ⟨this.1,this.2.2.1⟩
structure GOK (G:GV) (M:Mem) (Z:Plc):Prop where
 ok:∀g,Rep M Z (.pointer (some ⟨g,0,none⟩)) (G g)
 ex:∀p∈G.ex,M p.1 p.2.1=some p.2.2
theorem GOK.mono {G:GV} {M M':Mem} {Z Z':Plc} (h:GOK G M Z) (hm:MemLe M M') (hi:PlcLe Z Z'):GOK G M' Z':=⟨fun g=>(h.ok g).mono hm hi,fun p hp=>hm.le _ _ _ (h.ex p hp)⟩
theorem Qh4 {us:List Value} {J:List V} (h:Reps M Z us J) (n:Nat):Rep M Z (us.getD n undef) (J.getD n .undef):=by
 by_cases hn:n<J.length
 ·have hu:n<us.length:=by rw [h.1];exact hn
  simp only [List.getD,Xae hn,Xae hu,Xbg]
  exact h.2 n _ _ (Xae hu) (Xae hn)
 ·have hu:¬n<us.length:=by rw [h.1];exact hn
  simp only [List.getD,Xa3 (Xc0.1 hn),Xa3 (Xc0.1 hu),Xb7]
  exact .undef
theorem Qix {G:GV} {a:Act} {J:List V} (hr:Reps M Z a.tmps.toList J) (hG:GOK G M Z) {x:Operand} {y:Arg} (h:Qa2 x y=true):Rep M Z (a.eval x) (argT G J y):=by
 unfold Qa2 at h
 split at h
 ·rename_i t n
  have:t=n:=by simpa using h
  subst this
  have:=Qh4 hr t
  simpa [Act.eval,argT,Xbs,List.getD] using this
 ·exact (Qom h).1
 ·rename_i g n
  have:g=n:=by simpa using h
  subst this
  exact hG.ok g
 ·rename_i f g
  have:f=g:=by simpa using h
  subst this
  exact .fn f #[] #[] [] [] rfl rfl (fun i v c h=>by simp at h) (fun i v c h=>by simp at h)
 ·cases h
structure Opd (M:Mem) (Z:Plc) (r:Operand→Value) (A:Arg→V):Prop where
 ok:∀x y,Qa2 x y=true→Rep M Z (r x) (A y)
theorem Opd.args {r:Operand→Value} {A:Arg→V} (h:Opd M Z r A):∀ {xs:List Operand} {ys:List Arg},Qb2 xs ys=true→Reps M Z (xs.map r) (ys.map A)
 |[],[],_=>.nil
 |x::xs,y::ys,hc=>by
  simp only [Qb2,Xac] at hc
  exact Reps.cons (h.ok x y hc.1) (h.args hc.2)
 |[],_::_,hc=>by simp [Qb2] at hc
 |_::_,[],hc=>by simp [Qb2] at hc
theorem Opd.of_state {G:GV} {a:Act} {J:List V} (hr:Reps M Z a.tmps.toList J) (hG:GOK G M Z):Opd M Z a.eval (arg G J):=
 ⟨fun x y h=>(Qix hr hG h).ng⟩
theorem Rep.inv_bool {v:Value} {b:Bool} (h:Rep M Z v (.bool b)):v = .bool b:=by cases h;rfl
theorem Rep.inv_int {v:Value} {k:IntKind} {n:Int} (h:Rep M Z v (.int k n)):v = .int k n:=by cases h;rfl
theorem Rep.inv_str {v:Value} {s:List UInt8} (h:Rep M Z v (.str s)):∃b:ByteArray,v = .string b∧b.data.toList=s:=by cases h;exact ⟨_,rfl,‹_›⟩
theorem Rep.inv_ptr {v:Value} {o off:Nat} (h:Rep M Z v (.ptr o off)):∃b,v = .pointer (some ⟨b,off,none⟩)∧Z o=some b:=by cases h;exact ⟨_,rfl,‹_›⟩
theorem Rep.inv_eptr {v:Value} {cs:List V} {off:Nat} (h:Rep M Z v (.eptr cs off)):
  ∃b base us,v = .pointer (some ⟨b,base+off,none⟩)∧Reps M Z us cs∧∀(i:Nat) u,us[i]? = some u→M b (base+i)=some u:=by
 cases h with
 |eptr _ _ b base us hl hm hr=>exact ⟨b,base,us,rfl,⟨hl,hr⟩,hm⟩
theorem Rep.inv_sl {v:Value} {xs:List V} {c:Cap} (h:Rep M Z v (.sl xs c)):
  (∃b off cap sz us,v = .slice (some ⟨b,off,none⟩) xs.length cap∧(∀x∈xs,x.cells.length=sz)∧Reps M Z us (xs.flatMap V.cells)∧(∀(i:Nat) u,us[i]? = some u→M b (off+i)=some u)∧xs.length≤cap∧(c = .fx→cap=xs.length)) ∨
   ∃a,v = .slice (some a) 0 0∧xs=[]∧∀s,c≠.gr s:=by
 cases h with
 |sl _ _ b off cap sz us hs hl hm hr hcap hfx=>exact .inl ⟨b,off,cap,sz,us,rfl,hs,⟨hl,hr⟩,hm,hcap,hfx⟩
 |sl0 a _ hg=>exact .inr ⟨a,rfl,rfl,hg⟩
theorem Rep.inv_hs {v:Value} {o off len sz:Nat} {ag:Bool} (h:Rep M Z v (.hs o off len sz ag)):∃b cap,v = .slice (some ⟨b,off,none⟩) len cap∧Z o=some b∧len≤cap:=by
 cases h;exact ⟨_,_,rfl,‹_›,‹_›⟩
end
section
variable {P:Program} {w:World}
theorem run_underlying {t:TypeId} {d:TypeDesc} (h:P.underlying t=some d):(underlying t).run P w = .ok d w:=by
 simp [underlying,program,Qad,Sem.run,Result.andThen,h]
theorem Qjl {t:TypeId} {i:TypeInfo} (h:P.info? t=some i):(typeInfo t).run P w = .ok i w:=by
 simp [typeInfo,program,Qad,Sem.run,Result.andThen,h]
theorem Qb3 {t:TypeId} {n:Nat} (h:szOf P t=some n):(sizeOf t).run P w = .ok n w:=by
 unfold szOf at h
 rw [Xam] at h
 obtain ⟨i,hi,rfl⟩:=h
 simp only [sizeOf,Qad,Qjl hi,Result.andThen]
 rfl
theorem Qdy {t:TypeId} {b:Bool} (h:agOf P t=some b):(isAgg t).run P w = .ok b w:=by
 unfold agOf at h
 rw [Xam] at h
 obtain ⟨d,hd,rfl⟩:=h
 simp only [isAgg,Qad,run_underlying hd,Result.andThen]
 cases d <;> rfl
end
def Qd9 (w:World) (b off:Nat) (us:List Value):Prop:=∀(i:Nat) u,us[i]? = some u→w.cell? ⟨b,off+i,none⟩=some u
section
variable {P:Program} {M:Mem} {Z:Plc} {X:Nat→Prop} {D:Own} {w:World} {U:Objs}
theorem Qd9.drop {b off:Nat} {us:List Value} (h:Qd9 w b off us) (n:Nat):Qd9 w b (off+n) (us.drop n):=fun i u hu=>by
 rw [Xa6] at hu
 have:=h (n+i) u hu
 rwa [←Xcp] at this
theorem Qd9.take {b off:Nat} {us:List Value} (h:Qd9 w b off us) (n:Nat):Qd9 w b off (us.take n):=fun i u hu=>by
 rw [Xar] at hu
 split at hu
 ·exact h i u hu
 ·cases hu
theorem Wd.cells (h:Wd M Z X D w U) {b off:Nat} {us:List Value} (hm:∀(i:Nat) u,us[i]? = some u→M b (off+i)=some u):Qd9 w b off us:=fun i u hu=>h.mem b _ u (hm i u hu)
theorem Wd.objCells (h:Wd M Z X D w U) {o b:Nat} {cs:List V} (hi:Z o=some b) (ho:Objs.get U o=some cs):∃us,Reps M Z us cs∧Qd9 w b 0 us:=by
 unfold Objs.get at ho
 obtain ⟨O,hO,hr⟩:=h.obj o b hi
 rw [hO] at ho
 cases O with
 |cells cs'=>
  simp at ho;subst ho
  obtain ⟨ws,T,fz,h1,h2,_⟩:=hr
  refine ⟨_,h2,fun i u hu => ?_⟩
  rw [Qcx h1,Xb1]
  rw [Xar] at hu
  split at hu
  ·simpa using hu
  ·cases hu
 |mp es=>cases ho
theorem Qhm {t:TypeId} {ag:Bool} {sz b base off:Nat} {cs:List V} {us:List Value} {x:V} (ht:Qet P t ag sz=true) (hr:Reps M Z us cs) (hc:Qd9 w b base us)
  (hp:part ag sz cs off=some x):∃u,(loadVar t ⟨b,base+off,none⟩).run P w = .ok u w∧Rep M Z u x:=by
 simp only [Qet,Xac,beq_iff_eq] at ht
 obtain ⟨⟨hag,hsz⟩,hone⟩:=ht
 unfold part at hp
 cases ag with
 |true=>
  simp only [if_true] at hp
  split at hp
  ·rename_i hle
   cases hp
   have hl:((us.drop off).take sz).length=sz:=by
    have:=hr.1
    simp;omega
   have hrun:=Qfk (P:=P) (w:=w) b (base+off) ((us.drop off).take sz) ((hc.drop off).take sz)
   rw [hl] at hrun
   refine ⟨.agg ((us.drop off).take sz).toArray,?_,Rep.agg_iff.2 (by simpa using ((hr.drop off).take sz).ng)⟩
   unfold loadVar
   simp only [Qad,Qdy hag,Qb3 hsz,Result.andThen,if_true,hrun]
   rfl
  ·cases hp
 |false=>
  simp only [Xaj,if_false] at hp
  split at hp
  ·rw [Xam] at hp
   obtain ⟨c,hcx,rfl⟩:=hp
   obtain ⟨u,hu,hru⟩:=hr.get hcx
   refine ⟨u,?_,hru.ng⟩
   unfold loadVar
   simp only [Qad,Qdy hag,Result.andThen,Xaj,if_false]
   exact Qj8 (hc off u hu)
  ·cases hp
theorem Wbf (h:Wd M Z X D w U) {t:TypeId} {ag:Bool} {sz:Nat} {v:Value} {p x:V} (ht:Qet P t ag sz=true) (hv:Rep M Z v p)
  (hx:eL U ag sz p=some x):
  ∃u,(Instr.loadAt t v).run P w = .ok u w∧Rep M Z u x:=by
 unfold eL at hx
 cases p with
 |ptr o off=>
  obtain ⟨b,rfl,hi⟩:=hv.inv_ptr
  simp only [Xaa,Xab] at hx
  obtain ⟨cs,hcs,hp⟩:=hx
  obtain ⟨us,hr,hc⟩:=h.objCells hi hcs
  obtain ⟨u,hrun,hu⟩:=Qhm ht hr hc hp
  refine ⟨u,?_,hu⟩
  rw [Xb1] at hrun
  unfold Instr.loadAt Instr.sureAddr
  rw [Qad,Qap]
  exact hrun
 |eptr cs off=>
  obtain ⟨b,base,us,rfl,hr,hm⟩:=hv.inv_eptr
  obtain ⟨u,hrun,hu⟩:=Qhm ht hr (h.cells hm) hx
  refine ⟨u,?_,hu⟩
  unfold Instr.loadAt Instr.sureAddr
  rw [Qad,Qap]
  exact hrun
 |_=>simp at hx
theorem Qr8 {t:TypeId} {ag:Bool} {sz off:Nat} {cs:List V} {vs:Array Value} {x:V} (ht:Qet P t ag sz=true) (hr:Reps M Z vs.toList cs) (hp:part ag sz cs off=some x):
  ∃u,(Go.part t vs off).run P w = .ok u w∧Rep M Z u x:=by
 simp only [Qet,Xac,beq_iff_eq] at ht
 obtain ⟨⟨hag,hsz⟩,hone⟩:=ht
 unfold part at hp
 cases ag with
 |true=>
  simp only [if_true] at hp
  split at hp
  ·rename_i hle
   cases hp
   refine ⟨.agg (vs.extract off (off+sz)),?_,Rep.agg_iff.2 ?_⟩
   ·unfold Go.part
    simp only [Qad,Qdy hag,Qb3 hsz,Result.andThen,if_true]
    rfl
   ·have:=((hr.drop off).take sz).ng
    rw [Xdt,Xc4]
    simpa using this
  ·cases hp
 |false=>
  simp only [Xaj,if_false] at hp
  split at hp
  ·rw [Xam] at hp
   obtain ⟨c,hcx,rfl⟩:=hp
   obtain ⟨u,hu,hru⟩:=hr.get hcx
   refine ⟨u,?_,hru.ng⟩
   unfold Go.part
   simp only [Qad,Qdy hag,Result.andThen,Xaj,if_false]
   rw [show vs[off]? = some u by simpa using hu]
   rfl
  ·cases hp
theorem Qe2 {k:IntKind} {n:Int} : (asIntOf (.int k n)).run P w = .ok (k,n) w:=rfl
theorem Qe3 {i:V} {n j:Nat} (h:index i n=some j):∃k q,i = .int k q∧0≤q∧q<n∧j=q.toNat:=by
 unfold index at h
 split at h
 ·split at h
  ·rename_i hc;cases h;exact ⟨_,_,rfl,hc.1,hc.2,rfl⟩
  ·cases h
 ·cases h
theorem Qiy {x:V} {hi l:Nat} (h:bound x hi=some l):∃k q,x = .int k q∧0≤q∧q≤hi∧l=q.toNat:=by
 unfold bound at h
 split at h
 ·split at h
  ·rename_i hc;cases h;exact ⟨_,_,rfl,hc.1,hc.2,rfl⟩
  ·cases h
 ·cases h
theorem Qbq {v:Value} {x:V} {hi l:Nat} {code:BoundsCode} (hv:Rep M Z v x) (h:bound x hi=some l):(Instr.sliceBound v hi code).run P w = .ok l w:=by
 obtain ⟨k,q,rfl,h0,h1,rfl⟩:=Qiy h
 cases hv.inv_int
 unfold Instr.sliceBound
 simp only [Qad,Qe2,Result.andThen]
 rw [if_pos ⟨h0,h1⟩]
 rfl
def RepO (M:Mem) (Z:Plc):Option Value→Option V→Prop
 |none,none=>True
 |some v,some x=>Rep M Z v x
 |_,_=>False
theorem Qgr {x:V} {a b l:Nat} (h:bound x a=some l) (hab:a≤b):bound x b=some l:=by
 obtain ⟨k,q,rfl,h0,h1,rfl⟩:=Qiy h
 show (if 0≤q∧q≤(b:Int) then some q.toNat else none)=some q.toNat
 rw [if_pos ⟨h0,by omega⟩]
theorem Qel {x:V} {a l:Nat} (h:bound x a=some l):l≤a:=by
 obtain ⟨k,q,rfl,h0,h1,rfl⟩:=Qiy h
 omega
theorem Qcd {isSlice:Bool} {len cap l h:Nat} {m:Option Nat} {lo hi mx:Option Value} {xlo xhi xmx:Option V} (hcap:len≤cap)
  (h1:RepO M Z lo xlo) (h2:RepO M Z hi xhi) (h3:RepO M Z mx xmx) (hmx:xmx.isSome→xhi.isSome) (hb:bounds len xlo xhi xmx=some (l,h,m)):
  (Instr.sliceBounds isSlice len cap lo hi mx).run P w = .ok (l,h,m.getD cap) w∧l≤h∧h≤len∧(∀k,m=some k→h≤k∧k≤len):=by
 unfold bounds at hb
 cases xmx with
 |none=>
  cases mx with
  |some _=>exact h3.elim
  |none=>
   simp only [Xaa,Xad,Xb7] at hb
   cases xhi with
   |none=>
    cases hi with
    |some _=>exact h2.elim
    |none=>
     simp only [Xad] at hb
     cases xlo with
     |none=>
      cases lo with
      |some _=>exact h1.elim
      |none=>simp at hb;obtain ⟨rfl,rfl,rfl⟩:=hb;exact ⟨rfl,Xa1 _,Xai _,by simp⟩
     |some xl=>
      cases lo with
      |none=>exact h1.elim
      |some vl=>
       simp only [Xab,Xbm] at hb
       obtain ⟨l',hl',he⟩:=hb
       simp at he;obtain ⟨rfl,rfl,rfl⟩:=he
       refine ⟨?_,Qel hl',Xai _,by simp⟩
       unfold Instr.sliceBounds
       simp only [Qad,Qap,Result.andThen,Qbq (P:=P) (w:=w) (code:=_) h1 hl']
       rfl
   |some xh=>
    cases hi with
    |none=>exact h2.elim
    |some vh=>
     simp only [Xab] at hb
     obtain ⟨h',hh',hb⟩:=hb
     have hle:=Qel hh'
     cases xlo with
     |none=>
      cases lo with
      |some _=>exact h1.elim
      |none=>
       simp at hb;obtain ⟨rfl,rfl,rfl⟩:=hb
       refine ⟨?_,Xa1 _,hle,by simp⟩
       unfold Instr.sliceBounds
       simp only [Qad,Qap,Result.andThen,Qbq (P:=P) (w:=w) h2 (Qgr hh' hcap)]
       rfl
     |some xl=>
      cases lo with
      |none=>exact h1.elim
      |some vl=>
       simp only [Xab,Xbm] at hb
       obtain ⟨l',hl',he⟩:=hb
       simp at he;obtain ⟨rfl,rfl,rfl⟩:=he
       refine ⟨?_,Qel hl',hle,by simp⟩
       unfold Instr.sliceBounds
       simp only [Qad,Qap,Result.andThen,Qbq (P:=P) (w:=w) h2 (Qgr hh' hcap),Qbq (P:=P) (w:=w) h1 hl']
       rfl
 |some xm=>
  cases mx with
  |none=>exact h3.elim
  |some vm=>
   cases xhi with
   |none=>simp at hmx
   |some xh=>
    cases hi with
    |none=>exact h2.elim
    |some vh=>
     cases xlo with
     |none=>
      cases lo with
      |some _=>exact h1.elim
      |none=>
       simp only [Xaa,Xab,Xam,Xad,Xbm] at hb
       obtain ⟨m',⟨m0,hm',rfl⟩,h',hh',he⟩:=hb
       simp at he;obtain ⟨rfl,rfl,rfl⟩:=he
       simp only [Xbg] at hh'
       have hle:=Qel hh'
       have hlm:=Qel hm'
       refine ⟨?_,Xa1 _,by omega,fun k hk=>by cases hk;exact ⟨hle,hlm⟩⟩
       unfold Instr.sliceBounds
       simp only [Qad,Qap,Result.andThen,Qbq (P:=P) (w:=w) h3 (Qgr hm' hcap),Qbq (P:=P) (w:=w) h2 hh']
       rfl
     |some xl=>
      cases lo with
      |none=>exact h1.elim
      |some vl=>
       simp only [Xaa,Xab,Xam,Xbm] at hb
       obtain ⟨m',⟨m0,hm',rfl⟩,h',hh',l',hl',he⟩:=hb
       simp at he;obtain ⟨rfl,rfl,rfl⟩:=he
       simp only [Xbg] at hh'
       have hle:=Qel hh'
       have hlm:=Qel hm'
       refine ⟨?_,Qel hl',by omega,fun k hk=>by cases hk;exact ⟨hle,hlm⟩⟩
       unfold Instr.sliceBounds
       simp only [Qad,Qap,Result.andThen,Qbq (P:=P) (w:=w) h3 (Qgr hm' hcap),Qbq (P:=P) (w:=w) h2 hh',Qbq (P:=P) (w:=w) h1 hl']
       rfl
end
section
variable {P:Program} {M:Mem} {Z:Plc} {X:Nat→Prop} {D:Own} {w:World} {U:Objs}
theorem Qr9 {v:Value} {p:V} (hv:Rep M Z v p) (hp:(∃o a,p = .ptr o a)∨∃cs a,p = .eptr cs a):
  ∃b a,v = .pointer (some ⟨b,a,none⟩)∧∀k,Rep M Z (.pointer (some ⟨b,a+k,none⟩)) (match p with | .ptr o x=>.ptr o (x+k) | .eptr cs x=>.eptr cs (x+k)|y=>y):=by
 rcases hp with ⟨o,a,rfl⟩|⟨cs,a,rfl⟩
 ·obtain ⟨b,rfl,hi⟩:=hv.inv_ptr
  exact ⟨b,a,rfl,fun k=>.ptr o (a+k) b hi⟩
 ·obtain ⟨b,base,us,rfl,hr,hm⟩:=hv.inv_eptr
  exact ⟨b,base+a,rfl,fun k=>by rw [Xcp];exact .eptr cs (a+k) b base us hr.1 hm hr.2⟩
def Qgs (P:Program) (s:TypeId) (f off:Nat):Option TypeId:=
 match P.underlying s with
 |some (.struct fs)=>match fs[f]? with
  |some fd=>if fd.offset=off then some fd.type else none
  |none=>none
 |_=>none
theorem Qh5 {s:TypeId} {f off:Nat} {t:TypeId} (h:Qgs P s f off=some t):∃fs fd,P.underlying s=some (.struct fs)∧fs[f]? = some fd∧fd.offset=off∧fd.type=t:=by
 unfold Qgs at h
 split at h
 ·split at h
  ·split at h
   ·cases h;exact ⟨_,_,‹_›,‹_›,‹_›,rfl⟩
   ·cases h
  ·cases h
 ·cases h
theorem Qwj {s:TypeId} {f off sz:Nat} {t:TypeId} {v:Value} {p x:V} (hs:Qgs P s f off=some t) (hz:szOf P t=some sz) (hz0:sz≠0) (hv:Rep M Z v p)
  (hx:eF off p=some x):
  ∃u,(Instr.fieldAt s v f).run P w = .ok u w∧Rep M Z u x:=by
 unfold eF at hx
 obtain ⟨fs,fd,h1,h2,rfl,rfl⟩:=Qh5 hs
 have hp:(∃o a,p = .ptr o a)∨∃cs a,p = .eptr cs a:=by
  split at hx
  ·exact .inl ⟨_,_,rfl⟩
  ·exact .inr ⟨_,_,rfl⟩
  ·cases hx
 obtain ⟨b,a,rfl,hk⟩:=Qr9 hv hp
 refine ⟨.pointer (some ⟨b,a+fd.offset,none⟩),?_,?_⟩
 ·unfold Instr.fieldAt Instr.sureAddr fieldPlace
  simp only [Qad,run_underlying h1,Result.andThen,h2,Qap,Qb3 hz,hz0,if_false,Qcs]
 ·have:=hk fd.offset
  rcases hp with ⟨o,a',rfl⟩|⟨cs,a',rfl⟩
  ·cases hx;exact this
  ·cases hx;exact this
theorem Qwk {s:TypeId} {f off sz:Nat} {ag:Bool} {t:TypeId} {v:Value} {p x:V} (hs:Qgs P s f off=some t) (ht:Qet P t ag sz=true) (hv:Rep M Z v p)
  (hx:Qhl ag off sz p=some x):∃u,(Instr.field s v f).run P w = .ok u w∧Rep M Z u x:=by
 unfold Qhl at hx
 obtain ⟨fs,fd,h1,h2,rfl,rfl⟩:=Qh5 hs
 cases p with
 |agg cs=>
  cases hv with
  |agg vs _ hl hr=>
   obtain ⟨u,hrun,hu⟩:=Qr8 (P:=P) (w:=w) ht (Rep.agg_iff.1 (.agg vs cs hl hr)) hx
   refine ⟨u,?_,hu⟩
   unfold Instr.field
   simp only [Qad,run_underlying h1,Result.andThen,h2,asAgg,Qap]
   exact hrun
 |_=>cases hx
theorem Qb6 {xs:List V} {sz:Nat} (hs:∀x∈xs,x.cells.length=sz):(xs.flatMap V.cells).length=xs.length * sz:=by
 induction xs with
 |nil=>simp
 |cons x xs ih=>
  simp only [Xbp,Xas,Xal]
  rw [hs x (by simp),ih (fun y hy=>hs y (by simp [hy])),Xd5,Nat.one_mul,Xd9]
theorem Qon {xs:List V} {sz:Nat} (hs:∀x∈xs,x.cells.length=sz) (n:Nat):(xs.drop n).flatMap V.cells=(xs.flatMap V.cells).drop (n * sz):=by
 induction n generalizing xs with
 |zero=>simp
 |succ n ih=>
  cases xs with
  |nil=>simp
  |cons x xs=>
   simp only [List.drop_succ_cons,Xbp]
   rw [ih (fun y hy=>hs y (by simp [hy])),Xc8,Xd9,←Xcu,List.drop_left' (hs x (by simp))]
theorem Qwl {xs:List V} {sz:Nat} (hs:∀x∈xs,x.cells.length=sz) (n:Nat):(xs.take n).flatMap V.cells=(xs.flatMap V.cells).take (n * sz):=by
 induction n generalizing xs with
 |zero=>simp
 |succ n ih=>
  cases xs with
  |nil=>simp
  |cons x xs=>
   have hx:=hs x (by simp)
   simp only [List.take_succ_cons,Xbp]
   rw [ih (fun y hy=>hs y (by simp [hy])),Xc8,Xd9,←hx,List.take_length_add_append]
theorem Qm6 {xs:List V} {sz j:Nat} {e:V} (hs:∀x∈xs,x.cells.length=sz) (he:xs[j]? = some e):((xs.flatMap V.cells).drop (j * sz)).take sz=e.cells:=by
 rw [←Qon hs,Xbn (Xaf.1 he).1,Xbp]
 have h1:=(Xaf.1 he).2
 rw [h1,List.take_left' (hs e (Xat he))]
theorem Qwm (h:Wd M Z X D w U) {t e:TypeId} {sz:Nat} {v vi:Value} {p i x:V} (ht:P.underlying t=some (.slice e)) (hz:szOf P e=some sz) (hv:Rep M Z v p) (hi:Rep M Z vi i)
  (hx:eI sz i p=some x):∃u,(Instr.indexAt t v vi).run P w = .ok u w∧Rep M Z u x:=by
 unfold eI at hx
 cases p with
 |sl xs c=>
  simp only [Xaa,Xab] at hx
  obtain ⟨j,hj,el,hel,hx⟩:=hx
  split at hx
  ·rename_i hlen
   cases hx
   obtain ⟨k,q,rfl,h0,h1,rfl⟩:=Qe3 hj
   cases hi.inv_int
   rcases hv.inv_sl with ⟨b,off,cap,sz',us,rfl,hs,hr,hm,hcap,_⟩|⟨_,_,hnil,_⟩
   case inr=>subst hnil;simp at hel
   have hsz:sz'=sz:=by rw [←hs el (Xat hel)];exact hlen
   subst hsz
   refine ⟨.pointer (some ⟨b,off+q.toNat * sz',none⟩),?_,?_⟩
   ·unfold Instr.indexAt
    simp only [Qad,Qe2,run_underlying ht,Result.andThen,Qap]
    rw [if_pos ⟨h0,h1⟩]
    simp only [Qad,Qb3 hz,Result.andThen,Qap,Qcs]
   ·have hrr:=((hr.drop (q.toNat * sz')).take sz')
    rw [Qm6 hs hel] at hrr
    refine .eptr el.cells 0 b (off+q.toNat * sz') _ hrr.1 (fun m u hu => ?_) hrr.2
    rw [Xar] at hu
    split at hu
    ·rw [Xa6] at hu
     have:=hm _ u hu
     rwa [←Xcp] at this
    ·cases hu
  ·cases hx
 |hs o off len s ag=>
  simp only [Xaa,Xab] at hx
  obtain ⟨j,hj,hx⟩:=hx
  split at hx
  ·rename_i hs
   cases hx
   obtain ⟨k,q,rfl,h0,h1,rfl⟩:=Qe3 hj
   cases hi.inv_int
   obtain ⟨b,cap,rfl,hib,hc⟩:=hv.inv_hs
   refine ⟨.pointer (some ⟨b,off+q.toNat * sz,none⟩),?_,.ptr o _ b hib⟩
   unfold Instr.indexAt
   simp only [Qad,Qe2,run_underlying ht,Result.andThen,Qap]
   rw [if_pos ⟨h0,h1⟩]
   simp only [Qad,Qb3 hz,Result.andThen,Qap,Qcs]
  ·cases hx
 |_=>cases hx
theorem Quy {t e:TypeId} {n sz:Nat} {v vi:Value} {p i x:V} (ht:P.underlying t=some (.array n e)) (hz:szOf P e=some sz) (hv:Rep M Z v p) (hi:Rep M Z vi i)
  (hx:Qc8 n sz i p=some x):∃u,(Instr.indexAt t v vi).run P w = .ok u w∧Rep M Z u x:=by
 unfold Qc8 at hx
 simp only [Xaa,Xab] at hx
 obtain ⟨j,hj,hx⟩:=hx
 obtain ⟨k,q,rfl,h0,h1,rfl⟩:=Qe3 hj
 cases hi.inv_int
 have hp:(∃o a,p = .ptr o a)∨∃cs a,p = .eptr cs a:=by
  split at hx
  ·exact .inl ⟨_,_,rfl⟩
  ·exact .inr ⟨_,_,rfl⟩
  ·cases hx
 obtain ⟨b,a,rfl,hk⟩:=Qr9 hv hp
 refine ⟨.pointer (some ⟨b,a+q.toNat * sz,none⟩),?_,?_⟩
 ·unfold Instr.indexAt Instr.sureAddr
  simp only [Qad,Qe2,run_underlying ht,Result.andThen,Qap]
  rw [if_pos ⟨h0,h1⟩]
  simp only [Qad,Qb3 hz,Result.andThen,Qap,Qcs]
 ·have:=hk (q.toNat * sz)
  rcases hp with ⟨o,a',rfl⟩|⟨cs,a',rfl⟩
  ·cases hx;exact this
  ·cases hx;exact this
theorem Wfk {t:TypeId} {v vi:Value} {p i x:V} (ht:P.underlying t=some .string) (hv:Rep M Z v p) (hi:Rep M Z vi i)
  (hx:Qm3 i p=some x):∃u,(Instr.index t v vi).run P w = .ok u w∧Rep M Z u x:=by
 unfold Qm3 at hx
 cases p with
 |str s=>
  simp only [Xaa,Xab] at hx
  obtain ⟨j,hj,b,hb,hx⟩:=hx
  cases hx
  obtain ⟨k,q,rfl,h0,h1,rfl⟩:=Qe3 hj
  cases hi.inv_int
  obtain ⟨ba,rfl,hs⟩:=hv.inv_str
  refine ⟨.int .u8 b.toNat,?_,.int _ _⟩
  unfold Instr.index
  simp only [Qad,Qe2,run_underlying ht,Result.andThen]
  have hg:ba[q.toNat]? = some b:=by
   subst hs
   have hlt:=(Xaf.1 hb).1
   simp only [Xa4] at hlt
   rw [Xdj] at hb
   show (if h:q.toNat<ba.size then some ba[q.toNat] else none)=some b
   rw [dif_pos (show q.toNat<ba.size from hlt)]
   rw [←hb,Xb4 hlt]
   rfl
  rw [if_pos h0,hg]
  rfl
 |_=>cases hx
theorem Wbg {t e:TypeId} {n sz:Nat} {ag:Bool} {v vi:Value} {p i x:V} (ht:P.underlying t=some (.array n e)) (he:Qet P e ag sz=true) (hv:Rep M Z v p) (hi:Rep M Z vi i)
  (hx:Ql9 n ag sz i p=some x):∃u,(Instr.index t v vi).run P w = .ok u w∧Rep M Z u x:=by
 unfold Ql9 at hx
 simp only [Xaa,Xab] at hx
 obtain ⟨j,hj,hx⟩:=hx
 obtain ⟨k,q,rfl,h0,h1,rfl⟩:=Qe3 hj
 cases hi.inv_int
 cases p with
 |agg cs=>
  cases hv with
  |agg vs _ hl hr=>
   obtain ⟨u,hrun,hu⟩:=Qr8 (P:=P) (w:=w) he (Rep.agg_iff.1 (.agg vs cs hl hr)) hx
   refine ⟨u,?_,hu⟩
   have hz:szOf P e=some sz:=by simp only [Qet,Xac,beq_iff_eq] at he;exact he.1.2
   unfold Instr.index
   simp only [Qad,Qe2,run_underlying ht,Result.andThen]
   rw [if_pos ⟨h0,h1⟩]
   simp only [Qad,Qb3 hz,Result.andThen]
   exact hrun
 |_=>cases hx
theorem Wbh {v:Value} {p x:V} {i:Nat} (hv:Rep M Z v p) (hx:eX i p=some x):
  ∃u,(Instr.extract v i).run P w = .ok u w∧Rep M Z u x:=by
 unfold eX at hx
 cases p with
 |tup cs=>
  cases hv with
  |tup vs _ hl hr=>
   have hr':Reps M Z vs.toList cs:=⟨by simpa using hl,fun i u c hu hc=>hr i u c (by simpa using hu) hc⟩
   obtain ⟨u,hu,hru⟩:=hr'.get hx
   refine ⟨u,?_,hru⟩
   unfold Instr.extract
   simp only [show vs[i]? = some u by simpa using hu]
   rfl
 |_=>cases hx
theorem Wbi {t:TypeId} {v:Value} {p x:V} {lo hi:Option Value} {xlo xhi:Option V} (ht:P.underlying t=some .string) (hv:Rep M Z v p)
  (h1:RepO M Z lo xlo) (h2:RepO M Z hi xhi) (hx:Qhb p xlo xhi=some x):∃u,(Instr.sliceAt t v lo hi none).run P w = .ok u w∧Rep M Z u x:=by
 cases p with
 |str s=>
  unfold Qhb at hx
  simp only [Xaa,Xab] at hx
  obtain ⟨⟨l,hh,m⟩,hb,hx⟩:=hx
  cases hx
  obtain ⟨ba,rfl,hs⟩:=hv.inv_str
  have hlen:s.length=ba.size:=by rw [←hs];exact Xa4
  rw [hlen] at hb
  obtain ⟨hrun,hle,hle2,_⟩:=Qcd (P:=P) (w:=w) (isSlice:=false) (mx:=none) (xmx:=none) (Xai _) h1 h2 trivial (by simp) hb
  refine ⟨.string (ba.extract l hh),?_,.str _ _ ?_⟩
  ·unfold Instr.sliceAt Instr.slice
   simp only [Qad,run_underlying ht,Result.andThen,Option.isSome_none,Xaj,if_false,Qap,hrun]
  ·subst hs
   rw [ByteArray.data_extract,Xdt,Xc4]
 |_=>cases hx
theorem Wfl {t e:TypeId} {sz:Nat} {v:Value} {p x:V} {lo hi mx:Option Value} {xlo xhi xmx:Option V}
  (ht:P.underlying t=some (.slice e)) (hz:szOf P e=some sz) (hv:Rep M Z v p)
  (h1:RepO M Z lo xlo) (h2:RepO M Z hi xhi) (h3:RepO M Z mx xmx) (hmx:xmx.isSome→xhi.isSome) (hx:Qbm sz p xlo xhi xmx=some x):
  ∃u,(Instr.sliceAt t v lo hi mx).run P w = .ok u w∧Rep M Z u x:=by
 have start:∀a len cap l hh k,(Instr.sliceBounds true len cap lo hi mx).run P w = .ok (l,hh,k) w→
   (Instr.sliceAt t (.slice a len cap) lo hi mx).run P w = .ok (.slice (if k=l then a else a.map (·.add (l * sz))) (hh - l) (k - l)) w:=by
  intro a len cap l hh k hrun
  unfold Instr.sliceAt Instr.slice
  simp only [Qad,run_underlying ht,Result.andThen,hrun,Qb3 hz,Qap]
 unfold Qbm at hx
 cases p with
 |nils=>
  simp only [Xaa,Xab] at hx
  obtain ⟨⟨l,hh,m⟩,hb,hx⟩:=hx
  cases hx
  cases hv
  obtain ⟨hrun,hle,hle2,hm⟩:=Qcd (P:=P) (w:=w) (isSlice:=true) (Xai 0) h1 h2 h3 hmx hb
  refine ⟨_,start none 0 0 l hh _ hrun,?_⟩
  have h0:hh=0:=by omega
  have hl0:l=0:=by omega
  have hk0:m.getD 0=0:=by
   cases m with
   |none=>rfl
   |some k=>have:=(hm k rfl).2;simp;omega
  subst h0 hl0
  rw [hk0]
  exact .nils
 |sl xs c=>
  simp only [Xaa,Xab] at hx
  obtain ⟨⟨l,hh,m⟩,hb,hx⟩:=hx
  split at hx
  ·rename_i hall
   cases hx
   rcases hv.inv_sl with ⟨b,off,cap,sz',us,rfl,hs',hr,hmm,hcap,_⟩|⟨a0,rfl,hnil,_⟩
   case inr=>
    subst hnil
    obtain ⟨hrun,hle,hle2,hm⟩:=Qcd (P:=P) (w:=w) (isSlice:=true) (Xai 0) h1 h2 h3 hmx hb
    have h0:hh=0:=by simpa using hle2
    have hl0:l=0:=by omega
    have hk0:m.getD 0=0:=by
     cases m with
     |none=>rfl
     |some k=>have:=(hm k rfl).2;simp;omega
    refine ⟨_,start _ _ 0 l hh _ hrun,?_⟩
    subst h0 hl0
    rw [hk0]
    exact .sl0 _ _ (fun s=>by split <;> simp)
   have hs:∀y∈xs,y.cells.length=sz:=fun y hy=>by simpa using Xbb.1 hall y hy
   obtain ⟨hrun,hle,hle2,hm⟩:=Qcd (P:=P) (w:=w) (isSlice:=true) hcap h1 h2 h3 hmx hb
   have hk:hh≤m.getD cap∧m.getD cap≤cap:=by
    cases m with
    |none=>exact ⟨by simp;omega,by simp⟩
    |some k=>exact ⟨(hm k rfl).1,by have:=(hm k rfl).2;simp;omega⟩
   refine ⟨_,start _ _ cap l hh _ hrun,?_⟩
   have hlen:((xs.drop l).take (hh - l)).length=hh - l:=by simp;omega
   have hs2:∀y∈(xs.drop l).take (hh - l),y.cells.length=sz:=fun y hy=>hs y (List.mem_of_mem_drop (List.mem_of_mem_take hy))
   have hflat:((xs.drop l).take (hh - l)).flatMap V.cells=((xs.flatMap V.cells).drop (l * sz)).take ((hh - l) * sz):=by
    rw [Qwl (fun y hy=>hs y (List.mem_of_mem_drop hy)),Qon hs]
   have hrr:=((hr.drop (l * sz)).take ((hh - l) * sz))
   rw [←hflat] at hrr
   by_cases hkl:m.getD cap=l
   ·
    have hhl:hh - l=0:=by omega
    rw [if_pos hkl]
    have hnil:(xs.drop l).take (hh - l)=[]:=by rw [hhl];rfl
    have:=Rep.sl (M:=M) (Z:=Z) [] (if m=some hh then .fx else .no) b off (m.getD cap - l) 0 [] (by simp) rfl (by simp) (by simp) (Xa1 _) (fun _=>by simp;omega)
    rw [hnil,hhl]
    exact this
   ·rw [if_neg hkl]
    simp only [Xag,Qcs]
    have:=Rep.sl (M:=M) (Z:=Z) ((xs.drop l).take (hh - l)) (if m=some hh then .fx else .no) b (off+l * sz) (m.getD cap - l) sz _ hs2 hrr.1 (fun i u hu => ?_) hrr.2 (by rw [hlen];omega) (fun hfx => ?_)
    ·rw [hlen] at this;exact this
    ·rw [Xar] at hu
     split at hu
     ·rw [Xa6] at hu
      have:=hmm _ u hu
      rwa [←Xcp] at this
     ·cases hu
    ·rw [hlen]
     split at hfx
     ·rename_i hmh;subst hmh;rfl
     ·cases hfx
  ·cases hx
 |hs o off len s ag=>
  simp only [Xaa,Xab] at hx
  obtain ⟨⟨l,hh,m⟩,hb,hx⟩:=hx
  split at hx
  ·rename_i hs
   cases hx
   obtain ⟨b,cap,rfl,hib,hc⟩:=hv.inv_hs
   obtain ⟨hrun,hle,hle2,hm⟩:=Qcd (P:=P) (w:=w) (isSlice:=true) hc h1 h2 h3 hmx hb
   have hk:hh≤m.getD cap:=by
    cases m with
    |none=>simp;omega
    |some k=>exact (hm k rfl).1
   refine ⟨_,start _ _ cap l hh _ hrun,?_⟩
   by_cases hlh:l=hh
   ·subst hlh
    rw [if_pos rfl,Xc9]
    by_cases hkl:m.getD cap=l
    ·rw [if_pos hkl]
     exact Rep.sl (M:=M) (Z:=Z) [] .no b off _ 0 [] (by simp) rfl (by simp) (by simp) (Xa1 _) (fun e=>by cases e)
    ·rw [if_neg hkl]
     simp only [Xag,Qcs]
     exact Rep.sl (M:=M) (Z:=Z) [] .no b _ _ 0 [] (by simp) rfl (by simp) (by simp) (Xa1 _) (fun e=>by cases e)
   ·rw [if_neg hlh,if_neg X0o]
    simp only [Xag,Qcs]
    exact .hs o _ _ sz ag b _ hib X0o
  ·cases hx
 |_=>cases hx
end
def isC:Operand→Bool
 | .const _=>true
 |_=>false
def Qh6 (P:Program) (ks:TypeId→Option (List CK)):List Field→Nat→Option (List CK)
 |[],_=>some []
 |f::fs,off=>
  if f.name ≠ "_" ∧ f.offset=off then
   match ks f.type with
   |some k=>if szOf P f.type=some k.length then
     match Qh6 P ks fs (off+k.length) with
     |some r=>some (k++r)
     |none=>none
    else none
   |none=>none
  else none
def Qf5 (P:Program):Nat→TypeId→Option (List CK)
 |0,_=>none
 |n+1,t=>
  match P.underlying t with
  |some .bool=>some [.b]
  |some (.int _)=>some [.i]
  |some .string=>some [.s]
  |some (.struct fs)=>if P.stoodInHeld t then none else Qh6 P (Qf5 P n) fs.toList 0
  |_=>none
def Qwn:TypeDesc→Option EqK
 | .bool=>some .bool
 | .pointer _=>some .ptr
 | .slice _=>some .row
 | .interface _=>some .ifc
 | .func .. => some .fn
 | .map .. => some .mp
 |_=>none
def Qqo (P:Program) (k:EqK) (t:TypeId) (x y:Operand):Bool:=
 match k with
 | .no=>true
 | .agg ks=>decide (agOf P t=some true)&&decide (Qf5 P 20 t=some ks) && !P.eqGuardType P.depth t
 |_=>decide ((P.underlying t).bind Qwn=some k)&&(decide (k≠.ifc)||isC x||isC y)
def Wiz (P:Program) (op:BinOp) (k:EqK) (t:TypeId) (x y:Operand):Bool:=
 match op with
 | .eql | .neq=>Qqo P k t x y
 |_=>true
section
variable {P:Program} {M:Mem} {Z:Plc} {X:Nat→Prop} {D:Own} {w:World} {U:Objs}
theorem Qds {op:BinOp} {t:TypeId} {x y:Operand} {a b:Value} (h1:¬(a = .nilIface∧b = .nilIface)) (h2:∀u v,¬(a = .agg u∧b = .agg v)):
  (eqGuard op t x y a b).run P w = .ok () w:=by
 unfold eqGuard
 cases op <;> simp only [] <;> (try rfl)
 all_goals
  cases a <;> (try rfl) <;> cases b <;> (try rfl)
  ·exact absurd ⟨rfl,rfl⟩ h1
  ·exact absurd ⟨rfl,rfl⟩ (h2 _ _)
theorem Wi0 {op:UnOp} {v:Value} {x y:V} (hv:Rep M Z v x) (hx:evUn op x=some y):∃u,(Op.unary op v).run P w = .ok u w∧Rep M Z u y:=by
 unfold evUn at hx
 split at hx
 ·cases hx;cases hv.inv_int;exact ⟨_,rfl,.int _ _⟩
 ·cases hx;cases hv.inv_int;exact ⟨_,rfl,.int _ _⟩
 ·cases hx;cases hv.inv_bool;exact ⟨_,rfl,.bool _⟩
 ·cases hx
theorem Qf6 (s:ByteArray):s.toList=s.data.toList:=ByteArray.toList_eq s
theorem Qjm:∀(a b:List UInt8),Op.bytesLess a b=bytesLess a b
 |_,[]=>by cases ‹List UInt8› <;> rfl
 |[],_::_=>rfl
 |a::x,b::y=>by simp only [Op.bytesLess,bytesLess,Qjm x y]
theorem Qma (a b:List UInt8):(a == b)=decide (a=b):=by
 rw [Bool.eq_iff_iff];simp
theorem Wfm {op:BinOp} {va vb:ByteArray} {y:V} (hx:eB op .no (.str va.data.toList) (.str vb.data.toList)=some y):
  ∃u,(Op.stringOp op va vb).run P w = .ok u w∧Rep M Z u y:=by
 have hl:∀s:ByteArray,s.data.toList.length=s.size:=fun s=>Xa4
 unfold Op.stringOp
 simp only [Qf6,Qjm,Qma]
 cases op <;> simp only [eB] at hx <;> (try cases hx)
 ·split at hx
  ·rename_i hle
   cases hx
   refine ⟨.string (va++vb),?_,.str _ _ (by rw [ByteArray.data_append,Xdx])⟩
   rw [if_neg]
   ·rfl
   ·rw [hl,hl] at hle
    unfold Qwi at hle
    show ¬(((va.size+vb.size:Nat):Int) > 9223372036854775807)
    omega
  ·cases hx
 all_goals exact ⟨_,rfl,.bool _⟩
theorem Wfn {op:BinOp} {t:TypeId} {k j:IntKind} {a b:Int} {e:EqK} {y:V} (hx:eB op e (.int k a) (.int j b)=some y):
  ∃u,(binOp op t (.int k a) (.int j b)).run P w = .ok u w∧Rep M Z u y:=by
 unfold eB at hx
 simp only at hx
 cases op <;> simp only [] at hx
 case shl=>
  split at hx
  ·cases hx
  ·rename_i hb
   cases hx
   refine ⟨_,?_,.int _ _⟩
   simp only [binOp,Op.shift,hb,if_false]
   rfl
 case shr=>
  split at hx
  ·cases hx
  ·rename_i hb
   cases hx
   refine ⟨_,?_,.int _ _⟩
   simp only [binOp,Op.shift,hb,if_false]
   rfl
 case quo=>
  split at hx
  ·rename_i hk;subst hk
   split at hx
   ·cases hx
   ·rename_i hb
    cases hx
    refine ⟨_,?_,.int _ _⟩
    simp only [binOp,Op.intDiv,ne_eq,not_true_eq_false,if_false,hb]
    rfl
  ·cases hx
 case rem=>
  split at hx
  ·rename_i hk;subst hk
   split at hx
   ·cases hx
   ·rename_i hb
    cases hx
    refine ⟨_,?_,.int _ _⟩
    simp only [binOp,Op.intDiv,ne_eq,not_true_eq_false,if_false,hb]
    rfl
  ·cases hx
 all_goals
  split at hx
  ·rename_i hk;subst hk
   cases hx
   refine ⟨_,?_,by first|exact .int _ _|exact .bool _⟩
   simp only [binOp,Op.intArith,Op.intBits,Op.intCmp,ne_eq,not_true_eq_false,if_false]
   rfl
  ·cases hx
theorem Wfo {t:TypeId} {va vb:Value} {x y:V} {k:EqK} {b:Bool} (hk:(P.underlying t).bind Qwn=some k) (ha:Rep M Z va x) (hb:Rep M Z vb y) (hx:eqV k x y=some b):
  (Op.equal t va vb).run P w = .ok b w:=by
 rw [Xab] at hk
 obtain ⟨d,ht,hd⟩:=hk
 suffices h:∀d0,(Op.equalIn (d0+1) t va vb).run P w = .ok b w from h 9999
 intro d0
 unfold eqV at hx
 split at hx <;> (try (cases d <;> cases hd;done)) <;> (try (cases hx;done)) <;> cases hx <;> cases ha <;> cases hb <;> cases d <;> (try (cases hd;done)) <;>
  (simp only [Op.equalIn,Qad,run_underlying ht,Result.andThen];rfl)
def Val (ag:Bool) (us:List Value) (v:Value):Prop:=if ag then v = .agg us.toArray else us=[v]
theorem Qkt {t:TypeId} {ag:Bool} {n off:Nat} {us:List Value} (hag:agOf P t=some ag) (hsz:szOf P t=some n) (h1:ag=false→n=1) (hle:off+n≤us.length):
  ∃v,(Go.part t us.toArray off).run P w = .ok v w∧Val ag ((us.drop off).take n) v:=by
 cases ag with
 |true=>
  refine ⟨.agg (us.toArray.extract off (off+n)),?_,?_⟩
  ·unfold Go.part
   simp only [Qad,Qdy hag,Qb3 hsz,Result.andThen,if_true]
   rfl
  ·unfold Val
   rw [if_pos rfl]
   congr 1
   apply Xc1
   rw [Xdt,Xc4]
   simp
 |false=>
  have h1:=h1 rfl
  subst h1
  have hlt:off<us.length:=by omega
  refine ⟨us[off],?_,?_⟩
  ·unfold Go.part
   simp only [Qad,Qdy hag,Result.andThen,Xaj,if_false]
   rw [show us.toArray[off]? = some us[off] by simp [hlt]]
   rfl
  ·unfold Val
   rw [if_neg (by simp),Xbn hlt]
   rfl
theorem Qfl:∀ {ks:List CK} {cs ds:List V} {b:Bool},Qbg ks cs ds=some b→cs.length=ks.length∧ds.length=ks.length
 |[],[],[],_,_=>⟨rfl,rfl⟩
 |k::ks,c::cs,d::ds,b,h=>by
  simp only [Qbg,Xaa,Xab] at h
  obtain ⟨_,_,b',hb',_⟩:=h
  have:=Qfl hb'
  simp [this.1,this.2]
 |[],_::_,_,_,h=>by simp [Qbg] at h
 |[],[],_::_,_,h=>by simp [Qbg] at h
 |_::_,[],_,_,h=>by simp [Qbg] at h
 |_::_,_::_,[],_,h=>by simp [Qbg] at h
theorem Qhc:∀ {k r:List CK} {cs ds:List V} {b:Bool},Qbg (k++r) cs ds=some b→
  ∃b1 b2,Qbg k (cs.take k.length) (ds.take k.length)=some b1∧Qbg r (cs.drop k.length) (ds.drop k.length)=some b2∧b=(b1&&b2)
 |[],r,cs,ds,b,h=>⟨true,b,by simp [Qbg],by simpa using h,by simp⟩
 |x::k,r,c::cs,d::ds,b,h=>by
  simp only [Xcs,Qbg,Xaa,Xab] at h
  obtain ⟨a,ha,b',hb',he⟩:=h
  obtain ⟨b1,b2,h1,h2,rfl⟩:=Qhc hb'
  refine ⟨a&&b1,b2,by simp [Qbg,ha,h1],by simpa using h2,?_⟩
  simp at he
  rw [←he,Bool.and_assoc]
 |_::_,_,[],_,_,h=>by simp [Qbg] at h
 |_::_,_,_::_,[],_,h=>by simp [Qbg] at h
theorem Qjn {ks:TypeId→Option (List CK)} {d:Nat}
  (ih:∀(t:TypeId) (k:List CK) (ag:Bool) (us us':List Value) (cs ds:List V) (v v':Value) (b:Bool),ks t=some k→agOf P t=some ag→(ag=false→k.length=1)→Val ag us v→Val ag us' v'→Reps M Z us cs→Reps M Z us' ds→Qbg k cs ds=some b→
   (Op.equalIn d t v v').run P w = .ok b w) (hks:∀t k,ks t=some k→∃ag,agOf P t=some ag∧(ag=false→k.length=1)):
  ∀(fs:List Field) (off:Nat) (r:List CK) (us us':List Value) (cs ds:List V) (b:Bool),Qh6 P ks fs off=some r→Reps M Z us cs→Reps M Z us' ds→off≤us.length→off≤us'.length→
   Qbg r (cs.drop off) (ds.drop off)=some b→(Op.eqFields d us.toArray us'.toArray fs).run P w = .ok b w
 |[],off,r,us,us',cs,ds,b,hf,hr,hr',_,_,hb=>by
  simp only [Qh6] at hf
  cases hf
  have hl:=Qfl hb
  have h1:cs.drop off=[]:=Xap.1 hl.1
  have h2:ds.drop off=[]:=Xap.1 hl.2
  rw [h1,h2] at hb
  simp only [Qbg] at hb
  cases hb
  rfl
 |f::fs,off,r,us,us',cs,ds,b,hf,hr,hr',hle,hle',hb=>by
  simp only [Qh6] at hf
  split at hf
  ·rename_i hcond
   obtain ⟨hname,hoff⟩:=hcond
   split at hf
   ·rename_i k hk
    split at hf
    ·rename_i hsz
     split at hf
     ·rename_i r' hr''
      cases hf
      obtain ⟨ag,hag,hone⟩:=hks _ _ hk
      obtain ⟨b1,b2,e1,e2,rfl⟩:=Qhc hb
      have hl:=Qfl e1
      have hl1:off+k.length≤us.length:=by have h0:=hr.1;have:=hl.1;rw [Xbh,Xa5] at this;omega
      have hl2:off+k.length≤us'.length:=by have h0:=hr'.1;have:=hl.2;rw [Xbh,Xa5] at this;omega
      obtain ⟨v,hv,hval⟩:=Qkt (P:=P) (w:=w) hag hsz hone hl1
      obtain ⟨v',hv',hval'⟩:=Qkt (P:=P) (w:=w) hag hsz hone hl2
      have h1:=ih f.type k ag _ _ _ _ v v' b1 hk hag hone hval hval' ((hr.drop off).take k.length) ((hr'.drop off).take k.length) e1
      have h2:=Qjn ih hks fs (off+k.length) r' us us' cs ds b2 hr'' hr hr' hl1 hl2 (by rw [Xcu,Xcu] at e2;exact e2)
      unfold Op.eqFields
      rw [if_pos hname]
      subst hoff
      simp only [Qad,hv,hv',h1,Result.andThen]
      cases b1
      ·rfl
      ·simp only [Bool.not_true,Xaj,if_false,h2,Xa0]
     ·cases hf
    ·cases hf
   ·cases hf
  ·cases hf
theorem Qwo {x y:V} {b:Bool} (h:Qdq .b x y=some b):∃a c,x = .bool a∧y = .bool c∧b=(a == c):=by
 cases x <;> (try (cases h;done))
 cases y <;> (try (cases h;done))
 cases h;exact ⟨_,_,rfl,rfl,rfl⟩
theorem Qwp {x y:V} {b:Bool} (h:Qdq .i x y=some b):∃k a c,x = .int k a∧y = .int k c∧b=(a == c):=by
 cases x <;> (try (cases h;done))
 cases y <;> (try (cases h;done))
 simp only [Qdq] at h
 split at h
 ·rename_i hk;subst hk;cases h;exact ⟨_,_,_,rfl,rfl,rfl⟩
 ·cases h
theorem Qwq {x y:V} {b:Bool} (h:Qdq .s x y=some b):∃a c,x = .str a∧y = .str c∧b=decide (a=c):=by
 cases x <;> (try (cases h;done))
 cases y <;> (try (cases h;done))
 cases h;exact ⟨_,_,rfl,rfl,rfl⟩
theorem Quz:∀(n:Nat) (t:TypeId) (k:List CK),Qf5 P n t=some k→∃ag,agOf P t=some ag∧(ag=false→k.length=1)
 |0,t,k,h=>by simp [Qf5] at h
 |n+1,t,k,h=>by
  unfold Qf5 at h
  unfold agOf
  split at h <;> (try (cases h;done))
  ·rename_i hu;cases h;exact ⟨false,by rw [hu];rfl,fun _=>rfl⟩
  ·rename_i hu;cases h;exact ⟨false,by rw [hu];rfl,fun _=>rfl⟩
  ·rename_i hu;cases h;exact ⟨false,by rw [hu];rfl,fun _=>rfl⟩
  ·rename_i hu;exact ⟨true,by rw [hu];rfl,fun h=>by cases h⟩
theorem Qsa:∀(n:Nat) (d:Nat) (t:TypeId) (k:List CK) (ag:Bool) (us us':List Value) (cs ds:List V) (v v':Value) (b:Bool),Qf5 P n t=some k→agOf P t=some ag→(ag=false→k.length=1)→
  Val ag us v→Val ag us' v'→Reps M Z us cs→Reps M Z us' ds→Qbg k cs ds=some b→(Op.equalIn (n+d) t v v').run P w = .ok b w
 |0,_,t,k,_,_,_,_,_,_,_,_,h,_,_,_,_,_,_,_=>by simp [Qf5] at h
 |n+1,d,t,k,ag,us,us',cs,ds,v,v',b,h,hag,hone,hv,hv',hr,hr',hb=>by
  have one:∀ {c:CK},k=[c]→ag=false→∃x y,us=[v]∧us'=[v']∧Rep M Z v x∧Rep M Z v' y∧Qdq c x y=some b:=by
   intro c hk hag'
   subst hk hag'
   unfold Val at hv hv'
   rw [if_neg (by simp)] at hv hv'
   subst hv hv'
   obtain ⟨hl1,hl2⟩:=Qfl hb
   obtain ⟨x,rfl⟩:=Xcv.1 hl1
   obtain ⟨y,rfl⟩:=Xcv.1 hl2
   refine ⟨x,y,rfl,rfl,hr.head,hr'.head,?_⟩
   simp only [Qbg,Xaa,Xab] at hb
   obtain ⟨a,ha,b',hb',he⟩:=hb
   cases hb'
   simp at he
   rw [ha,he]
  rw [show n+1+d=(n+d)+1 from by omega]
  unfold Qf5 at h
  split at h <;> (try (cases h;done))
  ·rename_i hu
   cases h
   obtain ⟨x,y,_,_,hx,hy,he⟩:=one rfl (by unfold agOf at hag;rw [hu] at hag;cases hag;rfl)
   obtain ⟨a,c,rfl,rfl,rfl⟩:=Qwo he
   cases hx.inv_bool;cases hy.inv_bool
   simp only [Op.equalIn,Qad,run_underlying hu,Result.andThen]
   rfl
  ·rename_i kk hu
   cases h
   obtain ⟨x,y,_,_,hx,hy,he⟩:=one rfl (by unfold agOf at hag;rw [hu] at hag;cases hag;rfl)
   obtain ⟨k,a,c,rfl,rfl,rfl⟩:=Qwp he
   cases hx.inv_int;cases hy.inv_int
   simp only [Op.equalIn,Qad,run_underlying hu,Result.andThen,if_true]
   rfl
  ·rename_i hu
   cases h
   obtain ⟨x,y,_,_,hx,hy,he⟩:=one rfl (by unfold agOf at hag;rw [hu] at hag;cases hag;rfl)
   obtain ⟨_,_,rfl,rfl,rfl⟩:=Qwq he
   obtain ⟨sa,rfl,rfl⟩:=hx.inv_str
   obtain ⟨sb,rfl,rfl⟩:=hy.inv_str
   rw [run_equalIn_string w _ t sa sb hu,Qf6,Qf6,Qma]
  ·rename_i fs hu
   split at h
   ·cases h
   ·rename_i hst
    have hag':ag=true:=by unfold agOf at hag;rw [hu] at hag;cases hag;rfl
    subst hag'
    unfold Val at hv hv'
    rw [if_pos rfl] at hv hv'
    subst hv hv'
    have hfo:P.fieldsOf t=fs:=by unfold Program.fieldsOf;rw [hu]
    rw [run_equalIn_struct w (n+d) t us.toArray us'.toArray (by rw [hfo];exact hu) (by simpa using hst),hfo]
    exact Qjn (fun t k ag us us' cs ds v v' b=>Qsa n d t k ag us us' cs ds v v' b) (fun t k hk=>Quz n t k hk) fs.toList 0 k us us' cs ds b h hr hr' (Xa1 _) (Xa1 _) (by simpa using hb)
theorem Qm7 {op:BinOp} {t:TypeId} {ox oy:Operand} (h:(isC ox||isC oy)=true):(eqGuard op t ox oy .nilIface .nilIface).run P w = .ok () w:=by
 cases ox <;> cases oy <;> (try (simp [isC] at h;done)) <;> cases op <;> rfl
def Wfp:Value→Value→Bool
 | .int _ _,.int _ _ | .float _ _,.float _ _ | .complex _ _ _,.complex _ _ _ | .string _,.string _=>false
 |_,_=>true
theorem Qwr {t:TypeId} {va vb:Value} (h:Wfp va vb=true):binOp .eql t va vb=(do pure (.bool (←Op.equal t va vb))):=by
 cases va <;> cases vb <;> first|rfl|cases h
theorem Qws {t:TypeId} {va vb:Value} (h:Wfp va vb=true):binOp .neq t va vb=(do pure (.bool (!(←Op.equal t va vb)))):=by
 cases va <;> cases vb <;> first|rfl|cases h
theorem Wfq {op:BinOp} {t:TypeId} {ox oy:Operand} {k:EqK} {va vb:Value} {x y z:V} (hc:Wiz P op k t ox oy=true) (ha:Rep M Z va x) (hb:Rep M Z vb y) (hx:eB op k x y=some z):
  ∃u,((do eqGuard op t ox oy va vb;binOp op t va vb:Sem Value)).run P w = .ok u w∧Rep M Z u z:=by
 by_cases hi:(∃k a,x = .int k a)∧∃j b,y = .int j b
 ·obtain ⟨⟨kk,a,rfl⟩,j,b,rfl⟩:=hi
  cases ha.inv_int;cases hb.inv_int
  obtain ⟨u,hrun,hu⟩:=Wfn (P:=P) (M:=M) (Z:=Z) (w:=w) (t:=t) hx
  refine ⟨u,?_,hu⟩
  rw [Qad,Qds (fun h=>by cases h.1) (fun _ _ h=>by cases h.1)]
  exact hrun
 by_cases hs:(∃a,x = .str a)∧∃b,y = .str b
 ·obtain ⟨⟨a,rfl⟩,b,rfl⟩:=hs
  obtain ⟨sa,rfl,rfl⟩:=ha.inv_str
  obtain ⟨sb,rfl,rfl⟩:=hb.inv_str
  have hx':eB op .no (.str sa.data.toList) (.str sb.data.toList)=some z:=by rw [←hx];cases op <;> rfl
  obtain ⟨u,hrun,hu⟩:=Wfm (P:=P) (M:=M) (Z:=Z) (w:=w) hx'
  refine ⟨u,?_,hu⟩
  rw [Qad,Qds (fun h=>by cases h.1) (fun _ _ h=>by cases h.1)]
  have:binOp op t (.string sa) (.string sb)=Op.stringOp op sa sb:=by cases op <;> rfl
  simp only [Result.andThen,this]
  exact hrun
 have hev:∃b,eqV k x y=some b∧((op = .eql∧z = .bool b)∨(op = .neq∧z = .bool (!b))):=by
  have:eB op k x y=match op with
    | .eql=>(eqV k x y).map V.bool
    | .neq=>(eqV k x y).map fun b=>.bool (!b)
    |_=>none:=by
   unfold eB
   split
   ·exact absurd ⟨⟨_,_,rfl⟩,_,_,rfl⟩ hi
   ·exact absurd ⟨⟨_,rfl⟩,_,rfl⟩ hs
   ·cases op <;> rfl
  rw [this] at hx
  cases op <;> (try (cases hx;done))
  ·simp only [Xam] at hx
   obtain ⟨b,hb,rfl⟩:=hx
   exact ⟨b,hb,.inl ⟨rfl,rfl⟩⟩
  ·simp only [Xam] at hx
   obtain ⟨b,hb,rfl⟩:=hx
   exact ⟨b,hb,.inr ⟨rfl,rfl⟩⟩
 obtain ⟨b,heq,hop⟩:=hev
 have fin:(eqGuard op t ox oy va vb).run P w = .ok () w→(Op.equal t va vb).run P w = .ok b w→Wfp va vb=true→
   ∃u,((do eqGuard op t ox oy va vb;binOp op t va vb:Sem Value)).run P w = .ok u w∧Rep M Z u z:=by
  intro h1 h2 hn
  rcases hop with ⟨rfl,rfl⟩|⟨rfl,rfl⟩
  ·refine ⟨.bool b,?_,.bool _⟩
   rw [Qad,h1]
   simp only [Result.andThen,Qwr hn,Qad,h2]
   rfl
  ·refine ⟨.bool (!b),?_,.bool _⟩
   rw [Qad,h1]
   simp only [Result.andThen,Qws hn,Qad,h2]
   rfl
 have hc':Qqo P k t ox oy=true:=by
  rcases hop with ⟨rfl,_⟩|⟨rfl,_⟩ <;> exact hc
 unfold Qqo at hc'
 by_cases hag:∃ks,k = .agg ks
 ·obtain ⟨ks,rfl⟩:=hag
  simp only [Xac,decide_eq_true_eq,Xcl] at hc'
  obtain ⟨⟨h1,h2⟩,h3⟩:=hc'
  cases x <;> (try (cases heq;done))
  cases y <;> (try (cases heq;done))
  rename_i cs ds
  have heq':Qbg ks cs ds=some b:=heq
  cases ha with
  |agg vs _ hl hr=>
   cases hb with
   |agg us _ hl' hr'=>
    refine fin (run_eqGuard_agg w op t ox oy vs us h3) ?_ rfl
    exact Qsa 20 9980 t ks true vs.toList us.toList cs ds _ _ b h2 h1 (fun e=>by cases e) rfl rfl (Rep.agg_iff.1 (.agg vs cs hl hr)) (Rep.agg_iff.1 (.agg us ds hl' hr')) heq'
 ·have hk:(P.underlying t).bind Qwn=some k∧(k = .ifc→(isC ox||isC oy)=true):=by
   cases k
   case no=>cases heq
   case agg ks=>exact absurd ⟨ks,rfl⟩ hag
   all_goals
    simp only [Xac,decide_eq_true_eq] at hc'
    refine ⟨hc'.1,fun e => ?_⟩
    first
     |(cases e;done)
     |simpa using hc'.2
  have hrun:=Wfo (w:=w) hk.1 ha hb heq
  refine fin ?_ hrun ?_
  ·by_cases hn:va = .nilIface∧vb = .nilIface
   ·obtain ⟨rfl,rfl⟩:=hn
    have hkk:k = .ifc:=by
     cases ha with
     |any _=>cases k <;> cases heq
     |nili=>cases k <;> first|rfl|(cases y <;> cases heq)
    exact Qm7 (hk.2 hkk)
   ·refine Qds hn fun u v huv => ?_
    obtain ⟨rfl,rfl⟩:=huv
    cases ha with
    |any _=>cases k <;> cases heq
    |agg _ _ _ _=>
     cases k <;> first|exact hag ⟨_,rfl⟩|(cases y <;> cases heq)
  ·unfold eqV at heq
   split at heq <;> (try (cases heq;done)) <;> cases ha <;> cases hb <;> rfl
end
section
variable {P:Program} {M:Mem} {Z:Plc} {X:Nat→Prop} {D:Own} {w:World} {U:Objs}
theorem Qwt {src dst:TypeId} {k:IntKind} {sd:TypeDesc} {v:Value} {x y:V} (hs:P.underlying src=some sd) (hd:P.underlying dst=some (.int k)) (hv:Rep M Z v x)
  (hx:eC U (.toInt k) x=some y):∃u,(convert src dst v).run P w = .ok u w∧Rep M Z u y:=by
 cases x <;> (try (cases hx;done))
 cases hx
 cases hv.inv_int
 refine ⟨_,?_,.int _ _⟩
 unfold convert
 simp only [Qad,run_underlying hs,run_underlying hd,Result.andThen]
 rfl
theorem Wbj {src dst:TypeId} {v:Value} {x y:V} (hs:P.underlying src=some .string) (hd:P.underlying dst=some .string) (hv:Rep M Z v x)
  (hx:eC U .same x=some y):∃u,(convert src dst v).run P w = .ok u w∧Rep M Z u y:=by
 cases x <;> (try (cases hx;done))
 cases hx
 obtain ⟨s,rfl,rfl⟩:=hv.inv_str
 refine ⟨_,?_,.str s _ rfl⟩
 unfold convert
 simp only [Qad,run_underlying hs,run_underlying hd,Result.andThen]
 rfl
theorem Qu0 {src dst:TypeId} {j:IntKind} {v:Value} {x y:V} (hs:P.underlying src=some (.int j)) (hd:P.underlying dst=some .string) (hv:Rep M Z v x)
  (hx:eC U .intStr x=some y):∃u,(convert src dst v).run P w = .ok u w∧Rep M Z u y:=by
 cases x <;> (try (cases hx;done))
 cases hx
 cases hv.inv_int
 refine ⟨_,?_,.str _ _ rfl⟩
 unfold convert
 simp only [Qad,run_underlying hs,run_underlying hd,Result.andThen]
 rfl
theorem Qku:∀(ns:List Int) (r:ByteArray),(ns.foldl (fun r n=>r.push (UInt8.ofNat n.toNat)) r).data.toList=r.data.toList++ns.map fun n=>UInt8.ofNat n.toNat
 |[],r=>by simp
 |n::ns,r=>by
  simp only [List.foldl_cons,Xak]
  rw [Qku ns]
  simp [ByteArray.push]
theorem Qjo:∀ {xs:List V} {bs:List UInt8},bytesOf xs=some bs→∃ns:List Int,xs=ns.map (V.int .u8)∧bs=ns.map fun n=>UInt8.ofNat n.toNat
 |[],bs,h=>by cases h;exact ⟨[],rfl,rfl⟩
 |x::xs,bs,h=>by
  cases x <;> (try (cases h;done))
  rename_i k n
  cases k <;> (try (cases h;done))
  simp only [bytesOf,Xaa,Xab] at h
  obtain ⟨bs',hb,he⟩:=h
  obtain ⟨ns,rfl,rfl⟩:=Qjo hb
  cases he
  exact ⟨n::ns,rfl,rfl⟩
theorem Qoo:∀ {us:List Value} {ns:List Int},Reps M Z us (ns.map (V.int .u8))→us=ns.map (Value.int .u8)
 |[],[],_=>rfl
 |u::us,n::ns,h=>by
  have h1:=h.head.inv_int
  rw [h1,Qoo h.tail]
  rfl
 |[],_::_,h=>by have:=h.1;simp at this
 |_::_,[],h=>by have:=h.1;simp at this
theorem Qop:∀(ns:List Int),(ns.map (V.int .u8)).flatMap V.cells=ns.map (V.int .u8)
 |[]=>rfl
 |n::ns=>by simp only [Xak,Xbp,Qop ns];rfl
theorem Wd.objOne (h:Wd M Z X D w U) {o b:Nat} {cs:List V} (hi:Z o=some b) (ho:Objs.get U o=some cs):∀c∈cs,c.one=true:=by
 unfold Objs.get at ho
 obtain ⟨O,hO,hr⟩:=h.obj o b hi
 rw [hO] at ho
 cases O with
 |cells cs'=>
  simp at ho;subst ho
  exact hr.choose_spec.choose_spec.choose_spec.2.2.2.2
 |mp es=>cases ho
theorem Qwu {c:V} (h:c.one=true):c.cells=[c]:=by cases c <;> first|rfl|cases h
theorem Qu1 {ag:Bool} {sz off:Nat} {cs:List V} {x:V} (hone:∀c∈cs,c.one=true) (hx:Ev.part ag sz cs off=some x):x.cells=((cs.drop off).take sz).map V.ng∧x.cells.length=sz:=by
 unfold Ev.part at hx
 cases ag with
 |true=>
  simp only [if_true] at hx
  split at hx
  ·cases hx;exact ⟨rfl,by simp [V.cells];omega⟩
  ·cases hx
 |false=>
  simp only [Xaj,if_false] at hx
  split at hx
  ·rename_i hsz
   subst hsz
   rw [Xam] at hx
   obtain ⟨c,hc,rfl⟩:=hx
   rw [Xbn (Xaf.1 hc).1,(Xaf.1 hc).2]
   have hc1:=hone c (Xat hc)
   rw [Qwu (by rw [V.nogr_one];exact hc1)]
   exact ⟨rfl,rfl⟩
  ·cases hx
theorem Qfm {ag:Bool} {sz:Nat} {cs:List V} (hone:∀c∈cs,c.one=true):∀(n off:Nat) (ys:List V),chunks ag sz cs n off=some ys→
  ys.length=n∧ys.flatMap V.cells=((cs.drop off).take (n * sz)).map V.ng∧∀y∈ys,y.cells.length=sz
 |0,off,ys,h=>by cases h;simp
 |n+1,off,ys,h=>by
  simp only [chunks,Xaa,Xab] at h
  obtain ⟨x,hx,xs,hxs,he⟩:=h
  cases he
  obtain ⟨h1,h2,h3⟩:=Qfm hone n _ xs hxs
  obtain ⟨hxc,hxl⟩:=Qu1 hone hx
  refine ⟨by simp [h1],?_,fun y hy => ?_⟩
  ·simp only [Xbp,h2]
   rw [hxc,←Xbj,Xc8,Xd9 (n * sz) sz,List.take_add,Xcu]
  ·rcases Xay.1 hy with rfl|hy
   ·exact hxl
   ·exact h3 y hy
theorem Qoq (h:Wd M Z X D w U) {v:Value} {x:V} {ys:List V} (hv:Rep M Z v x) (hx:Qiu U x=some ys):
  ((∃a,v = .slice a 0 0)∧ys=[])∨∃b off cap us,v = .slice (some ⟨b,off,none⟩) ys.length cap∧Reps M Z us (ys.flatMap V.cells)∧Qd9 w b off us:=by
 cases x <;> (try (cases hx;done))
 case nils=>cases hx;cases hv;exact .inl ⟨⟨_,rfl⟩,rfl⟩
 case sl xs c=>
  cases hx
  rcases hv.inv_sl with ⟨b,off,cap,sz,us,rfl,_,hr,hm,_,_⟩|⟨a,rfl,rfl,_⟩
  case inr=>exact .inl ⟨⟨_,rfl⟩,rfl⟩
  exact .inr ⟨b,off,cap,us,rfl,hr,h.cells hm⟩
 case hs o off len sz ag=>
  simp only [Qiu,Xaa,Xab] at hx
  obtain ⟨cs,hcs,hch⟩:=hx
  obtain ⟨b,cap,rfl,hi,hc⟩:=hv.inv_hs
  obtain ⟨us,hr,hcell⟩:=h.objCells hi hcs
  have hone:=h.objOne hi hcs
  obtain ⟨h1,h2,_⟩:=Qfm hone len off ys hch
  refine .inr ⟨b,off,cap,(us.drop off).take (len * sz),by rw [h1],?_,?_⟩
  ·rw [h2];exact ((hr.drop off).take _).ng
  ·have:=(hcell.drop off).take (len * sz)
   rwa [Xb1] at this
theorem Qhd {b off n sz cap:Nat} {us:List Value} (hl:us.length=n * sz) (hc:Qd9 w b off us) (len:Nat):
  (Builtin.firstCells sz n (.slice (some ⟨b,off,none⟩) len cap)).run P w = .ok us.toArray w:=by
 unfold Builtin.firstCells
 simp only
 rw [←hl]
 exact Qfk b off us hc
theorem Qjp (h:Wd M Z X D w U) {src dst e:TypeId} {v:Value} {x y:V} (hs:P.underlying src=some (.slice e)) (he:P.underlying e=some (.int .u8)) (hd:P.underlying dst=some .string) (hv:Rep M Z v x)
  (hx:eC U .bytesStr x=some y):∃u,(convert src dst v).run P w = .ok u w∧Rep M Z u y:=by
 have main:∀xs bs,Qiu U x=some xs→bytesOf xs=some bs→y = .str bs→∃u,(convert src dst v).run P w = .ok u w∧Rep M Z u y:=by
  intro xs bs hrow hb hy
  subst hy
  obtain ⟨ns,rfl,rfl⟩:=Qjo hb
  rcases Qoq h hv hrow with ⟨⟨a0,rfl⟩,hnil⟩|⟨b,off,cap,us,rfl,hr,hc⟩
  ·have:ns=[]:=by simpa using hnil
   subst this
   refine ⟨.string .empty,?_,.str _ _ rfl⟩
   rw [run_convert_bytes_string w src dst e a0 0 0 hs he hd]
   cases a0 <;> rfl
  ·rw [Qop] at hr
   have hus:=Qoo hr
   subst hus
   refine ⟨_,?_,.str _ _ (Qku ns ByteArray.empty)⟩
   rw [run_convert_bytes_string w src dst e _ _ _ hs he hd]
   refine run_bytesToString w _ _ _ ns ?_
   have:=Qfk (P:=P) b off _ hc
   rwa [show (ns.map (Value.int .u8)).length=(ns.map (V.int .u8)).length from by simp] at this
 cases x <;> (try (cases hx;done))
 case nils=>cases hx;exact main [] [] rfl rfl rfl
 case sl xs c=>
  simp only [eC,Xam] at hx
  obtain ⟨bs,hb,rfl⟩:=hx
  exact main xs bs rfl hb rfl
 case hs o off len sz ag=>
  simp only [eC,Xaa,Xab,Xam] at hx
  obtain ⟨xs,hxs,bs,hb,rfl⟩:=hx
  exact main xs bs hxs hb rfl
theorem Wbk {U:Objs} {x y:V} (h:eC U .bytesStrN x=some y):eC U .bytesStr x=some y:=by
 cases x <;> first|exact h|cases h
theorem Wbl {t ty:TypeId} {v:Value} {x y:V} (ht:P.underlying t=some .string) (hv:Rep M Z v x) (hx:Qfw x=some y):
  ∃u,(Builtin.len_ #[t] ty #[v]).run P w = .ok u w∧Rep M Z u y:=by
 cases x <;> (try (cases hx;done))
 cases hx
 obtain ⟨ba,rfl,rfl⟩:=hv.inv_str
 refine ⟨goInt ba.size,?_,?_⟩
 ·unfold Builtin.len_
  simp only [Xdk,Xb9,Qad,run_underlying ht,Result.andThen]
  rfl
 ·have:((ba.data.toList.length:Nat):Int)=ba.size:=by rw [Xa4];rfl
  rw [this];exact .int _ _
theorem Wfr {t ty e:TypeId} {v:Value} {x y:V} (ht:P.underlying t=some (.slice e)) (hv:Rep M Z v x)
  (hx:Qai x=some y):∃u,(Builtin.len_ #[t] ty #[v]).run P w = .ok u w∧Rep M Z u y:=by
 have run:∀a n c,(Builtin.len_ #[t] ty #[.slice a n c]).run P w = .ok (goInt n) w:=by
  intro a n c
  unfold Builtin.len_
  simp only [Xdk,Xb9,Qad,run_underlying ht,Result.andThen]
  rfl
 cases x <;> (try (cases hx;done)) <;> cases hx
 ·cases hv;exact ⟨goInt 0,run _ _ _,.int _ _⟩
 ·rcases hv.inv_sl with ⟨b,off,cap,sz,us,rfl,_⟩|⟨a,rfl,rfl,_⟩ <;> exact ⟨_,run _ _ _,.int _ _⟩
 ·obtain ⟨b,cap,rfl,_⟩:=hv.inv_hs;exact ⟨_,run _ _ _,.int _ _⟩
theorem Wea {mx:Bool} : ∀ {vs:List Value} {xs:List V} {v:Value} {x y:V},Rep M Z v x→(Qf1 x).isSome→Reps M Z vs xs→Qkp mx x xs=some y→
  ∃u,(vs.foldlM (if mx then Builtin.max2 else Builtin.min2) v).run P w = .ok u w∧Rep M Z u y
 |[],[],v,x,y,hv,hi,_,hx=>by
  simp only [Qkp] at hx
  cases hx
  exact ⟨v,rfl,hv⟩
 |u::us,z::zs,v,x,y,hv,hi,hr,hx=>by
  cases x <;> (try (cases hx;done)) <;> (try (simp [Qf1] at hi;done))
  rename_i k a
  cases z <;> (try (cases hx;done))
  rename_i j b
  simp only [Qkp] at hx
  split at hx
  ·rename_i hkj
   subst hkj
   cases hv.inv_int
   have hu:=hr.head.inv_int
   subst hu
   obtain ⟨r,hrun,hrep⟩:=Wea (mx:=mx) (.int k _) rfl hr.tail hx
   refine ⟨r,?_,hrep⟩
   rw [List.foldlM_cons,Qad]
   cases mx <;> exact hrun
  ·cases hx
 |[],_::_,_,_,_,_,_,h,_=>by have:=h.1;simp at this
 |_::_,[],_,_,_,_,_,h,_=>by have:=h.1;simp at this
theorem Wbm (h:Wd M Z X D w U) {t e:TypeId} {n sz:Nat} {ag:Bool} {v:Value} {p x:V} {lo hi:Option Value} {xlo xhi:Option V} (ht:P.underlying t=some (.array n e)) (hz:szOf P e=some sz)
  (hv:Rep M Z v p) (h1:RepO M Z lo xlo) (h2:RepO M Z hi xhi) (hx:Qfv n sz ag p xlo xhi=some x):
  ∃u,(Instr.sliceAt t v lo hi none).run P w = .ok u w∧Rep M Z u x:=by
 unfold Qfv at hx
 simp only [Xaa,Xab] at hx
 obtain ⟨⟨l,hh,m⟩,hb,hx⟩:=hx
 obtain ⟨hrun,hle,hle2,hm⟩:=Qcd (P:=P) (w:=w) (isSlice:=false) (mx:=none) (xmx:=none) (Xai n) h1 h2 trivial (by simp) hb
 have hmn:m=none:=by
  cases m with
  |none=>rfl
  |some k=>
   exfalso
   unfold bounds at hb
   simp only [Xaa,Xad,Xb7] at hb
   cases xhi <;> cases xlo <;> simp [Xab] at hb
 subst hmn
 simp only [Xb7] at hrun
 have start:∀a,v = .pointer (some a)→(Instr.sliceAt t v lo hi none).run P w = .ok (.slice (some (if n=l then a else a.add (l * sz))) (hh - l) (n - l)) w:=by
  intro a ha
  subst ha
  unfold Instr.sliceAt Instr.sureAddr
  simp only [Qad,run_underlying ht,Result.andThen,Qap,hrun,Qb3 hz]
 cases p <;> (try (cases hx;done))
 case ptr o off=>
  cases hx
  obtain ⟨b,rfl,hib⟩:=hv.inv_ptr
  refine ⟨_,start _ rfl,?_⟩
  by_cases hlh:l=hh
  ·subst hlh
   rw [if_pos rfl,Xc9]
   by_cases hkl:n=l
   ·rw [if_pos hkl]
    exact Rep.sl (M:=M) (Z:=Z) [] .no b off _ 0 [] (by simp) rfl (by simp) (by simp) (Xa1 _) (fun e=>by cases e)
   ·rw [if_neg hkl,Qcs]
    exact Rep.sl (M:=M) (Z:=Z) [] .no b _ _ 0 [] (by simp) rfl (by simp) (by simp) (Xa1 _) (fun e=>by cases e)
  ·rw [if_neg hlh,if_neg X0o,Qcs]
   exact .hs o _ _ sz ag b _ hib X0o
 case eptr cs off=>
  simp only [Xab] at hx
  obtain ⟨xs,hxs,hx⟩:=hx
  split at hx
  ·rename_i hok
   cases hx
   have hone:∀c∈cs,c.one=true:=fun c hc=>by simpa using Xbb.1 hok c hc
   obtain ⟨hl1,hflat,hsz⟩:=Qfm hone (hh - l) (off+l * sz) xs hxs
   obtain ⟨b,base,us,rfl,hr,hmm⟩:=hv.inv_eptr
   refine ⟨_,start _ rfl,?_⟩
   have hrr:=(((hr.drop (off+l * sz)).take ((hh - l) * sz)).ng)
   rw [←hflat] at hrr
   by_cases hkl:n=l
   ·have h0:hh - l=0:=by omega
    rw [if_pos hkl]
    have hnil:xs=[]:=Xap.1 X0o
    subst hnil
    rw [h0]
    exact Rep.sl (M:=M) (Z:=Z) [] .no b (base+off) _ 0 [] (by simp) rfl (by simp) (by simp) (Xa1 _) (fun e=>by cases e)
   ·rw [if_neg hkl,Qcs,←hl1]
    refine Rep.sl (M:=M) (Z:=Z) xs .no b _ _ sz _ hsz hrr.1 (fun i u hu => ?_) hrr.2 X0o (fun e=>by cases e)
    rw [Xar] at hu
    split at hu
    ·rw [Xa6] at hu
     have:=hmm _ u hu
     rwa [show base+(off+l * sz+i)=base+off+l * sz+i from by omega] at this
    ·cases hu
  ·cases hx
end
theorem Qmb (off:Nat):∀(vs:List Value) (k:Nat) (cells:Array Value),(vs.zipIdx k).foldl (fun cs (x:Value×Nat)=>cs.setIfInBounds (off+x.2) x.1) cells=layA cells (off+k) vs
 |[],_,_=>rfl
 |v::vs,k,cells=>by
  simp only [List.zipIdx_cons,List.foldl_cons,layA]
  rw [Qmb off vs (k+1)]
  rfl
theorem Qor (place:Nat→Option (Nat×Nat)) (cells:Array Value) (i:Nat) (v:Value) (rest:List (Nat×Value)) {off sz:Nat} (hp:place i=some (off,sz)) (hs:v.cells.size=sz) (hle:off+sz≤cells.size):
  Instr.fill place cells ((i,v)::rest)=Instr.fill place (layA cells off v.cells.toList) rest:=by
 have h1:v.cells.zipIdx.foldl (fun cs (x:Value×Nat)=>cs.setIfInBounds (off+x.2) x.1) cells=layA cells off v.cells.toList:=by
  rw [←Array.foldl_toList,Array.toList_zipIdx]
  exact Qmb off v.cells.toList 0 cells
 simp only [Instr.fill,hp]
 rw [if_neg (by simp [hs];omega)]
 exact congrArg (fun c=>Instr.fill place c rest) h1
def Qgt (place:Nat→Option (Nat×Nat)):List (Nat×Operand)→List (Nat×Nat×Arg)→Bool
 |[],[]=>true
 |(i,x)::xs,(off,sz,y)::ys=>decide (place i=some (off,sz))&&Qa2 x y&&Qgt place xs ys
 |_,_=>false
def Qce:List (Nat×Operand)→List (Nat×Arg)→Bool
 |[],[]=>true
 |(i,x)::xs,(j,y)::ys=>i == j&&Qa2 x y&&Qce xs ys
 |_,_=>false
def Qsb (P:Program) (t:TypeId):Option (Nat→Option (Nat×Nat)):=
 match P.underlying t with
 |some (.array _ e)=>(P.info? e).map fun ie=>fun i=>some (i * ie.size,ie.size)
 |some (.struct fields)=>(fields.toList.mapM (fun f=>(P.info? f.type).map fun i=>(f.offset,i.size))).map fun places=>fun i=>places.toArray[i]?
 |_=>none
def Qfx (P:Program) (t:TypeId):Option Value:=(P.info? t).bind (·.zero)
def Qm8 (P:Program) (t:TypeId) (z:List V) (ps:List (Nat×Operand)) (qs:List (Nat×Nat×Arg)):Bool:=
 match Qfx P t,Qsb P t with
 |some zv,some place=>Qdw zv.cells.toList z&&Qgt place ps qs
 |_,_=>false
section
variable {P:Program} {M:Mem} {Z:Plc} {X:Nat→Prop} {D:Own} {w:World} {U:Objs}
theorem Qh7 {cs:List V} (h:Qan cs=true):∀c∈cs,c.one=true:=fun c hc=>by simpa using Xbb.1 h c hc
theorem Qsc {us vs:List Value} {cs ds:List V} {off:Nat} (hr:Reps M Z us cs) (hs:Reps M Z vs ds) (hle:off+ds.length≤cs.length):
  Reps M Z (layA us.toArray off vs).toList (Qcp cs off ds):=by
 have hl:=hr.1
 have hl':=hs.1
 refine ⟨by rw [Xa4,Qf3,Qdf];simpa using hl,fun i u c hu hc => ?_⟩
 rw [Xdj,Qgq vs us.toArray off i (by simp;omega)] at hu
 rw [Qd8 cs off ds i hle,←hl'] at hc
 by_cases hin:off≤i∧i<off+vs.length
 ·rw [if_pos hin] at hu hc;exact hs.2 _ u c hu hc
 ·rw [if_neg hin] at hu hc;exact hr.2 i u c (by simpa using hu) hc
theorem Qsd {r:Operand→Value} {A:Arg→V} (hA:Opd M Z r A) {place:Nat→Option (Nat×Nat)} : ∀ {ps:List (Nat×Operand)} {qs:List (Nat×Nat×Arg)} {us:List Value} {z z':List V},
  Qgt place ps qs=true→Reps M Z us z→lay z (qs.map fun q=>(q.1,q.2.1,A q.2.2))=some z'→
  ∃us',Instr.fill place us.toArray (ps.map fun p=>(p.1,r p.2))=some us'.toArray∧Reps M Z us' z'
 |[],[],us,z,z',_,hr,hz=>by
  simp only [Xa8,lay] at hz
  cases hz
  exact ⟨us,rfl,hr⟩
 |(i,x)::ps,(off,sz,y)::qs,us,z,z',hc,hr,hz=>by
  simp only [Qgt,Xac,decide_eq_true_eq] at hc
  obtain ⟨⟨h1,h2⟩,h3⟩:=hc
  simp only [Xak,lay] at hz
  split at hz
  ·rename_i hcond
   obtain ⟨hlen,hle,hok⟩:=hcond
   have hrx:=(hA.ok x y h2).cells (Qh7 hok)
   have hsz:(r x).cells.size=sz:=by have:=hrx.1;simp at this;rw [this];exact hlen
   have hl:=hr.1
   have hreps:=Qsc hr hrx.ng (off:=off) (by simp;omega)
   obtain ⟨us',h4,h5⟩:=Qsd hA h3 hreps hz
   refine ⟨us',?_,h5⟩
   simp only [Xak]
   rw [Qor place us.toArray i (r x) _ h1 hsz (by simp;omega)]
   simpa using h4
  ·cases hz
 |[],_::_,_,_,_,hc,_,_=>by simp [Qgt] at hc
 |_::_,[],_,_,_,hc,_,_=>by simp [Qgt] at hc
theorem Qwv {r:Operand→Value} {A:Arg→V} (hA:Opd M Z r A) {t:TypeId} {z:List V} {ps:Array (Nat×Operand)} {qs:List (Nat×Nat×Arg)} {x:V} (hc:Qm8 P t z ps.toList qs=true)
  (hx:(lay z (qs.map fun (o,s,y)=>(o,s,A y))).map V.agg=some x):∃u,(Instr.build t (ps.map fun (i,y)=>(i,r y))).run P w = .ok u w∧Rep M Z u x:=by
 rw [Xam] at hx
 obtain ⟨z',hz,rfl⟩:=hx
 unfold Qm8 at hc
 split at hc
 ·rename_i zv place hzv hpl
  simp only [Xac] at hc
  obtain ⟨us',hf,hr⟩:=Qsd hA hc.2 (Qb5 (M:=M) (Z:=Z) hc.1).1 hz
  refine ⟨.agg us'.toArray,run_build w t _ _ ?_,Rep.agg_iff.2 hr⟩
  unfold Qfx at hzv
  rw [Xab] at hzv
  obtain ⟨it,hit,hzv⟩:=hzv
  have hps:(ps.map fun (i,y)=>(i,r y)).toList=ps.toList.map fun p=>(p.1,r p.2):=by simp
  unfold Qsb at hpl
  unfold Program.built
  rw [hps,hit]
  split at hpl
  ·rename_i n e hu
   rw [hu]
   rw [Xam] at hpl
   obtain ⟨ie,hie,rfl⟩:=hpl
   simp only [hzv,hie]
   exact hf
  ·rename_i fields hu
   rw [hu]
   rw [Xam] at hpl
   obtain ⟨places,hpp,rfl⟩:=hpl
   simp only [hzv,hpp]
   exact hf
  ·cases hpl
 ·cases hc
theorem Wbn {xs:List V} {sz i:Nat} {y:V} (hs:∀x∈xs,x.cells.length=sz) (hy:y.cells.length=sz) (hi:i<xs.length):(xs.set i y).flatMap V.cells=Qcp (xs.flatMap V.cells) (i * sz) y.cells:=by
 have hs2:∀x∈xs.set i y,x.cells.length=sz:=fun x hx=>by
  rcases Xci hx with h|rfl
  ·exact hs x h
  ·exact hy
 have hl:=Qb6 hs
 have hle:i * sz+sz≤xs.length * sz:=by rw [←Xc8];exact Xb8 _ hi
 apply Xbz
 intro j
 rw [Qd8 _ _ _ j (by rw [hy,hl];exact hle),hy]
 by_cases hsz:sz=0
 ·subst hsz
  have h1:(xs.set i y).flatMap V.cells=[]:=Xap.1 (by rw [Qb6 hs2];simp)
  have h2:xs.flatMap V.cells=[]:=Xap.1 (by rw [hl];simp)
  rw [h1,h2,if_neg X0o]
 have hget:∀(zs:List V),(∀x∈zs,x.cells.length=sz)→(zs.flatMap V.cells)[j]? = (zs[j / sz]?).bind fun x=>x.cells[j % sz]? := by
  intro zs hz
  by_cases hj:j / sz<zs.length
  ·have he:=Xae hj
   have:=Qm6 hz he
   have hm:=Nat.mod_lt j (Xd1 hsz)
   rw [he,Xad,←this,Xar,if_pos hm,Xa6]
   congr 1
   rw [Xdl];exact (Xdc j sz).symm
  ·rw [Xa3 (Xc0.1 hj),Xdo,Xa3]
   rw [Qb6 hz]
   have h1:=Xc0.1 hj
   have h2:=Nat.div_mul_le_self j sz
   exact Xca (Xb8 _ h1) h2
 rw [hget _ hs2,hget _ hs]
 by_cases hin:i * sz≤j∧j<i * sz+sz
 ·rw [if_pos hin]
  have hd:j / sz=i:=by
   apply Nat.div_eq_of_lt_le
   ·exact hin.1
   ·rw [Xc8];exact hin.2
  have hm:j % sz=j - i * sz:=by
   have:=Xdc j sz
   rw [hd,Xdl] at this
   omega
  rw [hd,Xaq hi,Xad,hm]
 ·rw [if_neg hin]
  have hd:j / sz≠i:=by
   intro e
   apply hin
   subst e
   have:=Xdc j sz
   have hm:=Nat.mod_lt j (Xd1 hsz)
   rw [Xdl] at this
   omega
  rw [Xba (Ne.symm hd)]
theorem Qmc {r:Operand→Value} {A:Arg→V} (hA:Opd M Z r A) {sz:Nat} : ∀ {ps:List (Nat×Operand)} {qs:List (Nat×Arg)} {us:List Value} {z z':List V},
  Qce ps qs=true→(∀x∈z,x.cells.length=sz)→Reps M Z us (z.flatMap V.cells)→Qdr sz z (qs.map fun q=>(q.1,A q.2))=some z'→
  ∃us',Instr.fill (fun i=>some (i * sz,sz)) us.toArray (ps.map fun p=>(p.1,r p.2))=some us'.toArray∧Reps M Z us' (z'.flatMap V.cells)∧z'.length=z.length∧∀x∈z',x.cells.length=sz
 |[],[],us,z,z',_,hs,hr,hz=>by
  simp only [Xa8,Qdr] at hz
  cases hz
  exact ⟨us,rfl,hr,rfl,hs⟩
 |(i,x)::ps,(j,y)::qs,us,z,z',hc,hs,hr,hz=>by
  simp only [Qce,Xac,beq_iff_eq] at hc
  obtain ⟨⟨rfl,h2⟩,h3⟩:=hc
  simp only [Xak,Qdr] at hz
  split at hz
  ·rename_i hcond
   obtain ⟨hlen,hlt,hok⟩:=hcond
   have hrx:=(hA.ok x y h2).cells (Qh7 hok)
   have hsz:(r x).cells.size=sz:=by have:=hrx.1;simp at this;rw [this];exact hlen
   have hl:=hr.1
   rw [Qb6 hs] at hl
   have hle:i * sz+sz≤z.length * sz:=by rw [←Xc8];exact Xb8 _ hlt
   have hny:(A y).ng.cells=(A y).cells∨∃q,(A y).cells=[q]∧(A y).ng.cells=[q.ng]:=by
    cases A y <;> first|exact .inl rfl|exact .inr ⟨_,rfl,rfl⟩
   have hrx':Reps M Z (r x).cells.toList (A y).ng.cells:=by
    rcases hny with h|⟨q,h1,h2⟩
    ·rw [h];exact hrx
    ·rw [h2];rw [h1] at hrx;exact hrx.ng
   have hnl:(A y).ng.cells.length=sz:=by rw [V.nogr_cells_length];exact hlen
   have hreps:=Qsc hr hrx' (off:=i * sz) (by rw [hnl,Qb6 hs];exact hle)
   rw [←Wbn hs hnl hlt] at hreps
   obtain ⟨us',h4,h5,h6,h7⟩:=Qmc hA h3 (fun q hq=>by
    rcases Xci hq with h|rfl
    ·exact hs q h
    ·exact hnl) hreps hz
   refine ⟨us',?_,h5,by simpa using h6,h7⟩
   simp only [Xak]
   rw [Qor _ us.toArray i (r x) _ rfl hsz (by simp;omega)]
   simpa using h4
  ·cases hz
 |[],_::_,_,_,_,hc,_,_,_=>by simp [Qce] at hc
 |_::_,[],_,_,_,hc,_,_,_=>by simp [Qce] at hc
theorem Qu2 {zv:List Value} {z:V} {n:Nat} (hr:Reps M Z zv z.cells) (h0:zv.length≠0):
  Reps M Z ((Array.range (n * zv.length)).map (zv.toArray[· % zv.length]!)).toList ((List.replicate n z).flatMap V.cells):=by
 have hs:∀x∈List.replicate n z,x.cells.length=zv.length:=fun x hx=>by rw [Xb6 hx];exact hr.1.symm
 refine ⟨by simp [Qb6 hs],fun i u c hu hc => ?_⟩
 have hi:i<n * zv.length:=by
  have:=(Xaf.1 hc).1
  rw [Qb6 hs] at this
  simpa using this
 have hm:=Nat.mod_lt i (Xd1 h0)
 have hu':u=zv[i % zv.length]:=by
  simp [hi] at hu
  rw [←hu]
  simp [hm]
 have hd:i / zv.length<n:=Nat.div_lt_of_lt_mul (by rw [Xdl];exact hi)
 have he:(List.replicate n z)[i / zv.length]? = some z:=by simp [hd]
 have hg:=Qm6 hs he
 have hc':z.cells[i % zv.length]? = some c:=by
  rw [←hg,Xar,if_pos hm,Xa6]
  rw [←hc]
  congr 1
  rw [Xdl];exact Xdc i zv.length
 exact hr.2 _ u c (by rw [hu'];exact Xae hm) hc'
end
def putL (us:List Value) (d:Option Nat) (v:Value):List Value:=
 match d with
 |some d=>us.set d v
 |none=>us
theorem Qdt (a:Act) (d:Option Nat) (v:Value):(a.put d v).tmps.toList=putL a.tmps.toList d v:=by
 cases d <;> simp [Act.put,putL]
section
variable {P:Program} {M:Mem} {Z:Plc} {X:Nat→Prop} {D:Own} {w:World} {us:List Value} {J:List V} {U:Objs}
theorem St.putNone (h:St M Z X D w us J U) {v:Value} {x:V} (hr:Rep M Z v x) (ho:ownB v x=none) (d:Option Nat):St M Z X D w (putL us d v) (put J d x) U:=by
 cases d with
 |none=>exact h
 |some d=>exact h.setSlot hr ho d
theorem St.putOwn (h:St M Z X D w us J U) {v:Value} {x:V} (hr:Rep M Z v x) (ho:∀b,ownB v x=some b→Free M Z X D w b∧GrOK M w v x) (d:Option Nat):∃D',St M Z X D' w (putL us d v) (put J d x) U:=by
 cases d with
 |none=>exact ⟨D,h⟩
 |some d=>
  cases hb:ownB v x with
  |none=>exact ⟨D,h.setSlot hr hb d⟩
  |some b=>exact h.giveSlot hr hb (ho b hb).1 (ho b hb).2 d
theorem St.putRow (h:St M Z X D w us J U) (ars:Array Value) (T:TypeId) (fz:Nat×Nat) (xs:List V) (c:Cap) (cap sz:Nat)
  (hr:Reps M Z (ars.toList.take (xs.flatMap V.cells).length) (xs.flatMap V.cells)) (hs:∀y∈xs,y.cells.length=sz) (hcap:xs.length≤cap) (hfx:c = .fx→cap=xs.length)
  (hgr:∀s,c = .gr s→s=sz∧cap * sz≤ars.size∧∀i,(xs.flatMap V.cells).length≤i→i<ars.size→Qbp fz i=false) (d:Option Nat):
  ∃M' D',Ext X M Z w M' Z (Qcm w (.cells ars T fz))∧St M' Z X D' (Qcm w (.cells ars T fz)) (putL us d (.slice (some ⟨w.heap.size,0,none⟩) xs.length cap)) (put J d (.sl xs c)) U:=by
 cases d with
 |some d=>obtain ⟨M',D',h1,h2,_⟩:=h.newRow ars T fz xs c cap sz hr hs hcap hfx hgr d;exact ⟨M',D',h1,h2⟩
 |none=>
  refine ⟨Qiw M w.heap.size (ars.toList.take (xs.flatMap V.cells).length),D,Ext.push h.wd _ _,h.push _ _ (fun i u hu=>⟨ars,T,fz,rfl,?_⟩)⟩
  rw [Xar] at hu
  split at hu
  ·simpa using hu
  ·cases hu
theorem Qe4 {ag:Bool} {sz:Nat} {ys:List V} (h:Qdj ag sz ys=true):(∀y∈ys,y.cells.length=sz)∧(∀y∈ys,∀c∈y.cells,c.one=true)∧∀y∈ys,agOk ag y=true:=by
 unfold Qdj at h
 refine ⟨fun y hy => ?_,fun y hy => ?_,fun y hy => ?_⟩ <;> have:=Xbb.1 h y hy <;> simp only [Xac,decide_eq_true_eq] at this
 ·exact this.1.1
 ·exact Qh7 this.1.2
 ·exact this.2
theorem Qmd {ag:Bool} {sz:Nat} {ys:List V} (h:Qdj ag sz ys=true):∀c∈ys.flatMap V.cells,c.one=true:=fun c hc=>by
 obtain ⟨y,hy,hcy⟩:=Xdp.1 hc
 exact (Qe4 h).2.1 y hy c hcy
def Qeu (P:Program) (e:TypeId) (z:V):Bool:=
 match Qfx P e with
 |some zv=>Qdw zv.cells.toList z.cells
 |none=>false
def Qd2 (P:Program) (t:TypeId) (ag:Bool) (sz:Nat):Option TypeId:=
 match P.underlying t with
 |some (.slice e)=>if Qet P e ag sz then some e else none
 |_=>none
theorem Qem {t e:TypeId} {ag:Bool} {sz:Nat} (h:Qd2 P t ag sz=some e):P.underlying t=some (.slice e)∧Qet P e ag sz=true:=by
 unfold Qd2 at h
 split at h
 ·split at h
  ·cases h;exact ⟨‹_›,‹_›⟩
  ·cases h
 ·cases h
theorem Qh8 {e:TypeId} {sz:Nat} (h:szOf P e=some sz):∃i,P.info? e=some i∧i.size=sz:=by
 unfold szOf at h
 rw [Xam] at h
 exact h
theorem Qj9 {e:TypeId} {ag:Bool} {sz:Nat} (h:Qet P e ag sz=true):szOf P e=some sz:=by
 simp only [Qet,Xac,beq_iff_eq] at h;exact h.1.2
theorem Qse {e:TypeId} {z:V} {sz n:Nat} (hz:Qeu P e z=true) (hsz:szOf P e=some sz) (hzl:z.cells.length=sz) (hpos:sz≠0):
  ∃i zv,P.info? e=some i∧i.size=sz∧i.zero=some zv∧zv.cells.size=sz∧Reps M Z ((Array.range (n * sz)).map (zv.cells[· % zv.cells.size]!)).toList ((List.replicate n z).flatMap V.cells):=by
 unfold Qeu at hz
 split at hz
 ·rename_i zv hzv
  unfold Qfx at hzv
  rw [Xab] at hzv
  obtain ⟨i,hi,hiz⟩:=hzv
  obtain ⟨i',hi',his⟩:=Qh8 hsz
  rw [hi] at hi';cases hi'
  have hr:=(Qb5 (M:=M) (Z:=Z) hz).1
  have hl:zv.cells.size=sz:=by
   have:=hr.1
   rw [Xa4] at this
   rw [this];exact hzl
  refine ⟨i,zv,hi,his,hiz,hl,?_⟩
  have:=Qu2 (n:=n) hr (by rw [Xa4,hl];exact hpos)
  simpa [hl] using this
 ·cases hz
theorem Qkv (h:St M Z X D w us J U) {r:Operand→Value} {A:Arg→V} (hA:Opd M Z r A) {t e:TypeId} {ag:Bool} {sz len:Nat} {z:V} {ps:Array (Nat×Operand)} {qs:List (Nat×Arg)} {xs:List V}
  (ht:Qd2 P t ag sz=some e) (hz:len=0∨Qeu P e z=true∧z.cells.length=sz) (hpos:sz≠0) (hsmall:len * sz≤16777216) (hps:Qce ps.toList qs=true)
  (hx:Qdr sz (List.replicate len z) (qs.map fun (i,y)=>(i,A y))=some xs):
  ∃ars,(Instr.buildSlice t len (ps.map fun (i,y)=>(i,r y))).run P w = .ok (.slice (some ⟨w.heap.size,0,none⟩) len len) (Qcm w (.cells ars e (0,0)))∧
   Reps M Z ars.toList (xs.flatMap V.cells)∧xs.length=len∧∀y∈xs,y.cells.length=sz:=by
 obtain ⟨hu,hty⟩:=Qem ht
 have hsz:=Qj9 hty
 have hpl:(ps.map fun (i,y)=>(i,r y)).toList=ps.toList.map fun p=>(p.1,r p.2):=by simp
 by_cases hlen:len=0
 ·subst hlen
  obtain ⟨i,hi,his⟩:=Qh8 hsz
  have hnil:ps.toList=[]∧qs=[]:=by
   cases qs with
   |nil=>
    cases hpp:ps.toList with
    |nil=>exact ⟨rfl,rfl⟩
    |cons a b=>rw [hpp] at hps;simp [Qce] at hps
   |cons q qs=>
    simp only [Xdy,Xak,Qdr] at hx
    rw [if_neg (by simp)] at hx
    cases hx
  obtain ⟨hn1,rfl⟩:=hnil
  simp only [Xdy,Xa8,Qdr] at hx
  cases hx
  refine ⟨#[],?_,by exact Reps.nil,rfl,by simp⟩
  unfold Instr.buildSlice
  simp only [Qad,run_underlying hu,Qb3 hsz,Result.andThen,Xea]
  rw [if_neg (by decide)]
  simp [Qad,Qap,Result.andThen,hpl,hn1,Instr.fill,newRow,newObj,Sem.run,Qcm,Array.range_zero']
 ·obtain ⟨hz1,hz2⟩:=hz.resolve_left hlen
  obtain ⟨i,zv,hi,his,hiz,hzs,hreps⟩:=Qse (M:=M) (Z:=Z) (n:=len) hz1 hsz hz2 hpos
  obtain ⟨us',hf,hr,hl,hs⟩:=Qmc hA hps (fun x hx=>by rw [Xb6 hx];exact hz2) hreps hx
  refine ⟨us'.toArray,?_,by simpa using hr,by simpa using hl,hs⟩
  have:=run_buildSlice (P:=P) w t e len (ps.map fun (i,y)=>(i,r y)) us'.toArray i zv hu hi hiz (by rw [his];omega) (by rw [his];exact Nat.mul_ne_zero hlen hpos) (by
   rw [his,hpl]
   rw [Array.toArray_toList] at hf
   exact hf)
  exact this
end
theorem one' {v:Value} (h:v.oneCell=true):v.oneCell'=true:=by cases v <;> first|rfl|cases h
section
variable {P:Program} {M:Mem} {Z:Plc} {X:Nat→Prop} {D:Own} {w:World} {us:List Value} {J:List V} {U:Objs}
def Qsf (P:Program) (str:Bool) (tx:TypeId) (sz:Nat):Bool:=
 match P.underlying tx with
 |some (.slice _)=>!str
 |some .string=>str&&sz == 1
 |_=>false
theorem Qos (s:ByteArray):Reps M Z (byteCells s) (Qae s.data.toList):=by
 unfold byteCells Qae
 refine ⟨by simp,fun i u c hu hc => ?_⟩
 simp only [Xan,Xam] at hu hc
 obtain ⟨b,hb,rfl⟩:=hu
 obtain ⟨b',hb',rfl⟩:=hc
 rw [hb] at hb';cases hb'
 exact .int _ _
theorem Qjq (l:List UInt8):(Qae l).flatMap V.cells=Qae l:=by
 induction l with
 |nil=>rfl
 |cons b l ih=>unfold Qae at *; simp only [Xak,Xbp,ih];rfl
theorem Qsg {vs:List Value} {cs:List V} (h:Reps M Z vs cs) (h1:∀c∈cs,c.one=true):∀u∈vs,u.oneCell=true:=fun u hu=>by
 obtain ⟨i,hi⟩:=Xcc.1 hu
 obtain ⟨c,hc,hr⟩:=h.get' hi
 exact hr.one (h1 c (Xat hc))
theorem Qsh (h:Wd M Z X D w U) {str:Bool} {tx:TypeId} {sz:Nat} {ag:Bool} {v:Value} {y:V} {ys:List V} (hk:Qsf P str tx sz=true) (hv:Rep M Z v y) (hs:Qfj str U y=some ys) (hok:Qdj ag sz ys=true):
  ∃vs,Src P sz tx v ys.length vs w∧Reps M Z vs (ys.flatMap V.cells):=by
 unfold Qsf at hk
 unfold Qfj at hs
 have hlen:=Qb6 (Qe4 hok).1
 split at hk
 ·rename_i e hu
  have hstr:str=false:=by simpa using hk
  subst hstr
  simp only [Xaj,if_false] at hs
  rcases Qoq h hv hs with ⟨⟨a0,rfl⟩,rfl⟩|⟨b,off,cap,vs,rfl,hr,hc⟩
  ·cases a0 with
   |none=>exact ⟨[],Src.ofNil w hu 0,Reps.nil⟩
   |some a=>exact ⟨[],Src.ofSlice w hu _ _ _ [] (by simp) (fun j u hju=>by simp at hju) (fun u hu=>by simp at hu),Reps.nil⟩
  ·refine ⟨vs,Src.ofSlice w hu _ _ _ vs (by rw [hr.1,hlen]) (fun j u hju => ?_) (fun u hu=>one' (Qsg hr (Qmd hok) u hu)),hr⟩
   rw [Qcs];exact hc j u hju
 ·rename_i hu
  simp only [Xac,beq_iff_eq] at hk
  obtain ⟨rfl,rfl⟩:=hk
  simp only [if_true] at hs
  cases y <;> (try (cases hs;done))
  cases hs
  obtain ⟨s,rfl,rfl⟩:=hv.inv_str
  refine ⟨byteCells s,?_,?_⟩
  ·have:=Src.ofString w hu s
   have hl:(Qae s.data.toList).length=s.size:=by unfold Qae;rw [Xao,Xa4];rfl
   rw [hl];exact this
  ·rw [Qjq];exact Qos s
 ·cases hk
theorem Qot {t tx ty e:TypeId} {i:TypeInfo} (ht:P.underlying t=some (.slice e)) (hi:P.info? e=some i) {b off sLen sCap:Nat} {x:Value} {n:Nat} {news:List Value} (hs:Src P i.size tx x n news w)
  (hroom:sLen+n≤sCap) {ws:Array Value} {T:TypeId} {fz:Nat×Nat} (hb:w.heap[b]? = some (.cells ws T fz)) (hl:off+sLen * i.size+news.length≤ws.size)
  (hf:∀j,off+sLen * i.size≤j→j<ws.size→Qbp fz j=false):
  (Builtin.append_ #[t,tx] ty #[.slice (some ⟨b,off,none⟩) sLen sCap,x]).run P w = .ok (.slice (some ⟨b,off,none⟩) (sLen+n) sCap) (setRow w b (layA ws (off+sLen * i.size) news) T fz):=by
 have hone:∀u∈news,u.oneCell=true:=fun u hu=>by have:=hs.one u hu;cases u <;> first|rfl|cases this
 have hst:=Qes (P:=P) b (off+sLen * i.size) T fz news w ws 0 hb (by simpa using hl) (fun j h1 h2=>hf j (by simpa using h1) (by simp at h2;omega)) hone
 simp only [Xd2] at hst
 rcases hs.kind with ⟨e',hk⟩|hk <;> simp [Builtin.append_,Go.run_underlying ht,Go.run_underlying hk,sizeOf,typeInfo,hi,hs.len,hroom,hs.cells,Qcs,hst]
theorem take_left {α:Type} (a b:List α):(a++b).take a.length=a:=List.take_left
def HK (Z:Plc) (w w':World):Prop:=∀o b,Z o=some b→w'.heap[b]? = w.heap[b]?
theorem HK.refl (Z:Plc) (w:World):HK Z w w:=fun _ _ _=>rfl
theorem Wd.hkPush (h:Wd M Z X D w U) (o:Obj) (n:Nat):HK Z w (Qcm { w with drawn:=n } o):=fun o b hi=>Qc5 _ _ (h.olt o b hi)
theorem Wd.hkPush' (h:Wd M Z X D w U) (o:Obj):HK Z w (Qcm w o):=fun o b hi=>Qc5 _ _ (h.olt o b hi)
theorem Qka (h:St M Z X D w us J U) {t tx ty e:TypeId} {ag:Bool} {sz bytes:Nat} (ht:Qd2 P t ag sz=some e) (hz:∃zv,Qfx P e=some zv∧zv.cells.size=sz) (hby:(P.info? e).map (·.bytes)=some bytes) (hpos:sz≠0)
  {base:Option Addr} {sCap:Nat} {xs ys:List V} {olds vs:List Value} {v:Value} (hold:∀w':World,w'.heap=w.heap→(Builtin.firstCells sz xs.length (.slice base xs.length sCap)).run P w' = .ok olds.toArray w')
  (hro:Reps M Z olds (xs.flatMap V.cells)) (hxs:∀x∈xs,x.cells.length=sz) (hsrc:Src P sz tx v ys.length vs w) (hrv:Reps M Z vs (ys.flatMap V.cells)) (hys:∀y∈ys,y.cells.length=sz)
  (hg:sCap<xs.length+ys.length) (hle:(xs.length+ys.length) * bytes≤Qbj) (hmax:xs.length+ys.length≤9223372036854775807) (d:Option Nat):
  ∃u w' M' D',(Builtin.append_ #[t,tx] ty #[.slice base xs.length sCap,v]).run P w = .ok u w'∧Ext X M Z w M' Z w'∧HK Z w w'∧St M' Z X D' w' (putL us d u) (put J d (.sl (xs++ys) (.gr sz))) U:=by
 obtain ⟨hu,hty⟩:=Qem ht
 obtain ⟨i,hi,his⟩:=Qh8 (Qj9 hty)
 obtain ⟨zv,hzv,hzs⟩:=hz
 have hiz:i.zero=some zv:=by unfold Qfx at hzv;rw [hi] at hzv;exact hzv
 have hib:i.bytes=bytes:=by rw [hi] at hby;simpa using hby
 subst his hib
 have hfit:Builtin.nextslicecap (xs.length+ys.length) sCap * i.bytes≤281474976710656:=growslice_fits hg hle
 have hrun:=run_append_grow_src (P:=P) w t tx ty e i zv hu hi hiz base xs.length sCap olds (hold w.drew rfl) v ys.length vs hsrc hg X0o hfit
 have hcap:=grownCap_ge w (xs.length+ys.length) sCap e
 have hzc:=size_zeroCells zv.cells (grownCap w (xs.length+ys.length) sCap e - (xs.length+ys.length))
 have hd:=h.drew
 have hreps:Reps M Z (olds++vs) ((xs++ys).flatMap V.cells):=by rw [Xdz];exact hro.append hrv
 have hboth:∀y∈xs++ys,y.cells.length=i.size:=fun y hy=>by
  rcases Xbq.1 hy with h|h
  ·exact hxs y h
  ·exact hys y h
 have hfl:=Qb6 hboth
 have hol:(olds++vs).length=((xs++ys).flatMap V.cells).length:=hreps.1
 obtain ⟨M',D',he,hst⟩:=hd.putRow ((olds++vs).toArray++Builtin.zeroCells zv.cells (grownCap w (xs.length+ys.length) sCap e - (xs.length+ys.length))) e (0,0) (xs++ys) (.gr i.size) (grownCap w (xs.length+ys.length) sCap e) i.size
  (by
   rw [Xdx,←hol]
   rw [show ((olds++vs).toArray).toList=olds++vs from rfl,take_left]
   exact hreps) hboth (by simpa using hcap) (fun e=>by cases e) (fun s hs=>by
   cases hs
   refine ⟨rfl,?_,fun j _ _ => ?_⟩
   ·rw [Array.size_append,hzc,hzs,Xdh,hol,hfl,Xas,←Xd5]
    exact Xb8 _ X0o
   ·unfold Qbp;simp) d
 refine ⟨_,_,M',D',hrun,(Ext.drew X M Z w).trans he,h.wd.hkPush _ _,?_⟩
 have hla:(xs++ys).length=xs.length+ys.length:=Xas
 rw [hla] at hst
 exact hst
end
section
variable {P:Program} {M:Mem} {Z:Plc} {X:Nat→Prop} {D:Own} {w:World} {us:List Value} {J:List V} {U:Objs}
theorem Qea {t tx ty e:TypeId} {i:TypeInfo} (ht:P.underlying t=some (.slice e)) (hi:P.info? e=some i) {base:Option Addr} {sLen sCap:Nat} {x:Value} (hs:Src P i.size tx x 0 [] w) (hroom:sLen≤sCap):
  (Builtin.append_ #[t,tx] ty #[.slice base sLen sCap,x]).run P w = .ok (.slice base sLen sCap) w:=by
 have hst:∀a:Addr,(storeCells a []).run P w = .ok () w:=fun a=>rfl
 cases base <;> rcases hs.kind with ⟨e',hk⟩|hk <;> simp [Builtin.append_,Go.run_underlying ht,Go.run_underlying hk,sizeOf,typeInfo,hi,hs.len,hroom,hs.cells,hst]
def Qkw (P:Program) (str ag:Bool) (sz bytes:Nat) (t tx:TypeId):Bool:=
 match Qd2 P t ag sz with
 |some e=>decide ((Qfx P e).map (·.cells.size)=some sz)&&decide ((P.info? e).map (·.bytes)=some bytes)&&decide (sz≠0)&&decide (bytes≠0)&&Qsf P str tx sz
 |none=>false
theorem Qhn {str ag:Bool} {sz bytes:Nat} {t tx:TypeId} (h:Qkw P str ag sz bytes t tx=true):
  ∃e i,Qd2 P t ag sz=some e∧P.underlying t=some (.slice e)∧P.info? e=some i∧i.size=sz∧(∃zv,Qfx P e=some zv∧zv.cells.size=sz)∧(P.info? e).map (·.bytes)=some bytes∧sz≠0∧bytes≠0∧Qsf P str tx sz=true:=by
 unfold Qkw at h
 split at h
 ·rename_i e he
  simp only [Xac,decide_eq_true_eq] at h
  obtain ⟨⟨⟨⟨h1,h2⟩,h3⟩,h4⟩,h5⟩:=h
  obtain ⟨hu,hty⟩:=Qem he
  obtain ⟨i,hi,his⟩:=Qh8 (Qj9 hty)
  rw [Xam] at h1
  exact ⟨e,i,he,hu,hi,his,h1,h2,h3,h4,h5⟩
 ·cases h
theorem Qsi {n b:Nat} (h:n * b≤Qbj) (hb:b≠0):n≤9223372036854775807:=by
 have:n * 1≤n * b:=Nat.mul_le_mul_left _ (Nat.one_le_iff_ne_zero.2 hb)
 unfold Qbj at h
 omega
theorem Qsj {ag:Bool} {sz bytes:Nat} {xs ys:List V} {c:Cap} {z:V} (h:Qd1 ag sz bytes (.sl xs c) ys=some z) (hne:ys≠[]):
  Qdj ag sz ys=true∧(c = .fx∨c = .gr sz)∧(∀q∈xs,q.cells.length=sz)∧(xs.length+ys.length) * bytes≤Qbj∧z = .sl (xs++ys) (.gr sz):=by
 unfold Qd1 at h
 split at h
 ·rename_i hok
  cases ys with
  |nil=>exact absurd rfl hne
  |cons y0 yr=>
   simp only at h
   split at h
   ·rename_i hcond
    cases h
    exact ⟨hok,hcond.1,fun q hq=>by simpa using Xbb.1 hcond.2.1 q hq,hcond.2.2,rfl⟩
   ·cases h
 ·cases h
theorem Qu3 {ag:Bool} {sz bytes:Nat} {ys:List V} {z:V} (h:Qd1 ag sz bytes .nils ys=some z) (hne:ys≠[]):
  Qdj ag sz ys=true∧ys.length * bytes≤Qbj∧z = .sl ys (.gr sz):=by
 unfold Qd1 at h
 split at h
 ·rename_i hok
  simp only [hne,if_false] at h
  split at h
  ·rename_i hle;cases h;exact ⟨hok,hle,rfl⟩
  ·cases h
 ·cases h
theorem Qkx {ag:Bool} {sz bytes:Nat} {x:V} {ys:List V} {z:V} (h:Qd1 ag sz bytes x ys=some z):x = .nils∨∃xs c,x = .sl xs c:=by
 unfold Qd1 at h
 split at h
 ·cases x <;> first|exact .inl rfl|exact .inr ⟨_,_,rfl⟩|cases h
 ·cases h
theorem Qww (h:St M Z X D w us J U) {t tx ty:TypeId} {str ag:Bool} {sz bytes:Nat} (hc:Qkw P str ag sz bytes t tx=true) {vx vy:Value} {x y z:V} {ys:List V} (hx:Rep M Z vx x) (hy:Rep M Z vy y)
  (hs:Qfj str U y=some ys) (hne:ys≠[]) (hno:∀xs s,x≠.sl xs (.gr s)) (he:Qd1 ag sz bytes x ys=some z) (d:Option Nat):
  ∃u w' M' D',(Builtin.append_ #[t,tx] ty #[vx,vy]).run P w = .ok u w'∧Ext X M Z w M' Z w'∧HK Z w w'∧St M' Z X D' w' (putL us d u) (put J d z) U:=by
 obtain ⟨e,i,hel,hu,hi,his,hz,hby,hsz,hb0,hsrc⟩:=Qhn hc
 have hpos:0<ys.length:=Xcr.2 hne
 rcases Qkx he with rfl|⟨xs,c,rfl⟩
 ·obtain ⟨hok,hle,rfl⟩:=Qu3 he hne
  obtain ⟨vs,hS,hrv⟩:=Qsh h.wd hsrc hy hs hok
  have hys:=(Qe4 hok).1
  cases hx
  have:=Qka (ty:=ty) h hel hz hby hsz (base:=none) (sCap:=0) (xs:=[]) (olds:=[]) (fun w' _=>rfl) Reps.nil (by simp) hS hrv hys (by simp;exact hpos) (by simpa using hle) (by simpa using Qsi hle hb0) d
  simpa using this
 ·obtain ⟨hok,hcc,hxs,hle,rfl⟩:=Qsj he hne
  obtain ⟨vs,hS,hrv⟩:=Qsh h.wd hsrc hy hs hok
  have hys:=(Qe4 hok).1
  have hfx:c = .fx:=hcc.resolve_right (fun e=>hno xs sz (by rw [e]))
  rcases hx.inv_sl with ⟨b,off,cap,sz',us',rfl,_,hr,hm,hcap,hf⟩|⟨a0,rfl,rfl,_⟩
  case inr=>
   exact Qka (ty:=ty) h hel hz hby hsz (base:=some a0) (sCap:=0) (xs:=[]) (olds:=[]) (fun w' _=>by unfold Builtin.firstCells;simp only [Xa9,Xea];rfl) Reps.nil (by simp) hS hrv hys (by simp;exact hpos) (by simpa using hle) (by simpa using Qsi hle hb0) d
  have hcl:=hf hfx
  have hcell:=h.wd.cells hm
  exact Qka (ty:=ty) h hel hz hby hsz (base:=some ⟨b,off,none⟩) (sCap:=cap) (xs:=xs) (olds:=us') (fun w' hw'=>by
   refine Qhd (cap:=cap) (by rw [hr.1,Qb6 hxs]) (fun i u hu => ?_) xs.length
   have:=hcell i u hu
   simpa [World.cell?,hw'] using this) hr hxs hS hrv hys X0o hle (Qsi hle hb0) d
theorem Wfs {str:Bool} {tx:TypeId} {sz:Nat} {v:Value} {vs:List Value} {ys:List V} (h:Src P sz tx v ys.length vs w) (hn:ys=[]):Src P sz tx v 0 [] w:=by
 subst hn
 have hl:=h.newsLen
 have:vs=[]:=Xap.1 (by simpa using hl)
 subst this
 exact h
theorem Qsk (h:Wd M Z X D w U) {t tx ty:TypeId} {str ag:Bool} {sz bytes:Nat} (hc:Qkw P str ag sz bytes t tx=true) {vx vy:Value} {x y z:V} (hx:Rep M Z vx x) (hy:Rep M Z vy y)
  (hs:Qfj str U y=some []) (he:Qd1 ag sz bytes x []=some z):(Builtin.append_ #[t,tx] ty #[vx,vy]).run P w = .ok vx w∧z=x:=by
 obtain ⟨e,i,hel,hu,hi,his,hz,hby,hsz,hb0,hsrc⟩:=Qhn hc
 have hok:Qdj ag sz []=true:=rfl
 obtain ⟨vs,hS,hrv⟩:=Qsh h hsrc hy hs hok
 have hS':=Wfs (str:=str) hS rfl
 subst his
 unfold Qd1 at he
 rw [if_pos hok] at he
 cases x <;> (try (cases he;done))
 case nils=>
  simp at he
  cases hx
  exact ⟨Qea hu hi hS' (Xai _),he.symm⟩
 case sl xs c=>
  simp at he
  rcases hx.inv_sl with ⟨b,off,cap,sz',us',rfl,_,hr,hm,hcap,hf⟩|⟨a0,rfl,rfl,_⟩
  ·exact ⟨Qea hu hi hS' hcap,he.symm⟩
  ·exact ⟨Qea hu hi hS' (Xai _),he.symm⟩
theorem Wi1 (h:St M Z X D w us J U) {t tx ty:TypeId} {str ag:Bool} {sz bytes:Nat} (hc:Qkw P str ag sz bytes t tx=true) {n s:Nat} {vx vy:Value} {xs:List V} {y z:V} {ys:List V}
  (hv:us[n]? = some vx) (hxn:J[n]? = some (.sl xs (.gr s))) (hy:Rep M Z vy y) (hs:Qfj str U y=some ys) (hne:ys≠[]) (he:Qd1 ag sz bytes (.sl xs (.gr s)) ys=some z) (d:Option Nat):
  ∃u w' M' D',(Builtin.append_ #[t,tx] ty #[vx,vy]).run P w = .ok u w'∧Ext X M Z w M' Z w'∧HK Z w w'∧St M' Z X D' w' (putL us d u) (put (J.set n (.sl xs .no)) d z) U:=by
 obtain ⟨e,i,hel,hu,hi,his,hz,hby,hsz,hb0,hsrc⟩:=Qhn hc
 obtain ⟨hok,hcc,hxs,hle,rfl⟩:=Qsj he hne
 have hss:s=sz:=by rcases hcc with h|h <;> cases h;rfl
 subst hss
 obtain ⟨vs,hS,hrv⟩:=Qsh h.wd hsrc hy hs hok
 have hys:=(Qe4 hok).1
 have hrx:=h.rep.2 n _ _ hv hxn
 rcases hrx.inv_sl with ⟨b,off,cap,sz',us',rfl,_,hr,hm,hcap,_⟩|⟨_,_,_,hng⟩
 case inr=>exact absurd rfl (hng _)
 have hcell:=h.wd.cells hm
 obtain ⟨D1,h1,hf,hg⟩:=h.takeSlot hv hxn (rfl:ownB _ _=some b)
 obtain ⟨g1,g2,ws,T,fz,g3,g4,g5⟩:=hg.ok xs s rfl _ _ _ rfl
 have hfl:=Qb6 hxs
 simp only at g2 g3 g4 g5
 have h1':St M Z X D1 w us (J.set n (.sl xs .no)) U:=h1
 by_cases hroom:xs.length+ys.length≤cap
 ·
  have hvl:vs.length=ys.length * s:=hS.newsLen
  have hend:off+xs.length * s+vs.length≤ws.size:=by
   rw [hvl,Xcp,←Xd5]
   exact Xca (Nat.add_le_add_left (Xb8 _ hroom) _) g4
  subst his
  have hrun:=Qot (P:=P) (ty:=ty) hu hi hS hroom g3 hend (fun j hj1 hj2=>g5 j (by rw [hfl];exact hj1) hj2)
  obtain ⟨h2,hx2⟩:=h1'.fill hf g3 (s:=off+xs.length * i.size) (vs:=vs) (fun j hj=>g2 j (by rw [hfl];exact hj)) hend
  have hboth:∀q∈xs++ys,q.cells.length=i.size:=fun q hq=>by
   rcases Xbq.1 hq with h|h
   ·exact hxs q h
   ·exact hys q h
  have hul:us'.length=xs.length * i.size:=by rw [hr.1,hfl]
  have hrep:Rep (Qkr M b (off+xs.length * i.size) vs) Z (.slice (some ⟨b,off,none⟩) (xs++ys).length cap) (.sl (xs++ys) (.gr i.size)):=by
   have hrr:Reps (Qkr M b (off+xs.length * i.size) vs) Z (us'++vs) ((xs++ys).flatMap V.cells):=by
    rw [Xdz];exact (hr.mono hx2.m hx2.i).append (hrv.mono hx2.m hx2.i)
   refine .sl (xs++ys) (.gr i.size) b off cap i.size (us'++vs) hboth hrr.1 (fun j u hju => ?_) hrr.2 (by rw [Xas];exact hroom) (fun e=>by cases e)
   rw [Xds] at hju
   split at hju
   ·exact hx2.m.le _ _ _ (hm j u hju)
   ·rename_i hge
    unfold Qkr
    have hlt:=(Xaf.1 hju).1
    rw [if_pos ⟨rfl,by omega,by omega⟩]
    rw [show off+j - (off+xs.length * i.size)=j - us'.length from by omega]
    exact hju
  obtain ⟨D',h3⟩:=h2.putOwn hrep (fun b' hb'=>by
   cases hb'
   refine ⟨⟨hf.k,hf.x,hf.i,by rw [Qbn];exact hf.lt⟩,⟨fun xs' s' hx' a len cap' hv' => ?_⟩⟩
   cases hx';cases hv'
   refine ⟨hboth,fun j hj => ?_,layA ws (off+xs.length * i.size) vs,T,fz,by rw [Qav,if_pos rfl,if_pos hf.lt],by rw [Qf3];exact g4,fun j hj1 hj2=>g5 j ?_ (by rw [Qf3] at hj2;exact hj2)⟩
   ·unfold Qkr
    have hbl:=Qb6 hboth
    rw [Xas,Xd5] at hbl
    simp only at hj
    rw [if_neg X0o]
    exact g2 j X0o
   ·have hbl:=Qb6 hboth
    rw [Xas,Xd5] at hbl
    simp only at hj1
    omega) d
  rw [Xas] at h3
  exact ⟨_,_,_,D',hrun,hx2,fun o b' hi'=>by rw [Qav,if_neg (fun e=>by subst e;exact hf.i o hi')],h3⟩
 ·exact Qka (ty:=ty) h1' hel hz hby hsz (base:=some ⟨b,off,none⟩) (sCap:=cap) (xs:=xs) (olds:=us') (fun w' hw'=>by
   refine Qhd (cap:=cap) (by rw [hr.1,Qb6 hxs]) (fun i u hu => ?_) xs.length
   have:=hcell i u hu
   simpa [World.cell?,hw'] using this) hr hxs hS hrv hys X0o hle (Qsi hle hb0) d
end
def okTk (y:Arg) (tk:Bool):Bool:=
 match y,tk with
 |_,false=>true
 | .t _,true=>true
 |_,_=>false
def Qjr:Option Operand→Option Arg→Bool
 |none,none=>true
 |some x,some y=>Qa2 x y
 |_,_=>false
def Wbo:TypeDesc→Bool
 | .interface _=>false
 |_=>true
def Qou (P:Program) (t:TypeId):Bool:=match P.underlying t with|some .string=>true|_=>false
def Qqp (P:Program) (t:TypeId):Bool:=match P.underlying t with|some (.int .u8)=>true|_=>false
theorem Qho {P:Program} {t:TypeId} (h:Qou P t=true):P.underlying t=some .string:=by
 unfold Qou at h;split at h <;> first|assumption|cases h
theorem Qe5 {P:Program} {t:TypeId} (h:Qqp P t=true):P.underlying t=some (.int .u8):=by
 unfold Qqp at h;split at h <;> first|assumption|cases h
def Qba (P:Program) (o:Op) (i:Ins):Bool:=
 match i with
 | .mv y tk=>match o with
  | .move x | .assign x=>Qa2 x y&&okTk y tk
  |_=>false
 | .pick c' a' b'=>match o with
  | .pick c a b=>Qa2 c c'&&Qa2 a a'&&Qa2 b b'
  |_=>false
 | .alloc z=>match o with
  | .alloc e=>(match Qfx P e with|some zv=>Qdw zv.cells.toList z|none=>false)
  |_=>false
 | .box y=>match o with
  | .box _ x=>Qa2 x y
  |_=>false
 | .build z qs=>match o with
  | .build t ps=>Qm8 P t z ps.toList qs
  |_=>false
 | .buildSl ag sz len z qs _=>match o with
  | .buildSlice t len' ps=>(match Qd2 P t ag sz with
   |some e=>len == len'&&(len == 0||Qeu P e z&&decide (z.cells.length=sz))&&decide (sz≠0)&&decide (len * sz≤16777216)&&Qce ps.toList qs
   |none=>false)
  |_=>false
 | .buildG ag sz len z qs=>match o with
  | .buildSlice t len' ps=>(match Qd2 P t ag sz with
   |some e=>len == len'&&(len == 0||Qeu P e z&&decide (z.cells.length=sz))&&decide (sz≠0)&&decide (len * sz≤16777216)&&Qce ps.toList qs
   |none=>false)
  |_=>false
 | .mark y=>match o with
  | .convert s d x=>s == d&&(match P.underlying s with|some (.slice e)=>Qqp P e|_=>false)&&Qa2 x y&&okTk y true
  |_=>false
 | .load ag sz y=>match o with
  | .load t x=>Qet P t ag sz&&Qa2 x y
  |_=>false
 | .loadT y=>match o with
  | .load t x=>Qet P t false 1&&Qa2 x y
  |_=>false
 | .store sz p' y tk=>match o with
  | .store t p x=>decide (szOf P t=some sz)&&Qa2 p p'&&Qa2 x y&&okTk y tk
  |_=>false
 | .nilc y=>match o with
  | .nilCheck x=>Qa2 x y
  |_=>false
 | .bin op' k x' y'=>match o with
  | .binOp op t x y _=>decide (op=op')&&Wiz P op k t x y&&Qa2 x x'&&Qa2 y y'
  |_=>false
 | .un op' y=>match o with
  | .unOp op _ x=>decide (op=op')&&Qa2 x y
  |_=>false
 | .conv k y=>match o with
  | .convert s d x=>Qa2 x y&&(match k,P.underlying s,P.underlying d with
   | .toInt k',some _,some (.int j)=>decide (k'=j)
   | .same,some .string,some .string=>true
   | .intStr,some (.int _),some .string=>true
   | .strBytes,some .string,some (.slice e)=>Qqp P e
   | .bytesStr,some (.slice e),some .string=>Qqp P e
   | .bytesStrN,some (.slice e),some .string=>Qqp P e
   |_,_,_=>false)
  |_=>false
 | .bytesH y=>match o with
  | .convert s d x=>Qa2 x y&&(match P.underlying s,P.underlying d with
   |some .string,some (.slice e)=>Qqp P e
   |_,_=>false)
  |_=>false
 | .cutS y lo' hi'=>match o with
  | .slice t x lo hi mx=>Qou P t&&mx.isNone&&Qa2 x y&&Qjr lo lo'&&Qjr hi hi'
  |_=>false
 | .cut sz y lo' hi' mx'=>match o with
  | .slice t x lo hi mx=>(match P.underlying t with|some (.slice e)=>decide (szOf P e=some sz)|_=>false)&&Qa2 x y&&Qjr lo lo'&&Qjr hi hi'&&Qjr mx mx'&&(mx'.isNone||hi'.isSome)
  |_=>false
 | .cutA n sz _ y lo' hi'=>match o with
  | .slice t x lo hi mx=>(match P.underlying t with|some (.array m e)=>n == m&&decide (szOf P e=some sz)|_=>false)&&mx.isNone&&Qa2 x y&&Qjr lo lo'&&Qjr hi hi'
  |_=>false
 | .faddr off y=>match o with
  | .fieldAddr s x f=>(match Qgs P s f off with|some t=>(match szOf P t with|some sz=>decide (sz≠0)|none=>false)|none=>false)&&Qa2 x y
  |_=>false
 | .field ag off sz y=>match o with
  | .field s x f=>(match Qgs P s f off with|some t=>Qet P t ag sz|none=>false)&&Qa2 x y
  |_=>false
 | .iaddr sz y j=>match o with
  | .indexAddr t x i=>(match P.underlying t with|some (.slice e)=>decide (szOf P e=some sz)|_=>false)&&Qa2 x y&&Qa2 i j
  |_=>false
 | .iaddrA n sz y j=>match o with
  | .indexAddr t x i=>(match P.underlying t with|some (.array m e)=>n == m&&decide (szOf P e=some sz)|_=>false)&&Qa2 x y&&Qa2 i j
  |_=>false
 | .idx y j=>match o with
  | .index t x i=>Qou P t&&Qa2 x y&&Qa2 i j
  |_=>false
 | .idxA n ag sz y j=>match o with
  | .index t x i=>(match P.underlying t with|some (.array m e)=>n == m&&Qet P e ag sz|_=>false)&&Qa2 x y&&Qa2 i j
  |_=>false
 | .lenS y=>match o with
  | .call { callee:=.builtin .len,args,argTypes } => Qb2 args.toList [y]&&(match argTypes.toList with|[t]=>Qou P t|_=>false)
  |_=>false
 | .len y=>match o with
  | .call { callee:=.builtin .len,args,argTypes } => Qb2 args.toList [y]&&(match argTypes.toList with|[t]=>(match P.underlying t with|some (.slice _)=>true|_=>false)|_=>false)
  |_=>false
 | .app str ag sz bytes x' y' tk=>match o with
  | .call { callee:=.builtin .append,args,argTypes } => Qb2 args.toList [x',y']&&okTk x' tk&&(match argTypes.toList with|[t,tx]=>Qkw P str ag sz bytes t tx|_=>false)
  |_=>false
 | .mkfn f' a' b'=>match o with
  | .makeFunc (.func f) a b=>f == f'&&Qb2 a.toList a'&&Qb2 b.toList b'
  |_=>false
 | .mkif t' y=>match o with
  | .makeInterface t x=>t == t'&&Qa2 x y&&(match P.underlying t with|some d=>Wbo d|none=>false)
  |_=>false
 | .extr y j=>match o with
  | .extract x i=>i == j&&Qa2 x y
  |_=>false
 | .mkSl ag sz bytes z l' c' _=>match o with
  | .makeSlice t l c=>(match Qd2 P t ag sz with
   |some e=>Qeu P e z&&decide (z.cells.length=sz)&&decide (sz≠0)&&decide (bytes≠0)&&decide ((P.info? e).map (·.bytes)=some bytes)&&Qa2 l l'&&Qa2 c c'
   |none=>false)
  |_=>false
 | .mm mx ys=>match o with
  | .call { callee:=.builtin b,args,argTypes:=_ } => (match b,mx with | .max,true=>true | .min,false=>true|_,_=>false)&&Qb2 args.toList ys
  |_=>false
 | .call f ys=>match o with
  | .call { callee:=.value (.func g),args,argTypes:=_ } => f == g&&Qb2 args.toList ys
  |_=>false
 | .callv y ys=>match o with
  | .call { callee:=.value x,args,argTypes:=_ } => Qa2 x y&&Qb2 args.toList ys
  |_=>false
 |_=>false
section
variable {P:Program} {M:Mem} {Z:Plc} {X:Nat→Prop} {D:Own} {w:World} {J:List V} {U:Objs} {G:GV} {a:Act}
theorem Qdu {r:Operand→Value} {A:Arg→V} (hA:Opd M Z r A) {x:Option Operand} {y:Option Arg} (h:Qjr x y=true):RepO M Z (x.map r) (y.map A):=by
 cases x <;> cases y <;> first|trivial|exact hA.ok _ _ h|cases h
theorem Qqq {xs:List Operand} {y z:Arg} (h:Qb2 xs [y,z]=true):∃p q,xs=[p,q]∧Qa2 p y=true∧Qa2 q z=true:=by
 cases xs with
 |nil=>simp [Qb2] at h
 |cons p xs=>
  cases xs with
  |nil=>simp [Qb2] at h
  |cons q xs=>
   cases xs with
   |nil=>simp only [Qb2,Xac] at h;exact ⟨p,q,rfl,h.1,h.2.1⟩
   |cons _ _=>simp [Qb2] at h
theorem Qky {xs:List Operand} {y:Arg} (h:Qb2 xs [y]=true):∃p,xs=[p]∧Qa2 p y=true:=by
 cases xs with
 |nil=>simp [Qb2] at h
 |cons p xs=>
  cases xs with
  |nil=>simp only [Qb2,Xac] at h;exact ⟨p,rfl,h.1⟩
  |cons _ _=>simp [Qb2] at h
theorem Qsl {r:Operand→Value} {dst:Option Tmp} {args:Array Operand} {ts:Array TypeId} {type:TypeId} {pos:String} {after:Array Edge} {guard:Option (Nat×Bool)}:
  execOp r ⟨dst,.call { callee:=.builtin .len,args:=args,argTypes:=ts },type,pos,after,guard⟩=(do pure (.value (←Builtin.len_ ts type (args.map r)))):=rfl
theorem Qqr {r:Operand→Value} {dst:Option Tmp} {args:Array Operand} {ts:Array TypeId} {type:TypeId} {pos:String} {after:Array Edge} {guard:Option (Nat×Bool)}:
  execOp r ⟨dst,.call { callee:=.builtin .append,args:=args,argTypes:=ts },type,pos,after,guard⟩=(do pure (.value (←Builtin.append_ ts type (args.map r)))):=rfl
theorem Wbp (h:Wd M Z X D w U) {o:Oper} {i:Ins} {A:Arg→V} {x:V} (hA:Opd M Z a.eval A) (hc:Qba P o.op i=true) (hns:∀y,i≠.conv .strBytes y) (he:Qa8 A U i=some x):
  ∃u,(execOp a.eval o).run P w = .ok (.value u) w∧Rep M Z u x:=by
 obtain ⟨dst,op,type,pos,after,guard⟩:=o
 have val:∀(s:Sem Value) {y:V},(∃u,s.run P w = .ok u w∧Rep M Z u y)→(execOp a.eval ⟨dst,op,type,pos,after,guard⟩=(do pure (.value (←s))))→∃u,(execOp a.eval ⟨dst,op,type,pos,after,guard⟩).run P w = .ok (.value u) w∧Rep M Z u y:=by
  intro s y ⟨u,h1,h2⟩ he
  refine ⟨u,?_,h2⟩
  rw [he,Qad,h1]
  rfl
 cases i <;> (try (simp only [Qa8] at he;cases he;done))
 case pick c' a' b'=>
  cases op <;> (try (cases hc;done))
  simp only [Qba,Xac] at hc
  simp only [Qa8] at he
  split at he
  ·rename_i t ht
   cases he
   have hcv:=hA.ok _ _ hc.1.1
   rw [ht] at hcv
   have hb:=hcv.inv_bool
   rename_i c1 a1 b1 _
   refine ⟨if t then a.eval a1 else a.eval b1,?_,?_⟩
   ·simp only [execOp,Qad,hb,asBool,Qap,Result.andThen]
   ·cases t
    ·exact hA.ok _ _ hc.2
    ·exact hA.ok _ _ hc.1.2
  ·cases he
 case build z qs=>
  cases op <;> (try (cases hc;done))
  simp only [Qba] at hc
  exact val _ (Qwv hA hc he) rfl
 case load ag sz y=>
  cases op <;> (try (cases hc;done))
  simp only [Qba,Xac] at hc
  exact val _ (Wbf h hc.1 (hA.ok _ _ hc.2) he) rfl
 case nilc y=>
  cases op <;> (try (cases hc;done))
  simp only [Qba] at hc
  have hv:=hA.ok _ _ hc
  simp only [Qa8] at he
  unfold Qa4 at he
  split at he
  ·rename_i hy
   cases he
   rw [hy] at hv
   obtain ⟨b,hvb,hi⟩:=hv.inv_ptr
   refine ⟨_,?_,.ptr _ _ b hi⟩
   simp only [execOp,hvb];rfl
  ·rename_i cs off hy
   cases he
   rw [hy] at hv
   have hv':=hv
   obtain ⟨b,base,us,hvb,_,_⟩:=hv.inv_eptr
   rw [hvb] at hv'
   refine ⟨_,?_,hv'⟩
   simp only [execOp,hvb];rfl
  ·rename_i f p q hy
   cases he
   rw [hy] at hv
   have hv':=hv
   generalize hg:a.eval _=vv at hv hv'
   cases hv with
   |fn _ ars bs _ _ _ _ _ _=>
    refine ⟨_,?_,hv'⟩
    simp only [execOp,hg];rfl
  ·cases he
 case bin op' k x' y'=>
  cases op <;> (try (cases hc;done))
  simp only [Qba,Xac,decide_eq_true_eq] at hc
  obtain ⟨⟨⟨rfl,h2⟩,h3⟩,h4⟩:=hc
  exact val _ (Wfq h2 (hA.ok _ _ h3) (hA.ok _ _ h4) he) rfl
 case un op' y=>
  cases op <;> (try (cases hc;done))
  simp only [Qba,Xac,decide_eq_true_eq] at hc
  obtain ⟨rfl,h2⟩:=hc
  exact val _ (Wi0 (hA.ok _ _ h2) he) rfl
 case conv k y=>
  cases op <;> (try (cases hc;done))
  simp only [Qba,Xac] at hc
  obtain ⟨h1,h2⟩:=hc
  have hv:=hA.ok _ _ h1
  simp only [Qa8] at he
  split at h2 <;> (try (cases h2;done))
  ·rename_i hs hd
   have hkj:_=_:=of_decide_eq_true h2
   subst hkj
   exact val _ (Qwt (U:=U) hs hd hv he) rfl
  ·rename_i hs hd
   exact val _ (Wbj (U:=U) hs hd hv he) rfl
  ·rename_i hs hd
   exact val _ (Qu0 (U:=U) hs hd hv he) rfl
  ·exact absurd rfl (hns y)
  ·rename_i hs hd
   exact val _ (Qjp h hs (Qe5 h2) hd hv he) rfl
  ·rename_i hs hd
   exact val _ (Qjp h hs (Qe5 h2) hd hv (Wbk he)) rfl
 case cutS y lo' hi'=>
  cases op <;> (try (cases hc;done))
  rename_i t x lo hi mx
  simp only [Qba,Xac,decide_eq_true_eq] at hc
  obtain ⟨⟨⟨⟨h1,h2⟩,h3⟩,h4⟩,h5⟩:=hc
  cases mx with
  |some _=>cases h2
  |none=>exact val _ (Wbi (Qho h1) (hA.ok _ _ h3) (Qdu hA h4) (Qdu hA h5) he) rfl
 case cut sz y lo' hi' mx'=>
  cases op <;> (try (cases hc;done))
  rename_i t x lo hi mx
  simp only [Qba,Xac] at hc
  obtain ⟨⟨⟨⟨⟨h1,h2⟩,h3⟩,h4⟩,h5⟩,h6⟩:=hc
  split at h1
  ·rename_i e hu
   refine val _ (Wfl hu (of_decide_eq_true h1) (hA.ok _ _ h2) (Qdu hA h3) (Qdu hA h4) (Qdu hA h5) (fun hm => ?_) he) rfl
   cases mx' <;> cases hi' <;> simp_all
  ·cases h1
 case cutA n sz ag y lo' hi'=>
  cases op <;> (try (cases hc;done))
  rename_i t x lo hi mx
  simp only [Qba,Xac] at hc
  obtain ⟨⟨⟨⟨h1,h2⟩,h3⟩,h4⟩,h5⟩:=hc
  split at h1
  ·rename_i m e hu
   simp only [Xac,beq_iff_eq] at h1
   obtain ⟨rfl,h1⟩:=h1
   cases mx with
   |some _=>cases h2
   |none=>exact val _ (Wbm h hu (of_decide_eq_true h1) (hA.ok _ _ h3) (Qdu hA h4) (Qdu hA h5) he) rfl
  ·cases h1
 case faddr off y=>
  cases op <;> (try (cases hc;done))
  simp only [Qba,Xac] at hc
  obtain ⟨h1,h2⟩:=hc
  split at h1
  ·rename_i t ht
   split at h1
   ·rename_i sz hsz
    exact val _ (Qwj ht hsz (of_decide_eq_true h1) (hA.ok _ _ h2) he) rfl
   ·cases h1
  ·cases h1
 case field ag off sz y=>
  cases op <;> (try (cases hc;done))
  simp only [Qba,Xac] at hc
  obtain ⟨h1,h2⟩:=hc
  split at h1
  ·rename_i t ht
   exact val _ (Qwk ht h1 (hA.ok _ _ h2) he) rfl
  ·cases h1
 case iaddr sz y j=>
  cases op <;> (try (cases hc;done))
  simp only [Qba,Xac] at hc
  obtain ⟨⟨h1,h2⟩,h3⟩:=hc
  split at h1
  ·rename_i e hu
   exact val _ (Qwm h hu (of_decide_eq_true h1) (hA.ok _ _ h2) (hA.ok _ _ h3) he) rfl
  ·cases h1
 case iaddrA n sz y j=>
  cases op <;> (try (cases hc;done))
  simp only [Qba,Xac] at hc
  obtain ⟨⟨h1,h2⟩,h3⟩:=hc
  split at h1
  ·rename_i m e hu
   simp only [Xac,beq_iff_eq] at h1
   obtain ⟨rfl,h1⟩:=h1
   exact val _ (Quy hu (of_decide_eq_true h1) (hA.ok _ _ h2) (hA.ok _ _ h3) he) rfl
  ·cases h1
 case idx y j=>
  cases op <;> (try (cases hc;done))
  simp only [Qba,Xac,decide_eq_true_eq] at hc
  obtain ⟨⟨h1,h2⟩,h3⟩:=hc
  exact val _ (Wfk (Qho h1) (hA.ok _ _ h2) (hA.ok _ _ h3) he) rfl
 case idxA n ag sz y j=>
  cases op <;> (try (cases hc;done))
  simp only [Qba,Xac] at hc
  obtain ⟨⟨h1,h2⟩,h3⟩:=hc
  split at h1
  ·rename_i m e hu
   simp only [Xac,beq_iff_eq] at h1
   obtain ⟨rfl,h1⟩:=h1
   exact val _ (Wbg hu h1 (hA.ok _ _ h2) (hA.ok _ _ h3) he) rfl
  ·cases h1
 case extr y j=>
  cases op <;> (try (cases hc;done))
  simp only [Qba,Xac,beq_iff_eq] at hc
  obtain ⟨rfl,h2⟩:=hc
  exact val _ (Wbh (hA.ok _ _ h2) he) rfl
 case mkif t' y=>
  cases op <;> (try (cases hc;done))
  simp only [Qba,Xac,beq_iff_eq] at hc
  obtain ⟨⟨rfl,h2⟩,h3⟩:=hc
  simp only [Qa8] at he
  cases he
  split at h3
  ·rename_i d hd
   refine val _ ⟨_,?_,.ifc _ _ _ (hA.ok _ _ h2)⟩ rfl
   unfold Instr.makeInterface
   simp only [Qad,run_underlying hd,Result.andThen]
   cases d <;> first|rfl|cases h3
  ·cases h3
 case mkfn f' a' b'=>
  cases op <;> (try (cases hc;done))
  rename_i fn fi ca
  cases fn <;> (try (cases hc;done))
  simp only [Qba,Xac,beq_iff_eq] at hc
  obtain ⟨⟨rfl,h2⟩,h3⟩:=hc
  simp only [Qa8] at he
  cases he
  have r1:=hA.args h2
  have r2:=hA.args h3
  refine val _ ⟨_,rfl,?_⟩ rfl
  refine .fn _ _ _ _ _ (by have:=r1.1;simpa using this) (by have:=r2.1;simpa using this) (fun i v c hv hcc=>r1.2 i v c ?_ hcc) (fun i v c hv hcc=>r2.2 i v c ?_ hcc)
  ·simpa using hv
  ·simpa using hv
 case lenS y=>
  cases op <;> (try (cases hc;done))
  rename_i c
  obtain ⟨callee,args,argTypes⟩:=c
  cases callee <;> (try (cases hc;done))
  rename_i b
  cases b <;> (try (cases hc;done))
  simp only [Qba,Xac] at hc
  obtain ⟨h1,h2⟩:=hc
  obtain ⟨p,hp,hpy⟩:=Qky h1
  split at h2
  ·rename_i t htt
   have hat:argTypes = #[t]:=by apply Xc1;simpa using htt
   have har:args = #[p]:=by apply Xc1;simpa using hp
   subst hat har
   exact val _ (Wbl (ty:=type) (Qho h2) (hA.ok _ _ hpy) he) (by rw [Qsl];simp)
  ·cases h2
 case len y=>
  cases op <;> (try (cases hc;done))
  rename_i c
  obtain ⟨callee,args,argTypes⟩:=c
  cases callee <;> (try (cases hc;done))
  rename_i b
  cases b <;> (try (cases hc;done))
  simp only [Qba,Xac] at hc
  obtain ⟨h1,h2⟩:=hc
  obtain ⟨p,hp,hpy⟩:=Qky h1
  split at h2
  ·rename_i t htt
   have hat:argTypes = #[t]:=by apply Xc1;simpa using htt
   have har:args = #[p]:=by apply Xc1;simpa using hp
   subst hat har
   split at h2
   ·rename_i e hu
    exact val _ (Wfr (ty:=type) hu (hA.ok _ _ hpy) he) (by rw [Qsl];simp)
   ·cases h2
  ·cases h2
 case mm mx ys=>
  cases op <;> (try (cases hc;done))
  rename_i c
  obtain ⟨callee,args,argTypes⟩:=c
  cases callee <;> (try (cases hc;done))
  rename_i b
  simp only [Qba,Xac] at hc
  obtain ⟨h1,h2⟩:=hc
  have hr:=hA.args h2
  simp only [Qa8] at he
  split at he
  ·rename_i x0 r hys
   split at he
   ·rename_i hint
    rw [hys] at hr
    cases hal:args.toList with
    |nil=>rw [hal] at hr;have:=hr.1;simp at this
    |cons p ps=>
     rw [hal] at hr
     have har:args=(p::ps).toArray:=by apply Xc1;simpa using hal
     subst har
     obtain ⟨u,hrun,hu⟩:=Wea (P:=P) (w:=w) (mx:=mx) hr.head hint hr.tail he
     cases mx <;> cases b <;> (try (cases h1;done))
     ·refine val (Builtin.min_ argTypes type ((p::ps).toArray.map a.eval)) ⟨u,?_,hu⟩ rfl
      simpa [Builtin.min_] using hrun
     ·refine val (Builtin.max_ argTypes type ((p::ps).toArray.map a.eval)) ⟨u,?_,hu⟩ rfl
      simpa [Builtin.max_] using hrun
   ·cases he
  ·cases he
 case mget=>cases hc
end
def lkAt (U:Objs) (o i:Nat):Prop:=∃cs x,U[o]? = some (.cells cs)∧cs[i]? = some x∧x.isLk=true
structure Kp (Z:Plc) (w:World) (U:Objs) (Z':Plc) (w':World) (U':Objs):Prop where
 len:U.length≤U'.length
 dom:∀o,o<U.length→Z' o=Z o
 lk:∀o b i,Z o=some b→lkAt U' o i→lkAt U o i∧w'.cell? ⟨b,i,none⟩=w.cell? ⟨b,i,none⟩
def Left (P:Program) (a:Act) (o:Oper) (M:Mem) (Z:Plc) (X:Nat→Prop) (w:World) (U:Objs) (J':List V) (U':Objs):Prop:=
 ∃nx v w' M' Z' D',(execOp a.eval o).run P w = .ok nx w'∧(nx = .value v∨(nx = .skip∧v=undef))∧(Ext X M Z w M' Z' w'∧Kp Z w U Z' w' U'∧((∀t p x,o.op≠.store t p x)→HK Z w w'))∧St M' Z' X D' w' (putL a.tmps.toList o.dst v) J' U'
section
variable {P:Program} {M:Mem} {Z:Plc} {X:Nat→Prop} {D:Own} {w:World} {J:List V} {U:Objs} {G:GV} {a:Act}
theorem Kp.same (Z:Plc) (U:Objs) {w w':World} (h:HK Z w w'):Kp Z w U Z w' U:=
 ⟨Xai _,fun _ _=>rfl,fun o b i hi hl=>⟨hl,by unfold World.cell?; rw [h o b hi]⟩⟩
theorem Kp.refl (Z:Plc) (w:World) (U:Objs):Kp Z w U Z w U:=Kp.same Z U (HK.refl Z w)
theorem Kp.trans {Z Z' Z'':Plc} {w w' w'':World} {U U' U'':Objs} (h:Kp Z w U Z' w' U') (hi:PlcLe Z Z') (k:Kp Z' w' U' Z'' w'' U''):Kp Z w U Z'' w'' U'':=
 ⟨Xca h.len k.len,fun o ho=>(k.dom o (Xbw ho h.len)).trans (h.dom o ho),fun o b i hb hl=>by
  obtain ⟨h1,h2⟩:=k.lk o b i (hi.le _ _ hb) hl
  obtain ⟨h3,h4⟩:=h.lk o b i hb h1
  exact ⟨h3,h2.trans h4⟩⟩
theorem Wd.lt_of (h:Wd M Z X D w U) {o b:Nat} (hi:Z o=some b):o<U.length:=by
 obtain ⟨O,hO,_⟩:=h.obj o b hi
 exact (Xaf.1 hO).1
theorem Kp.newObj (h:Wd M Z X D w U) {Z':Plc} {w':World} (hk:HK Z w w') (hd:∀o,o≠U.length→Z' o=Z o) (O:O):Kp Z w U Z' w' (U++[O]):=
 ⟨by simp,fun o ho=>hd o X0o,fun o b i hi hl=>by
  have hlt:=h.lt_of hi
  obtain ⟨cs,x,h1,h2⟩:=hl
  rw [Xaz hlt] at h1
  exact ⟨⟨cs,x,h1,h2⟩,by unfold World.cell?; rw [hk o b hi]⟩⟩
theorem Kp.set (h:Wd M Z X D w U) {o b:Nat} {cs cs':List V} {w':World} (hi:Z o=some b) (hcs:U[o]? = some (.cells cs)) (hw:∀c,c≠b→w'.heap[c]? = w.heap[c]?)
  (hl:∀(i:Nat) x,cs'[i]? = some x→x.isLk=true→cs[i]? = some x∧w'.cell? ⟨b,i,none⟩=w.cell? ⟨b,i,none⟩):Kp Z w U Z w' (U.set o (.cells cs')):=by
 refine ⟨by simp,fun _ _=>rfl,fun o' b' i hb' hlk => ?_⟩
 obtain ⟨ds,x,h1,h2,h3⟩:=hlk
 by_cases ho:o=o'
 ·subst ho
  rw [hi] at hb';cases hb'
  rw [Xaq (h.lt_of hi)] at h1
  cases h1
  obtain ⟨h4,h5⟩:=hl i x h2 h3
  exact ⟨⟨cs,x,hcs,h4,h3⟩,h5⟩
 ·rw [Xba ho] at h1
  have hb:b'≠b:=fun e=>ho (h.inj o o' b hi (e▸hb'))
  exact ⟨⟨ds,x,h1,h2,h3⟩,by unfold World.cell?; rw [hw b' hb]⟩
theorem Qwx (x:V):x.ng.isLk=false:=by cases x <;> rfl
theorem Qhp {o:Oper} {v:Value} {J':List V} {U':Objs} (hrun:(execOp a.eval o).run P w = .ok (.value v) w) (hk:Kp Z w U Z w U') (h:St M Z X D w (putL a.tmps.toList o.dst v) J' U'):Left P a o M Z X w U J' U':=
 ⟨_,v,w,M,Z,D,hrun,.inl rfl,⟨Ext.refl ..,hk,fun _=>HK.refl _ _⟩,h⟩
theorem Qd6 {o:Oper} {v:Value} {J':List V} (hrun:(execOp a.eval o).run P w = .ok (.value v) w) (h:St M Z X D w (putL a.tmps.toList o.dst v) J' U):Left P a o M Z X w U J' U:=
 Qhp hrun (Kp.refl ..) h
theorem Qm9 {y:Arg} (h:okTk y true=true):∃n,y = .t n:=by cases y <;> first|exact ⟨_,rfl⟩|cases h
theorem Qkb {x:Operand} {n:Nat} (h:Qa2 x (.t n)=true):x = .tmp n:=by
 cases x <;> simp [Qa2] at h
 rw [h]
theorem Qh9 (n:Nat):a.eval (.tmp n)=a.tmps.toList.getD n undef:=by
 simp [Act.eval,Xbs,List.getD]
theorem Qf7 (J:List V) (y:Arg):unslot J y false=J:=by cases y <;> rfl
theorem Qwy {v:Value} {x:V} (hr:Rep M Z v x) (h:ownB v x=none):∀u,ownB u x=none:=by
 intro u
 cases hr with
 |sl xs c b off cap sz us _ _ _ _ _ _=>
  cases c with
  |gr s=>cases h
  |no=>unfold ownB;split <;> simp_all
  |fx=>unfold ownB;split <;> simp_all
  |lk=>unfold ownB;split <;> simp_all
 |sl0 a c hg=>
  cases c with
  |gr s=>exact absurd rfl (hg s)
  |no=>unfold ownB;split <;> simp_all
  |fx=>unfold ownB;split <;> simp_all
  |lk=>unfold ownB;split <;> simp_all
 |_=>unfold ownB;split <;> simp_all
theorem Qwz (h:St M Z X D w a.tmps.toList J U) (hG:GOK G M Z) {o:Oper} {x:Operand} {y:Arg} {tk:Bool} (ho:o.op = .move x∨o.op = .assign x) (hc:Qa2 x y=true) (ht:okTk y tk=true):
  Left P a o M Z X w U (put (unslot J y tk) o.dst (if tk then argT G J y else arg G J y)) U:=by
 have hrun:(execOp a.eval o).run P w = .ok (.value (a.eval x)) w:=by
  unfold execOp
  rcases ho with ho|ho <;> rw [ho] <;> rfl
 cases tk with
 |false=>
  rw [Qf7]
  exact Qd6 hrun (h.putNone ((Qix h.rep hG hc).ng) (Qbh _ _) _)
 |true=>
  obtain ⟨n,rfl⟩:=Qm9 ht
  have hx:=Qkb hc
  subst hx
  simp only [if_true]
  show Left P a o M Z X w U (put (J.set n (J.getD n .undef).ng) o.dst (J.getD n .undef)) U
  by_cases hn:n<J.length
  ·have hnu:n<a.tmps.toList.length:=by rw [h.rep.1];exact hn
   have hv:a.tmps.toList[n]? = some (a.tmps.toList[n]):=Xae hnu
   have hρ:J[n]? = some J[n]:=Xae hn
   have e1:J.getD n .undef=J[n]:=by simp [List.getD,hρ]
   have e2:a.eval (.tmp n)=a.tmps.toList[n]:=by rw [Qh9];simp only [List.getD,hv,Xbg]
   rw [e1]
   rw [e2] at hrun
   cases hd:o.dst with
   |none=>
    have:=h.dropSlot n
    rw [e1] at this
    refine Qd6 (D:=D) hrun ?_
    rw [hd]
    exact this
   |some d=>
    obtain ⟨D',hs,_⟩:=h.moveSlot (d:=d) hv hρ
    refine ⟨_,_,w,M,Z,D',hrun,.inl rfl,⟨Ext.refl ..,Kp.refl ..,fun _=>HK.refl _ _⟩,?_⟩
    rw [hd]
    exact hs
  ·have e1:J.getD n .undef = .undef:=by simp [List.getD,Xa3 (Xc0.1 hn)]
   have e2:a.eval (.tmp n)=undef:=by
    rw [Qh9]
    have:¬n<a.tmps.toList.length:=by rw [h.rep.1];exact hn
    simp [List.getD,Xa3 (Xc0.1 this)]
   rw [e1,List.set_eq_of_length_le (Xc0.1 hn)]
   rw [e2] at hrun
   exact Qd6 hrun (h.putNone .undef rfl _)
theorem Qsm {e:TypeId} {zv:Value} (h:Qfx P e=some zv):(zeroValue e).run P w = .ok zv w:=by
 unfold Qfx at h
 rw [Xab] at h
 obtain ⟨i,hi,hz⟩:=h
 unfold zeroValue
 simp only [Qad,Qjl hi,Result.andThen,hz]
 rfl
theorem Qgu {e:TypeId} {v:Value} : (newVar e v).run P w = .ok ⟨w.heap.size,0,none⟩ (Qcm w (.cells v.cells e)):=rfl
theorem Qsn (h:St M Z X D w a.tmps.toList J U) {o:Oper} {e:TypeId} {v:Value} {cs:List V} (hr:Reps M Z v.cells.toList cs) (h1:∀c∈cs,c.one=true)
  (hrun:(execOp a.eval o).run P w = .ok (.value (.pointer (some ⟨w.heap.size,0,none⟩))) (Qcm w (.cells v.cells e))):Left P a o M Z X w U (put J o.dst (.ptr U.length 0)) (U++[.cells (cs.map V.ng)]):=by
 have hl:cs.length=v.cells.size:=by have:=hr.1;simpa using this.symm
 obtain ⟨M',Z',he,hi,hs,hdm⟩:=h.newObj (h.wd.none_of_ge (Xai _)) v.cells e (0,0) (cs.map V.ng) (by rw [Xao,hl,←Xa4,Xbx];exact hr.ng)
  (fun i _=>by unfold Qbp;simp) (fun c hc=>by
   obtain ⟨c',hc',rfl⟩:=Xbc.1 hc
   rw [V.nogr_one];exact h1 c' hc') (fun c hc u=>by
   obtain ⟨c',_,rfl⟩:=Xbc.1 hc
   exact Qbh _ _)
 exact ⟨_,_,_,M',Z',D,hrun,.inl rfl,⟨he,Kp.newObj h.wd (h.wd.hkPush' _) hdm _,fun _=>h.wd.hkPush' _⟩,hs.putNone (.ptr _ 0 _ hi) rfl _⟩
theorem Qu4 (h:St M Z X D w a.tmps.toList J U) (hG:GOK G M Z) {o:Oper} {t:TypeId} {p x:Operand} {p' y:Arg} {sz:Nat} {tk:Bool} {v:V} {U':Objs} (ho:o.op = .store t p x) (hz:szOf P t=some sz)
  (hp:Qa2 p p'=true) (hx:Qa2 x y=true) (ht:okTk y tk=true) {call:FuncId→List V→Objs→Option (V×Objs)} (he:Qa5 call (arg G J) (argT G J) U (.store sz p' y tk)=some (v,U')):
  Left P a o M Z X w U (put (unslot J y tk) o.dst v) U':=by
 have hA:=Opd.of_state h.rep hG
 have hvp:=hA.ok _ _ hp
 have hvx:=hA.ok _ _ hx
 simp only [Qa5] at he
 split at he
 ·rename_i oo off hpp
  simp only [Xaa,Xab] at he
  obtain ⟨cs,hcs,he⟩:=he
  split at he
  ·rename_i hcond
   obtain ⟨hlen,hle,hok⟩:=hcond
   rw [hpp] at hvp
   obtain ⟨b,hpb,hi⟩:=hvp.inv_ptr
   have hone:=Qh7 hok
   have hrc:=hvx.cells hone
   have hcs':U[oo]? = some (.cells cs):=by
    unfold Objs.get at hcs
    split at hcs
    ·cases hcs;assumption
    ·cases hcs
   obtain ⟨O,hO,hor⟩:=h.wd.obj oo b hi
   rw [hcs'] at hO;cases hO
   obtain ⟨ws,T,fz,hb,hr2,hfz,hM,hone2⟩:=hor
   have hwl:cs.length≤ws.size:=by have:=hr2.1;simp at this;omega
   have hvl:(a.eval x).cells.toList.length=sz:=by rw [hrc.1];exact hlen
   have hkp:∀(ds':List V) (vs:List Value),ds'.length=vs.length→off+ds'.length≤cs.length→(∀d∈ds',d.isLk=false)→Kp Z w U Z (setRow w b (layA ws off vs) T fz) (U.set oo (.cells (Qcp cs off ds'))):=by
    intro ds' vs hl1 hl2 hnl
    refine Kp.set h.wd hi hcs' (fun c hc=>by rw [Qav,if_neg (Ne.symm hc)]) (fun i y hy hlk => ?_)
    rw [Qd8 cs off ds' i hl2] at hy
    split at hy
    ·have:=hnl y (Xat hy);rw [this] at hlk;cases hlk
    ·rename_i hout
     refine ⟨hy,?_⟩
     have hbl:=h.wd.olt oo b hi
     rw [Qcx hb,Qcx (w:=setRow w b (layA ws off vs) T fz) (ws:=layA ws off vs) (T:=T) (fz:=fz) (by rw [Qav,if_pos rfl,if_pos hbl]),Qgq vs ws off i X0o,if_neg X0o]
   have hrun:(execOp a.eval o).run P w = .ok .skip (setRow w b (layA ws off (a.eval x).cells.toList) T fz):=by
    have hst:=Qes (P:=P) b off T fz (a.eval x).cells.toList w ws 0 hb X0o (fun j h1 h2=>hfz j X0o) (Qsg hrc hone)
    have:(Instr.storeAt t (a.eval p) (a.eval x)).run P w = .ok () (setRow w b (layA ws off (a.eval x).cells.toList) T fz):=by
     unfold Instr.storeAt Instr.sureAddr storeVar
     rw [hpb]
     simp only [Qad,Qap,Qb3 hz,Result.andThen]
     rw [if_neg (by rw [Xa4] at hvl;omega)]
     simpa using hst
    unfold execOp
    rw [ho]
    simp only [Qad,this,Result.andThen]
    rfl
   split at he
   ·
    cases he
    have hso:=h.setObj hi hcs' hb (hrc.ng) (by rw [Xao,hlen];exact hle) (fun c hc=>by
     obtain ⟨c',hc',rfl⟩:=Xbc.1 hc
     rw [V.nogr_one];exact hone c' hc') (fun c hc u=>by
     obtain ⟨c',_,rfl⟩:=Xbc.1 hc
     exact Qbh _ _)
    have hs':∃D',St M Z X D' (setRow w b (layA ws off (a.eval x).cells.toList) T fz) a.tmps.toList (unslot J y tk) (U.set oo (.cells (Qcp cs off ((arg G J y).cells.map V.ng)))):=by
     unfold unslot
     split
     ·exact ⟨D,hso.1.dropSlot _⟩
     ·exact ⟨D,hso.1⟩
    obtain ⟨D',hs'⟩:=hs'
    exact ⟨_,undef,_,M,Z,D',hrun,.inr ⟨rfl,rfl⟩,⟨hso.2,hkp _ _ (by rw [Xao];exact hrc.1.symm) (by rw [Xao,hlen];exact hle) (fun d hd=>by
     obtain ⟨d',_,rfl⟩:=Xbc.1 hd;exact Qwx d'),fun hns=>absurd ho (hns _ _ _)⟩,hs'.putNone .undef rfl _⟩
   ·
    rename_i hna
    have hnlk:(if tk=true then argT G J y else arg G J y).isLk=false:=by
     cases hq:(if tk=true then argT G J y else arg G J y).isLk
     ·rfl
     ·rw [hq,if_pos rfl] at he;cases he
    rw [hnlk,if_neg Bool.false_ne_true] at he
    cases he
    have hcell:(arg G J y).cells=[arg G J y]:=by
     cases hyy:arg G J y <;> first|rfl|exact absurd hyy (hna _)
    rw [hcell] at hrc hone hlen
    have hsz:sz=1:=hlen.symm
    subst hsz
    have h1:(arg G J y).one=true:=hone _ (by simp)
    have hvc:(a.eval x).cells.toList=[a.eval x]:=by
     have hoc:=hvx.one h1
     cases hev:a.eval x <;> first|rfl|(rw [hev] at hoc;cases hoc)
    have hoff:off<cs.length:=by omega
    have hput:∀q:V,Qcp cs off [q]=cs.set off q:=by
     intro q
     apply Xbz
     intro j
     rw [Qd8 cs off [q] j (by simp;omega),Xbd]
     by_cases hj:off=j
     ·subst hj;rw [if_pos ⟨Xai _,by simp⟩,if_pos rfl,if_pos hoff];simp
     ·rw [if_neg (by simp only [List.length_singleton];omega),if_neg hj]
    have hk1:∀q:V,q.isLk=false→Kp Z w U Z (setRow w b (layA ws off (a.eval x).cells.toList) T fz) (U.set oo (.cells (cs.set off q))):=fun q hq=>by
     rw [←hput q]
     exact hkp [q] _ (by rw [hvl];rfl) (by simp;omega) (by simpa using hq)
    have base:∀ {D0:Own} {J0:List V},St M Z X D0 w a.tmps.toList J0 U→St M Z X D0 (setRow w b (layA ws off (a.eval x).cells.toList) T fz) a.tmps.toList J0 (U.set oo (.cells (cs.set off (arg G J y))))∧Ext X M Z w M Z (setRow w b (layA ws off (a.eval x).cells.toList) T fz):=by
     intro D0 J0 h0
     have:=h0.setObj hi hcs' hb hrc (by simp;omega) hone (fun c hc u=>by simp at hc;subst hc;exact Qbh _ _)
     rwa [hput] at this
    cases tk with
    |false=>
     rw [Qf7]
     obtain ⟨hs,hx'⟩:=base h
     exact ⟨_,undef,_,M,Z,D,hrun,.inr ⟨rfl,rfl⟩,⟨hx',hk1 _ hnlk,fun hns=>absurd ho (hns _ _ _)⟩,hs.putNone .undef rfl _⟩
    |true=>
     obtain ⟨n,rfl⟩:=Qm9 ht
     have hxx:=Qkb hx
     subst hxx
     simp only [if_true]
     show Left P a o M Z X w U (put (J.set n (J.getD n .undef).ng) o.dst .undef) (U.set oo (.cells (cs.set off (J.getD n .undef))))
     have harg:arg G J (.t n)=(J.getD n .undef).ng:=rfl
     by_cases hn:n<J.length
     ·have hnu:n<a.tmps.toList.length:=by rw [h.rep.1];exact hn
      have hv:a.tmps.toList[n]? = some (a.tmps.toList[n]):=Xae hnu
      have hρ:J[n]? = some J[n]:=Xae hn
      have e1:J.getD n .undef=J[n]:=by simp [List.getD,hρ]
      have e2:a.eval (.tmp n)=a.tmps.toList[n]:=by rw [Qh9];simp only [List.getD,hv,Xbg]
      rw [e1] at harg ⊢
      cases hob:ownB (a.tmps.toList[n]) J[n] with
      |none=>
       have hd:=h.dropSlot n
       rw [e1] at hd
       have hso:=hd.setObj hi hcs' hb (ds:=[J[n]]) (vs:=[a.tmps.toList[n]]) (Reps.cons (h.rep.2 n _ _ hv hρ) Reps.nil) (by simp;omega) (fun c hc=>by
        simp at hc;subst hc;rw [←V.nogr_one,←harg];exact h1) (fun c hc u=>by
        simp at hc;subst hc;exact Qwy (h.rep.2 n _ _ hv hρ) hob u)
       rw [hput] at hso
       rw [hvc,e2] at hrun
       rw [hvc,e2] at hk1
       exact ⟨_,undef,_,M,Z,D,hrun,.inr ⟨rfl,rfl⟩,⟨hso.2,hk1 _ (by rw [←e1];exact hnlk),fun hns=>absurd ho (hns _ _ _)⟩,hso.1.putNone .undef rfl _⟩
      |some bb=>
       obtain ⟨D1,hs1,hf,hg⟩:=h.takeSlot hv hρ hob
       obtain ⟨hs2,hx'⟩:=base hs1
       have hol:oo<U.length:=(Xaf.1 hcs').1
       have hbl:=h.wd.olt oo b hi
       have hne:b≠bb:=fun e=>by subst e;exact hf.i oo hi
       obtain ⟨D2,hs3⟩:=hs2.giveCell (o:=oo) (i:=off) hi (by rw [Qav,if_pos rfl,if_pos hbl]) (Xaq hol) (v:=a.tmps.toList[n]) (x:=J[n])
        (by rw [Qgq _ _ _ _ X0o,hvc,if_pos ⟨Xai _,by simp⟩,Xc9,e2];rfl) (by simpa using hoff) (h.rep.2 n _ _ hv hρ) (by rw [←V.nogr_one,←harg];exact h1) hob
        ⟨hf.k,hf.x,hf.i,by rw [Qbn];exact hf.lt⟩ (hg.setRow (fun c hc=>by rw [hob] at hc;cases hc;exact hne))
       rw [Xeb,Xeb] at hs3
       exact ⟨_,undef,_,M,Z,D2,hrun,.inr ⟨rfl,rfl⟩,⟨hx',hk1 _ (by rw [←e1];exact hnlk),fun hns=>absurd ho (hns _ _ _)⟩,hs3.putNone .undef rfl _⟩
     ·
      exfalso
      have e1:J.getD n .undef = .undef:=by simp [List.getD,Xa3 (Xc0.1 hn)]
      rw [harg,e1] at h1
      cases h1
  ·cases he
 ·cases he
end
section
variable {P:Program} {M:Mem} {Z:Plc} {X:Nat→Prop} {D:Own} {w:World} {J:List V} {U:Objs} {G:GV} {a:Act}
theorem Qbu {o:Nat} {cs:List V} (h:Objs.get U o=some cs):U[o]? = some (.cells cs):=by
 unfold Objs.get at h
 split at h
 ·cases h;assumption
 ·cases h
theorem Qiz {u:Value} {c:V} (h:∀xs s,c = .sl xs (.gr s)→False):ownB u c=none:=by
 unfold ownB
 split
 ·exact absurd rfl (fun e=>h _ _ e)
 ·rfl
theorem Qu5 (h:St M Z X D w a.tmps.toList J U) (hG:GOK G M Z) {o:Oper} {t:TypeId} {x:Operand} {y:Arg} {v:V} {U':Objs} (ho:o.op = .load t x) (ht:Qet P t false 1=true) (hx:Qa2 x y=true)
  (he:(match arg G J y with
   | .ptr o off=>(Objs.get U o).bind fun cs=>(cs[off]?).bind fun v=>
    match v with
    | .sl xs (.gr s)=>some (.sl xs (.gr s),U.set o (.cells (cs.set off (.sl xs .no))))
    | .sl _ .lk=>none
    |v=>some (v,U)
   | .eptr cs off=>(cs[off]?).bind fun v=>some (v.ng,U)
   |_=>none)=some (v,U')):Left P a o M Z X w U (put J o.dst v) U':=by
 have hA:=Opd.of_state h.rep hG
 have hv:=hA.ok _ _ hx
 have hag:agOf P t=some false:=by simp only [Qet,Xac,beq_iff_eq] at ht;exact ht.1.1
 have run:∀b off u,a.eval x = .pointer (some ⟨b,off,none⟩)→w.cell? ⟨b,off,none⟩=some u→(execOp a.eval o).run P w = .ok (.value u) w:=by
  intro b off u hev hc
  unfold execOp
  rw [ho]
  simp only [Instr.loadAt,Instr.sureAddr,hev,loadVar,Qad,Qap,Qdy hag,Result.andThen,Xaj,if_false,Qj8 hc]
 split at he
 ·rename_i oo off hpp
  rw [hpp] at hv
  obtain ⟨b,hpb,hi⟩:=hv.inv_ptr
  simp only [Xab] at he
  obtain ⟨cs,hcs,c,hc,he⟩:=he
  have hcs':=Qbu hcs
  obtain ⟨O,hO,hor⟩:=h.wd.obj oo b hi
  rw [hcs'] at hO;cases hO
  obtain ⟨ws,T,fz,hb,hr2,hfz,hM,hone2⟩:=hor
  obtain ⟨u,hu,hru⟩:=hr2.get hc
  have hu':ws[off]? = some u:=by
   rw [Xar] at hu
   split at hu
   ·simpa using hu
   ·cases hu
  have hrun:=run b off u hpb (by rw [Qcx hb];exact hu')
  have hc1:=hone2 _ (Xat hc)
  split at he
  case h_2=>cases he
  case h_3 hng _=>
   simp only [Xah,Prod.mk.injEq] at he
   obtain ⟨rfl,rfl⟩:=he
   exact Qd6 hrun (h.putNone hru (Qiz hng) _)
  rename_i xs s
  simp only [Xah,Prod.mk.injEq] at he
  obtain ⟨rfl,rfl⟩:=he
  have hk:Kp Z w U Z w (U.set oo (.cells (cs.set off (V.sl xs (.gr s)).ng))):=Kp.set h.wd hi hcs' (fun _ _=>rfl) (fun i y hy hlk=>by
   rw [Xbd] at hy
   split at hy
   ·split at hy
    ·cases hy;rw [Qwx] at hlk;cases hlk
    ·cases hy
   ·exact ⟨hy,rfl⟩)
  cases hob:ownB u (V.sl xs (.gr s)) with
  |none=>
   have hd:=h.dropCell hcs' hc (by rw [V.nogr_one];exact hc1)
   exact Qhp hrun hk (hd.putNone hru hob _)
  |some bb=>
   obtain ⟨D',hs,hf,hg⟩:=h.takeCell hi hb hcs' hu' hc hob
   obtain ⟨D2,hs2⟩:=hs.putOwn hru (fun b' hb'=>by rw [hob] at hb';cases hb';exact ⟨hf,hg⟩) o.dst
   exact Qhp hrun hk hs2
 ·rename_i cs off hpp
  rw [hpp] at hv
  obtain ⟨b,base,us,hpb,hr,hm⟩:=hv.inv_eptr
  simp only [Xab] at he
  obtain ⟨c,hc,he⟩:=he
  cases he
  obtain ⟨u,hu,hru⟩:=hr.get hc
  exact Qd6 (run b _ u hpb (h.wd.cells hm off u hu)) (h.putNone hru.ng (Qbh _ _) _)
 ·cases he
theorem Wbq (h:St M Z X D w a.tmps.toList J U) (hG:GOK G M Z) {o:Oper} {p q:Operand} {x y:Arg} {str ag tk:Bool} {sz bytes:Nat} {t tx:TypeId} {v:V}
  (ho:o.op = .call { callee:=.builtin .append,args := #[p,q],argTypes := #[t,tx] }) (hp:Qa2 p x=true) (hq:Qa2 q y=true) (ht:okTk x tk=true) (hc:Qkw P str ag sz bytes t tx=true) {ys:List V}
  (hs:Qfj str U (arg G J y)=some ys) (he:Qd1 ag sz bytes (if tk then argT G J x else arg G J x) ys=some v):Left P a o M Z X w U (put (unslot J x tk) o.dst v) U:=by
 have hA:=Opd.of_state h.rep hG
 have hvx:=Qix h.rep hG hp
 have hvy:=hA.ok _ _ hq
 have lift:∀ {u:Value} {w':World},(Builtin.append_ #[t,tx] o.type #[a.eval p,a.eval q]).run P w = .ok u w'→(execOp a.eval o).run P w = .ok (.value u) w':=by
  intro u w' hrun
  obtain ⟨dst,op,type,pos,after,guard⟩:=o
  simp only at ho hrun
  subst ho
  rw [Qqr,Qad]
  simp only [List.map_toArray,Xak,Xa8,hrun,Result.andThen]
  rfl
 have fin:∀ {u:Value} {w':World} {M':Mem} {D':Own} {J':List V},(Builtin.append_ #[t,tx] o.type #[a.eval p,a.eval q]).run P w = .ok u w'→Ext X M Z w M' Z w'→HK Z w w'→St M' Z X D' w' (putL a.tmps.toList o.dst u) J' U→Left P a o M Z X w U J' U:=
  fun h1 h2 hk h3=>⟨_,_,_,_,_,_,lift h1,.inl rfl,⟨h2,Kp.same _ _ hk,fun _=>hk⟩,h3⟩
 cases tk with
 |false=>
  rw [Qf7]
  simp only [Xaj,if_false] at he
  have hvn:Rep M Z (a.eval p) (arg G J x):=hvx.ng
  by_cases hys:ys=[]
  ·subst hys
   obtain ⟨hrun,rfl⟩:=Qsk h.wd (ty:=o.type) hc hvn hvy hs he
   exact fin hrun (Ext.refl ..) (HK.refl _ _) (h.putNone hvn (Qbh _ _) _)
  ·obtain ⟨u,w',M',D',hrun,hx,hk,hst⟩:=Qww h (ty:=o.type) hc hvn hvy hs hys (fun xs s e=>by
    have:=V.nogr_nogr (argT G J x)
    rw [show (argT G J x).ng=arg G J x from rfl,e] at this
    cases this) he o.dst
   exact fin hrun hx hk hst
 |true=>
  obtain ⟨n,rfl⟩:=Qm9 ht
  have hpt:=Qkb hp
  subst hpt
  simp only [if_true] at he
  show Left P a o M Z X w U (put (J.set n (J.getD n .undef).ng) o.dst v) U
  have hT:argT G J (.t n)=J.getD n .undef:=rfl
  rw [hT] at he hvx
  by_cases hn:n<J.length
  ·have hnu:n<a.tmps.toList.length:=by rw [h.rep.1];exact hn
   have hv:a.tmps.toList[n]? = some (a.tmps.toList[n]):=Xae hnu
   have hρ:J[n]? = some J[n]:=Xae hn
   have e1:J.getD n .undef=J[n]:=by simp [List.getD,hρ]
   have e2:a.eval (.tmp n)=a.tmps.toList[n]:=by rw [Qh9];simp only [List.getD,hv,Xbg]
   rw [e1] at he hvx ⊢
   have hdrop:=h.dropSlot n
   rw [e1] at hdrop
   by_cases hys:ys=[]
   ·subst hys
    obtain ⟨hrun,rfl⟩:=Qsk h.wd (ty:=o.type) hc hvx hvy hs he
    cases hd:o.dst with
    |none=>
     refine fin hrun (Ext.refl ..) (HK.refl _ _) ?_ (D':=D)
     rw [hd];exact hdrop
    |some d=>
     obtain ⟨D',hs',_⟩:=h.moveSlot (d:=d) hv hρ
     refine fin hrun (Ext.refl ..) (HK.refl _ _) ?_ (D':=D')
     rw [hd,e2];exact hs'
   ·by_cases hgr:∃xs s,J[n] = .sl xs (.gr s)
    ·obtain ⟨xs,s,hxs⟩:=hgr
     have hρ':J[n]? = some (.sl xs (.gr s)):=by rw [hρ,hxs]
     rw [hxs] at he ⊢
     obtain ⟨u,w',M',D',hrun,hx,hk,hst⟩:=Wi1 h (ty:=o.type) hc hv hρ' hvy hs hys he o.dst
     rw [←e2] at hrun
     exact fin hrun hx hk hst
    ·obtain ⟨u,w',M',D',hrun,hx,hk,hst⟩:=Qww hdrop (ty:=o.type) hc hvx hvy hs hys (fun xs s e=>hgr ⟨xs,s,e⟩) he o.dst
     exact fin hrun hx hk hst
  ·exfalso
   have e1:J.getD n .undef = .undef:=by simp [List.getD,Xa3 (Xc0.1 hn)]
   rw [e1] at he
   rcases Qkx he with h|⟨_,_,h⟩ <;> cases h
theorem Qme (e:TypeId) (s:ByteArray):Lib.bytesWorld w e s=Qcm { w with drawn:=w.drawn+1 } (.cells (Lib.bytesCells w e s) e ((Lib.bytesCells w e s).size,(Lib.bytesCells w e s).size+1)):=by
 have h:(Lib.bytesWorld w e s).heap=(Qcm { w with drawn:=w.drawn+1 } (.cells (Lib.bytesCells w e s) e ((Lib.bytesCells w e s).size,(Lib.bytesCells w e s).size+1))).heap:=by
  apply Array.ext_getElem?
  intro j
  rw [Qiv]
  rcases Nat.lt_trichotomy j w.heap.size with hj|hj|hj
  ·rw [Lib.bytesWorld_at_old w e s j hj,if_neg (by show ¬j=w.heap.size;omega)]
  ·subst hj
   rw [Lib.bytesWorld_at_new,if_pos rfl]
  ·rw [if_neg (by show ¬j=w.heap.size;omega),Xb2 (by rw [Lib.bytesWorld_size];omega),Xb2 (by show w.heap.size≤j;omega)]
 unfold Lib.bytesWorld World.freeze World.alloc World.drew Qcm at h ⊢
 simp only [Nat.one_ne_zero,if_false] at h ⊢
 rw [h]
theorem Qf8 (e:TypeId) (s:ByteArray):Reps M Z ((Lib.bytesCells w e s).toList.take (Qae s.data.toList).length) (Qae s.data.toList):=by
 have e1:(Lib.bytesCells w e s).toList.take (Qae s.data.toList).length=s.data.toList.map fun b=>Value.int .u8 b.toNat:=by
  unfold Lib.bytesCells Qae
  simp
 rw [e1]
 refine ⟨by simp [Qae],fun i u y hu hy => ?_⟩
 unfold Qae at hy
 rw [Xan,Xam] at hu hy
 obtain ⟨b,hb,rfl⟩:=hu
 obtain ⟨c,hc,rfl⟩:=hy
 rw [hb] at hc;cases hc
 exact .int _ _
theorem Qhq {s:List UInt8} {y:V} (h:y∈Qae s):∃n:Nat,y = .int .u8 n:=by
 unfold Qae at h
 obtain ⟨b,_,rfl⟩:=Xbc.1 h
 exact ⟨_,rfl⟩
theorem Qna (h:St M Z X D w a.tmps.toList J U) (hG:GOK G M Z) {o:Oper} {s d e:TypeId} {x:Operand} {y:Arg} {v:V} (ho:o.op = .convert s d x) (hs:P.underlying s=some .string) (hd:P.underlying d=some (.slice e)) (he:P.underlying e=some (.int .u8))
  (hx:Qa2 x y=true) (hv:eC U .strBytes (arg G J y)=some v):Left P a o M Z X w U (put J o.dst v) U:=by
 have hA:=Opd.of_state h.rep hG
 have hvx:=hA.ok _ _ hx
 unfold eC at hv
 split at hv <;> first|(rename_i hk _;cases hk;done)|(rename_i hk _ _;cases hk;done)|skip
 ·rename_i bs _ hb
  cases hv
  rw [hb] at hvx
  obtain ⟨b,hxb,hbd⟩:=hvx.inv_str
  subst hbd
  have hrun:=Lib.run_convert_string_bytes (P:=P) w s d e b hs hd he
  rw [Qme] at hrun
  have hsz:b.size=(Qae b.data.toList).length:=by simp [Qae]
  obtain ⟨M',D',hx',hst⟩:=h.drew.putRow (Lib.bytesCells w e b) e ((Lib.bytesCells w e b).size,(Lib.bytesCells w e b).size+1) (Qae b.data.toList) (.gr 1) (grownCap w b.size 0 e) 1
   (by rw [Qjq];exact Qf8 e b) (fun y hy=>by obtain ⟨n,rfl⟩:=Qhq hy;rfl) (by rw [←hsz];exact grownCap_ge ..) (fun hc=>by cases hc)
   (fun s' hs'=>by
    cases hs'
    have hge:=grownCap_ge w b.size 0 e
    refine ⟨rfl,?_,fun i _ hi => ?_⟩
    ·unfold Lib.bytesCells;simp;omega
    ·unfold Qbp;simp;omega) o.dst
  rw [←hsz] at hst
  refine ⟨_,_,_,M',Z,D',?_,.inl rfl,⟨(Ext.drew X M Z w).trans hx',Kp.same _ _ (h.wd.hkPush _ _),fun _=>h.wd.hkPush _ _⟩,hst⟩
  unfold execOp
  rw [ho]
  simp only [Qad,hxb,hrun,Result.andThen]
  rfl
 ·cases hv
end
section
variable {P:Program} {M:Mem} {Z:Plc} {X:Nat→Prop} {D:Own} {w:World} {J:List V} {U:Objs} {G:GV} {a:Act}
theorem Qov (cs:List V):(cs.map V.ng).length=cs.length:=by simp
theorem Qjs {cs:List V} (h:∀c∈cs,c.one=true):∀c∈cs.map V.ng,c.one=true:=fun c hc=>by
 obtain ⟨c',hc',rfl⟩:=Xbc.1 hc
 rw [V.nogr_one];exact h c' hc'
theorem Qow {cs:List V} : ∀c∈cs.map V.ng,∀u,ownB u c=none:=fun c hc u=>by
 obtain ⟨c',_,rfl⟩:=Xbc.1 hc
 exact Qbh _ _
theorem Qqs {cs:List V} (h:∀c∈cs,c.ng=c):cs.map V.ng=cs:=by
 conv=>rhs;rw [←List.map_id cs]
 exact Xbk fun c hc=>h c hc
theorem Qu6 (h:St M Z X D w a.tmps.toList J U) {o:Oper} {e:TypeId} {zv:Value} {z:List V} (ho:o.op = .alloc e) (hz:Qfx P e=some zv) (hc:Qdw zv.cells.toList z=true):
  Left P a o M Z X w U (put J o.dst (.ptr U.length 0)) (U++[.cells z]):=by
 obtain ⟨hr,h1,_⟩:=Qb5 (M:=M) (Z:=Z) hc
 have:=Qsn (P:=P) (a:=a) (o:=o) h (e:=e) (v:=zv) hr (fun c hc=>(h1 c hc).1) (by
  unfold execOp
  rw [ho]
  simp only [Instr.alloc,Qad,Qsm hz,Result.andThen,Qgu,Qap])
 rwa [Qqs (fun c hc=>(h1 c hc).2)] at this
theorem Wbr (h:St M Z X D w a.tmps.toList J U) (hG:GOK G M Z) {o:Oper} {e:TypeId} {x:Operand} {y:Arg} (ho:o.op = .box e x) (hx:Qa2 x y=true) (hok:Qan (arg G J y).cells=true):
  Left P a o M Z X w U (put J o.dst (.ptr U.length 0)) (U++[.cells ((arg G J y).cells.map V.ng)]):=by
 have hA:=Opd.of_state h.rep hG
 have hvx:=hA.ok _ _ hx
 refine Qsn h (e:=e) (v:=a.eval x) (hvx.cells (Qh7 hok)) (Qh7 hok) ?_
 unfold execOp
 rw [ho]
 simp only [Qad,Qgu,Result.andThen]
 rfl
theorem Qqt (h:St M Z X D w a.tmps.toList J U) {o:Oper} {w0:World} (hw0:Ext X M Z w M Z w0) (hk0:w0.heap=w.heap) (h0:St M Z X D w0 a.tmps.toList J U) {ars:Array Value} {T:TypeId} {fz:Nat×Nat} {cs:List V} {len cap sz:Nat} {ag:Bool}
  (hr:Reps M Z (ars.toList.take cs.length) cs) (hfz:∀i,i<cs.length→Qbp fz i=false) (hone:∀c∈cs,c.one=true) (hno:∀c∈cs,∀v,ownB v c=none) (hlc:len≤cap)
  (hrun:(execOp a.eval o).run P w = .ok (.value (.slice (some ⟨w0.heap.size,0,none⟩) len cap)) (Qcm w0 (.cells ars T fz))):
  Left P a o M Z X w U (put J o.dst (.hs U.length 0 len sz ag)) (U++[.cells cs]):=by
 obtain ⟨M',Z',he,hi,hs,hdm⟩:=h0.newObj (h0.wd.none_of_ge (Xai _)) ars T fz cs hr hfz hone hno
 exact ⟨_,_,_,M',Z',D,hrun,.inl rfl,⟨hw0.trans he,Kp.newObj h.wd (fun o b hb=>by rw [h0.wd.hkPush' _ o b hb,hk0]) hdm _,fun _ o b hb=>by rw [h0.wd.hkPush' _ o b hb,hk0]⟩,hs.putNone (.hs _ 0 _ sz ag _ cap hi hlc) rfl _⟩
theorem Qqu (h:St M Z X D w a.tmps.toList J U) (hG:GOK G M Z) {o:Oper} {s d e:TypeId} {x:Operand} {y:Arg} {bs:List UInt8} (ho:o.op = .convert s d x) (hs:P.underlying s=some .string) (hd:P.underlying d=some (.slice e)) (he:P.underlying e=some (.int .u8))
  (hx:Qa2 x y=true) (hy:arg G J y = .str bs):Left P a o M Z X w U (put J o.dst (.hs U.length 0 bs.length 1 false)) (U++[.cells (Qae bs)]):=by
 have hA:=Opd.of_state h.rep hG
 have hvx:=hA.ok _ _ hx
 rw [hy] at hvx
 obtain ⟨b,hxb,hbd⟩:=hvx.inv_str
 subst hbd
 have hrun:=Lib.run_convert_string_bytes (P:=P) w s d e b hs hd he
 rw [Qme] at hrun
 have hsz:b.size=b.data.toList.length:=by simp
 have hge:=grownCap_ge w b.size 0 e
 have hcs:(Lib.bytesCells w e b).size=grownCap w b.size 0 e:=by unfold Lib.bytesCells;simp;omega
 rw [←hsz]
 refine Qqt h (Ext.drew X M Z w) rfl h.drew (ars:=Lib.bytesCells w e b) (Qf8 e b) (fun i hi => ?_) (fun c hc => ?_) (fun c hc v => ?_) hge ?_ (fz:=((Lib.bytesCells w e b).size,(Lib.bytesCells w e b).size+1)) (T:=e)
 ·have:i<b.size:=by simpa [Qae] using hi
  unfold Qbp;rw [hcs];simp;omega
 ·obtain ⟨n,rfl⟩:=Qhq hc;rfl
 ·obtain ⟨n,rfl⟩:=Qhq hc;unfold ownB;split <;> first|rfl|(rename_i hh;cases hh)
 ·unfold execOp
  rw [ho]
  simp only [Qad,hxb,hrun,Result.andThen]
  rfl
theorem Qox (h:St M Z X D w a.tmps.toList J U) (hG:GOK G M Z) {o:Oper} {t e:TypeId} {ag hh:Bool} {sz len:Nat} {z:V} {ps:Array (Nat×Operand)} {qs:List (Nat×Arg)} {v:V} {U':Objs} (ho:o.op = .buildSlice t len ps)
  (ht:Qd2 P t ag sz=some e) (hz:len=0∨Qeu P e z=true∧z.cells.length=sz) (hpos:sz≠0) (hsmall:len * sz≤16777216) (hps:Qce ps.toList qs=true)
  {call:FuncId→List V→Objs→Option (V×Objs)} (he:Qa5 call (arg G J) (argT G J) U (.buildSl ag sz len z qs hh)=some (v,U')):Left P a o M Z X w U (put J o.dst v) U':=by
 have hA:=Opd.of_state h.rep hG
 simp only [Qa5,Xaa,Xab] at he
 obtain ⟨xs,hxs,he⟩:=he
 obtain ⟨ars,hrun,hr,hl,hs⟩:=Qkv h hA ht hz hpos hsmall hps hxs
 have hrun':(execOp a.eval o).run P w = .ok (.value (.slice (some ⟨w.heap.size,0,none⟩) len len)) (Qcm w (.cells ars e (0,0))):=by
  unfold execOp
  rw [ho]
  simp only [Qad,hrun,Result.andThen]
  rfl
 have hfl:=Qb6 hs
 have has:ars.size=(xs.flatMap V.cells).length:=by have:=hr.1;simpa using this
 split at he
 ·rename_i hok
  cases hh with
  |true=>
   simp only [if_true] at he
   cases he
   refine Qqt h (Ext.refl ..) rfl h (T:=e) (fz:=(0,0)) (ars:=ars) ?_ (fun i _=>by unfold Qbp;simp) (Qjs (Qmd hok)) Qow (Xai _) hrun'
   rw [Qov,←has,←Xa4,Xbx]
   exact hr.ng
  |false=>
   simp only [Xaj,if_false] at he
   cases he
   obtain ⟨M',D',hx',hst⟩:=h.putRow ars e (0,0) xs .fx len sz (by rw [←has,←Xa4,Xbx];exact hr) hs (Nat.le_of_eq hl) (fun _=>hl.symm) (fun s hc=>by cases hc) o.dst
   rw [hl] at hst
   exact ⟨_,_,_,M',Z,D',hrun',.inl rfl,⟨hx',Kp.same _ _ (h.wd.hkPush' _),fun _=>h.wd.hkPush' _⟩,hst⟩
 ·cases he
theorem Qqv (h:St M Z X D w a.tmps.toList J U) (hG:GOK G M Z) {o:Oper} {t e:TypeId} {ag:Bool} {sz len:Nat} {z:V} {ps:Array (Nat×Operand)} {qs:List (Nat×Arg)} {v:V} {U':Objs} (ho:o.op = .buildSlice t len ps)
  (ht:Qd2 P t ag sz=some e) (hz:len=0∨Qeu P e z=true∧z.cells.length=sz) (hpos:sz≠0) (hsmall:len * sz≤16777216) (hps:Qce ps.toList qs=true)
  {call:FuncId→List V→Objs→Option (V×Objs)} (he:Qa5 call (arg G J) (argT G J) U (.buildG ag sz len z qs)=some (v,U')):Left P a o M Z X w U (put J o.dst v) U':=by
 have hA:=Opd.of_state h.rep hG
 simp only [Qa5,Xaa,Xab] at he
 obtain ⟨xs,hxs,he⟩:=he
 obtain ⟨ars,hrun,hr,hl,hs⟩:=Qkv h hA ht hz hpos hsmall hps hxs
 have hrun':(execOp a.eval o).run P w = .ok (.value (.slice (some ⟨w.heap.size,0,none⟩) len len)) (Qcm w (.cells ars e (0,0))):=by
  unfold execOp
  rw [ho]
  simp only [Qad,hrun,Result.andThen]
  rfl
 have hfl:=Qb6 hs
 have has:ars.size=(xs.flatMap V.cells).length:=by have:=hr.1;simpa using this
 split at he
 ·rename_i hok
  cases he
  obtain ⟨M',D',hx',hst⟩:=h.putRow ars e (0,0) xs (.gr sz) len sz (by rw [←has,←Xa4,Xbx];exact hr) hs (Nat.le_of_eq hl) (fun hc=>by cases hc) (fun s hc=>by
   cases hc
   refine ⟨rfl,?_,fun i _ _=>by unfold Qbp;simp⟩
   rw [has,hfl,hl];exact Xai _) o.dst
  rw [hl] at hst
  exact ⟨_,_,_,M',Z,D',hrun',.inl rfl,⟨hx',Kp.same _ _ (h.wd.hkPush' _),fun _=>h.wd.hkPush' _⟩,hst⟩
 ·cases he
theorem St.refreeze {us:List Value} (h:St M Z X D w us J U) {b:Nat} (hf:Free M Z X D w b) {ws:Array Value} {T:TypeId} {fz:Nat×Nat} (hb:w.heap[b]? = some (.cells ws T fz)) (fz':Nat×Nat):
  St M Z X D (setRow w b ws T fz') us J U∧Ext X M Z w M Z (setRow w b ws T fz')∧HK Z w (setRow w b ws T fz'):=by
 have hatb:∀p v x,At Z (setRow w b ws T fz') us J U p v x→At Z w us J U p v x:=by
  intro p v x ha
  cases p with
  |s i=>exact ha
  |c o i=>
   obtain ⟨b',ws',T',fz2,cs',g1,g2,g3⟩:=ha
   have hbb:b≠b':=fun e=>by subst e;exact hf.i o g1
   rw [Qav,if_neg hbb] at g2
   exact ⟨b',ws',T',fz2,cs',g1,g2,g3⟩
 have hownb:∀p v x c,At Z w us J U p v x→ownB v x=some c→b≠c:=fun p v x c ha hc e=>by
  subst e;have:=h.own p v x _ ha hc;rw [hf.k] at this;cases this
 refine ⟨⟨⟨fun c i u hm => ?_,fun o c hi => ?_,fun o c hi=>by rw [Qbn];exact h.wd.olt o c hi,h.wd.inj,fun c hc=>by rw [Qbn];exact h.wd.xlt c hc,h.wd.xobj,
  fun c p hp=>by rw [Qbn];exact h.wd.kap c p hp⟩,h.rep,fun p v x c ha hc=>h.own p v x c (hatb p v x ha) hc,fun p v x ha => ?_⟩,Ext.setRow hf.x ws T fz',fun o c hi => ?_⟩
 ·have:=h.wd.mem c i u hm
  by_cases hcb:c=b
  ·subst hcb
   rw [Qcx hb] at this
   rw [Qcx (by rw [Qav,if_pos rfl,if_pos hf.lt]:(setRow w c ws T fz').heap[c]? = some (.cells ws T fz'))]
   exact this
  ·simp only [World.cell?,Qav,if_neg (Ne.symm hcb)]
   simpa [World.cell?] using this
 ·obtain ⟨O,hO,hor⟩:=h.wd.obj o c hi
  exact ⟨O,hO,hor.setRow fun e=>hf.i o (by rw [e];exact hi)⟩
 ·have ha':=hatb p v x ha
  exact (h.gr p v x ha').setRow fun c hc=>hownb p v x c ha' hc
 ·rw [Qav,if_neg (fun e=>hf.i o (by rw [e];exact hi))]
theorem Qnb {w:World} {b n:Nat} {ws:Array Value} {T:TypeId} {fz:Nat×Nat} (hb:w.heap[b]? = some (.cells ws T fz)):
  w.freeze ⟨b,n,none⟩ 1=setRow w b ws T (if fz.1 == fz.2 then (n,n+1) else (min fz.1 n,max fz.2 (n+1))):=by
 unfold World.freeze setRow
 rw [if_neg (by decide)]
 have hlt:b<w.heap.size:=(Xa7.1 hb).1
 congr 1
 apply Array.ext
 ·simp
 ·intro i h1 h2
  have h3:i<w.heap.size:=by simpa using h1
  rw [Array.getElem_modify,Xcy h3]
  split
  ·rename_i hbi
   subst hbi
   have:w.heap[b] = .cells ws T fz:=by rw [Xb4 hlt] at hb;exact Xbi hb
   rw [this]
  ·rfl
theorem Qw0 (h:St M Z X D w a.tmps.toList J U) (hG:GOK G M Z) {o:Oper} {s e:TypeId} {x:Operand} {y:Arg} {v:V} {U':Objs} (ho:o.op = .convert s s x) (hs:P.underlying s=some (.slice e)) (he:P.underlying e=some (.int .u8))
  (hc:Qa2 x y=true) (ht:okTk y true=true) {call:FuncId→List V→Objs→Option (V×Objs)} (hv:Qa5 call (arg G J) (argT G J) U (.mark y)=some (v,U')):Left P a o M Z X w U (put (unslot J y true) o.dst v) U':=by
 obtain ⟨n,rfl⟩:=Qm9 ht
 have hx:=Qkb hc
 subst hx
 simp only [Qa5] at hv
 split at hv
 ·rename_i xs sz hgx
  cases hv
  have hgx:J.getD n .undef = .sl xs (.gr sz):=hgx
  have hn:n<J.length:=by
   rcases Xby n J.length with h1|h1
   ·exact h1
   ·simp [List.getD,Xa3 h1] at hgx
  have hρ:J[n]? = some (.sl xs (.gr sz)):=by
   rw [Xae hn]
   simp [List.getD,Xae hn] at hgx
   rw [hgx]
  have hnu:n<a.tmps.toList.length:=by rw [h.rep.1];exact hn
  have hvv:a.tmps.toList[n]? = some (a.tmps.toList[n]):=Xae hnu
  have hrep:=h.rep.2 n _ _ hvv hρ
  rcases hrep.inv_sl with ⟨b,off,cap,sz',us,hval,h1,h2,h3,h4,-⟩|⟨_,_,_,hng⟩
  case inr=>exact absurd rfl (hng _)
  have hown:ownB (a.tmps.toList[n]) (.sl xs (.gr sz))=some b:=by rw [hval];rfl
  obtain ⟨D',hst,hfree,hgr⟩:=h.takeSlot hvv hρ hown
  obtain ⟨-,-,ws,T,fz,hb,-,-⟩:=hgr.ok xs sz rfl _ _ _ hval
  obtain ⟨hst2,hext,hhk⟩:=hst.refreeze hfree hb (if fz.1 == fz.2 then (ws.size,ws.size+1) else (min fz.1 ws.size,max fz.2 (ws.size+1)))
  have hev:a.eval (.tmp n) = .slice (some ⟨b,off,none⟩) xs.length cap:=by
   rw [Qh9];simp only [List.getD,hvv,Xbg];exact hval
  have hsh:w.shape? b=some (T,ws.size):=by unfold World.shape?; rw [hb]
  have hrun:(execOp a.eval o).run P w = .ok (.value (.slice (some ⟨b,off,none⟩) xs.length cap)) (setRow w b ws T (if fz.1 == fz.2 then (ws.size,ws.size+1) else (min fz.1 ws.size,max fz.2 (ws.size+1)))):=by
   unfold execOp
   rw [ho,←Qnb hb]
   simp only [Qad,hev,convert,run_underlying hs,run_underlying he,Result.andThen,BEq.rfl]
   simp [markStringish,Qad,shape,freeze,Sem.run,hsh,Result.andThen,Qap]
  refine ⟨_,_,_,M,Z,D',hrun,.inl rfl,⟨hext,Kp.same _ _ hhk,fun _=>hhk⟩,?_⟩
  have hno:Rep M Z (.slice (some ⟨b,off,none⟩) xs.length cap) (.sl xs .no):=by rw [←hval];exact hrep.ng
  have hun:unslot J (.t n) true=J.set n (V.sl xs (.gr sz)).ng:=by
   show J.set n (J.getD n .undef).ng=_
   rw [hgx]
  rw [hun]
  exact hst2.putNone hno (Qbh _ (.sl xs .no)) _
 ·cases hv
theorem Qoy {v:Value} {x:V} {n:Int} (h:Rep M Z v x) (hn:Qf1 x=some n):∃k,v = .int k n:=by
 cases x <;> simp [Qf1] at hn
 subst hn
 exact ⟨_,h.inv_int⟩
theorem Qw1 (h:St M Z X D w a.tmps.toList J U) (hG:GOK G M Z) {o:Oper} {t e:TypeId} {ag hh:Bool} {sz bytes:Nat} {z:V} {l c:Operand} {l' c':Arg} {v:V} {U':Objs} (ho:o.op = .makeSlice t l c)
  (ht:Qd2 P t ag sz=some e) (hz:Qeu P e z=true) (hzl:z.cells.length=sz) (hpos:sz≠0) (hb0:bytes≠0) (hby:(P.info? e).map (·.bytes)=some bytes) (hl:Qa2 l l'=true) (hcc:Qa2 c c'=true)
  {call:FuncId→List V→Objs→Option (V×Objs)} (he:Qa5 call (arg G J) (argT G J) U (.mkSl ag sz bytes z l' c' hh)=some (v,U')):Left P a o M Z X w U (put J o.dst v) U':=by
 have hA:=Opd.of_state h.rep hG
 simp only [Qa5,Xaa,Xab] at he
 obtain ⟨ln,hln,cn,hcn,he⟩:=he
 obtain ⟨kl,hlv⟩:=Qoy (hA.ok _ _ hl) hln
 obtain ⟨kc,hcv⟩:=Qoy (hA.ok _ _ hcc) hcn
 obtain ⟨hu,hty⟩:=Qem ht
 have hsz:=Qj9 hty
 split at he
 ·rename_i hcond
  obtain ⟨h0,hlc,hmax,-,hzok,hzag⟩:=hcond
  obtain ⟨i,zv,hi,his,hiz,hzs,hreps⟩:=Qse (M:=M) (Z:=Z) (n:=cn.toNat) hz hsz hzl hpos
  rw [hi] at hby
  have hby':i.bytes=bytes:=by simpa using hby
  have hmax':(i.bytes:Int) * cn≤281474976710656:=by rw [hby',Int.mul_comm];unfold Qbj at hmax;omega
  have h63:cn≤9223372036854775807:=by
   have h1:cn * 1≤cn * (bytes:Int):=Xdq X0o X0o
   unfold Qbj at hmax
   omega
  have hrun0:=run_make (P:=P) w t e i zv hu hi hiz kl kc ln cn h0 hlc hmax' h63
  have hrun':(execOp a.eval o).run P w = .ok (.value (.slice (some ⟨w.heap.size,0,none⟩) ln.toNat cn.toNat)) (Qcm w (.cells (madeCells zv.cells (cn.toNat * sz)) e)):=by
   unfold execOp
   rw [ho]
   rw [his] at hrun0
   simp only [Qad,hlv,hcv,hrun0,Result.andThen]
   rfl
  have hrep:Reps M Z (madeCells zv.cells (cn.toNat * sz)).toList ((List.replicate cn.toNat z).flatMap V.cells):=hreps
  have hzall:∀n,∀y∈List.replicate n z,y.cells.length=sz:=fun n y hy=>by rw [Xb6 hy];exact hzl
  have hfl:∀n,((List.replicate n z).flatMap V.cells).length=n * sz:=fun n=>by rw [Qb6 (hzall n),Xcd]
  have has:(madeCells zv.cells (cn.toNat * sz)).size=cn.toNat * sz:=size_madeCells _ _
  have hln':ln.toNat≤cn.toNat:=by omega
  have hone:∀n,∀y∈(List.replicate n z).flatMap V.cells,y.one=true:=fun n y hy=>by
   obtain ⟨q,hq,hy⟩:=Xdp.1 hy
   rw [Xb6 hq] at hy
   exact Qh7 hzok y hy
  have hzn:∀y∈z.cells,y.ng=y:=by
   unfold Qeu at hz
   split at hz
   ·exact fun y hy=>((Qb5 (M:=M) (Z:=Z) hz).2.1 y hy).2
   ·cases hz
  cases hh with
  |true=>
   simp only [if_true] at he
   cases he
   refine Qqt h (Ext.refl ..) rfl h (T:=e) (fz:=(0,0)) (ars:=madeCells zv.cells (cn.toNat * sz)) ?_ (fun i _=>by unfold Qbp;simp) (hone _) (fun c hc u => ?_) hln' hrun'
   ·rw [Xbl (by rw [hfl];have:=has;simp only [Xa4];omega)];exact hrep
   ·obtain ⟨q,hq,hy⟩:=Xdp.1 hc
    rw [Xb6 hq] at hy
    rw [←hzn c hy]
    exact Qbh _ _
  |false=>
   simp only [Xaj,if_false] at he
   cases he
   have htake:Reps M Z ((madeCells zv.cells (cn.toNat * sz)).toList.take ((List.replicate ln.toNat z).flatMap V.cells).length) ((List.replicate ln.toNat z).flatMap V.cells):=by
    have e1:(List.replicate cn.toNat z).flatMap V.cells=(List.replicate ln.toNat z).flatMap V.cells++(List.replicate (cn.toNat - ln.toNat) z).flatMap V.cells:=by
     rw [←Xdz,List.replicate_append_replicate,Nat.add_sub_cancel' hln']
    rw [e1] at hrep
    refine ⟨?_,fun j u y hu hy => ?_⟩
    ·have h1:=Xb8 sz hln'
     have h2:(madeCells zv.cells (cn.toNat * sz)).toList.length=cn.toNat * sz:=by rw [Xa4];exact has
     rw [Xbh,h2,hfl]
     exact Nat.min_eq_left h1
    ·rw [Xar] at hu
     split at hu
     ·exact hrep.2 j u y hu (by rw [Xaz (by assumption)];exact hy)
     ·cases hu
   obtain ⟨M',D',hx',hst⟩:=h.putRow (madeCells zv.cells (cn.toNat * sz)) e (0,0) (List.replicate ln.toNat z) (if ln=cn then .fx else .gr sz) cn.toNat sz htake (hzall _) (by rw [Xcd];exact hln')
    (fun hc=>by
     split at hc
     ·rename_i heq;rw [Xcd,heq]
     ·cases hc)
    (fun s hc=>by
     split at hc
     ·cases hc
     ·cases hc
      exact ⟨rfl,by rw [has];exact Xai _,fun i _ _=>by unfold Qbp;simp⟩) o.dst
   rw [Xcd] at hst
   exact ⟨_,_,_,M',Z,D',hrun',.inl rfl,⟨hx',Kp.same _ _ (h.wd.hkPush' _),fun _=>h.wd.hkPush' _⟩,hst⟩
 ·cases he
end
def Qw2:Ins→Bool
 | .call .. | .callv .. => true
 |_=>false
section
variable {P:Program} {M:Mem} {Z:Plc} {X:Nat→Prop} {D:Own} {w:World} {J:List V} {U:Objs} {G:GV} {a:Act}
theorem Qoz (h:St M Z X D w a.tmps.toList J U) (hG:GOK G M Z) {o:Oper} {i:Ins} {v:V} {U':Objs} (hc:Qba P o.op i=true) (hns:∀y,i≠.conv .strBytes y)
  (he:(do let v ←Qa8 (arg G J) U i;some (v.ng,U))=some (v,U')):Left P a o M Z X w U (put J o.dst v) U':=by
 simp only [Xaa,Xab,Xah,Prod.mk.injEq] at he
 obtain ⟨x,hx,rfl,rfl⟩:=he
 obtain ⟨u,hrun,hr⟩:=Wbp h.wd (Opd.of_state h.rep hG) hc hns hx
 exact Qd6 hrun (h.putNone hr.ng (Qbh _ _) _)
theorem Qso (h:St M Z X D w a.tmps.toList J U) (hG:GOK G M Z) {o:Oper} {s:Step} (hd:o.dst=s.dst) (hc:Qba P o.op s.ins=true) (hn:Qw2 s.ins=false)
  {call:FuncId→List V→Objs→Option (V×Objs)} {J':List V} {U':Objs} (he:ev1 G call s J U=some (J',U')):Left P a o M Z X w U J' U':=by
 obtain ⟨dst,gd,i⟩:=s
 simp only at hd hc hn
 subst hd
 unfold ev1 at he
 simp only [Xaa,Xab] at he
 obtain ⟨⟨v,U2⟩,hi,he⟩:=he
 simp only [Xah,Prod.mk.injEq] at he
 obtain ⟨rfl,rfl⟩:=he
 cases i <;> (try (exact Qoz h hG hc (fun y e=>by cases e) hi))
 case call=>cases hn
 case callv=>cases hn
 case mkmp=>cases hc
 case mset=>cases hc
 case appH=>cases hc
 case mv y tk=>
  obtain ⟨dst,op,type,pos,after,guard⟩:=o
  simp only [Qa5,Xah,Prod.mk.injEq] at hi
  obtain ⟨rfl,rfl⟩:=hi
  simp only at hc
  cases op <;> (try (cases hc;done))
  all_goals
   simp only [Qba,Xac] at hc
   first
    |exact Qwz h hG (.inl rfl) hc.1 hc.2
    |exact Qwz h hG (.inr rfl) hc.1 hc.2
 case alloc z=>
  obtain ⟨dst,op,type,pos,after,guard⟩:=o
  simp only at hc
  cases op <;> (try (cases hc;done))
  simp only [Qba] at hc
  split at hc
  ·rename_i zv hz
   simp only [Qa5] at hi
   split at hi
   ·cases hi
    exact Qu6 h rfl hz hc
   ·cases hi
  ·cases hc
 case box y=>
  obtain ⟨dst,op,type,pos,after,guard⟩:=o
  simp only at hc
  cases op <;> (try (cases hc;done))
  simp only [Qba] at hc
  simp only [Qa5] at hi
  split at hi
  ·cases hi
   exact Wbr h hG rfl hc (by assumption)
  ·cases hi
 case buildSl ag sz len z qs hh=>
  obtain ⟨dst,op,type,pos,after,guard⟩:=o
  simp only at hc
  cases op <;> (try (cases hc;done))
  simp only [Qba] at hc
  split at hc
  ·rename_i e hE
   simp only [Xac,Xcm,beq_iff_eq,decide_eq_true_eq] at hc
   obtain ⟨⟨⟨⟨rfl,hz⟩,hpos⟩,hsm⟩,hps⟩:=hc
   exact Qox h hG rfl hE hz hpos hsm hps hi
  ·cases hc
 case buildG ag sz len z qs=>
  obtain ⟨dst,op,type,pos,after,guard⟩:=o
  simp only at hc
  cases op <;> (try (cases hc;done))
  simp only [Qba] at hc
  split at hc
  ·rename_i e hE
   simp only [Xac,Xcm,beq_iff_eq,decide_eq_true_eq] at hc
   obtain ⟨⟨⟨⟨rfl,hz⟩,hpos⟩,hsm⟩,hps⟩:=hc
   exact Qqv h hG rfl hE hz hpos hsm hps hi
  ·cases hc
 case mark y=>
  obtain ⟨dst,op,type,pos,after,guard⟩:=o
  simp only at hc
  cases op <;> (try (cases hc;done))
  simp only [Qba,Xac,beq_iff_eq] at hc
  obtain ⟨⟨⟨rfl,hs⟩,hx⟩,ht⟩:=hc
  split at hs
  ·rename_i e hs'
   exact Qw0 h hG rfl hs' (Qe5 hs) hx ht hi
  ·cases hs
 case loadT y=>
  obtain ⟨dst,op,type,pos,after,guard⟩:=o
  simp only at hc
  cases op <;> (try (cases hc;done))
  simp only [Qba,Xac] at hc
  simp only [Qa5,Xaa] at hi
  refine Qu5 h hG rfl hc.1 hc.2 (Eq.trans ?_ hi)
  cases arg G J y <;> rfl
 case store sz p' y tk=>
  obtain ⟨dst,op,type,pos,after,guard⟩:=o
  simp only at hc
  cases op <;> (try (cases hc;done))
  simp only [Qba,Xac,decide_eq_true_eq] at hc
  exact Qu4 h hG rfl hc.1.1.1 hc.1.1.2 hc.1.2 hc.2 hi
 case app str ag sz bytes x' y' tk=>
  obtain ⟨dst,op,type,pos,after,guard⟩:=o
  simp only at hc
  cases op <;> (try (cases hc;done))
  rename_i c
  obtain ⟨callee,args,argTypes⟩:=c
  cases callee <;> (try (cases hc;done))
  rename_i b
  cases b <;> (try (cases hc;done))
  simp only [Qba,Xac] at hc
  obtain ⟨⟨h1,h2⟩,h3⟩:=hc
  obtain ⟨p,q,hpq,hp,hq⟩:=Qqq h1
  split at h3
  ·rename_i t tx htt
   have hat:argTypes = #[t,tx]:=by apply Xc1;simpa using htt
   have har:args = #[p,q]:=by apply Xc1;simpa using hpq
   subst hat har
   simp only [Qa5,Xaa,Xab,Xah,Prod.mk.injEq] at hi
   obtain ⟨ys,hys,v',hv,rfl,rfl⟩:=hi
   exact Wbq h hG rfl hp hq h2 h3 hys hv
  ·cases h3
 case conv k y=>
  by_cases hk:k = .strBytes
  ·subst hk
   obtain ⟨dst,op,type,pos,after,guard⟩:=o
   simp only at hc
   cases op <;> (try (cases hc;done))
   simp only [Qba,Xac] at hc
   obtain ⟨h1,h2⟩:=hc
   split at h2 <;> (try (cases h2;done)) <;> (try (rename_i hk _ _;cases hk;done))
   rename_i hs hd
   simp only [Qa5,Xaa,Xab,Xah,Prod.mk.injEq] at hi
   obtain ⟨v',hv,rfl,rfl⟩:=hi
   exact Qna h hG rfl hs hd (Qe5 h2) h1 hv
  ·refine Qoz h hG hc (fun y' e=>hk (by cases e;rfl)) (?_:_=some (v,U2))
   rw [←hi]
   cases k <;> first|rfl|exact absurd rfl hk
 case bytesH y=>
  obtain ⟨dst,op,type,pos,after,guard⟩:=o
  simp only at hc
  cases op <;> (try (cases hc;done))
  simp only [Qba,Xac] at hc
  obtain ⟨h1,h2⟩:=hc
  split at h2
  ·rename_i hs hd
   simp only [Qa5] at hi
   split at hi
   ·rename_i bs hy
    cases hi
    exact Qqu h hG rfl hs hd (Qe5 h2) h1 hy
   ·cases hi
  ·cases h2
 case mkSl ag sz bytes z l' c' hh=>
  obtain ⟨dst,op,type,pos,after,guard⟩:=o
  simp only at hc
  cases op <;> (try (cases hc;done))
  simp only [Qba] at hc
  split at hc
  ·rename_i e hE
   simp only [Xac,decide_eq_true_eq] at hc
   obtain ⟨⟨⟨⟨⟨⟨hz,hzl⟩,hpos⟩,hb0⟩,hby⟩,hl⟩,hcc⟩:=hc
   exact Qw1 h hG rfl hE hz hzl hpos hb0 hby hl hcc hi
  ·cases hc
end
def Does (P:Program) (f:FuncId) (vs:Array Value) (w:World) (R:Value→World→Prop):Prop:=
 ((callFunc f vs).run P w = .ok (.enter f vs) w∧Calls P f vs w (fun e w'=>∃v,e = .returned v∧R v w'))∨∃v w',(callFunc f vs).run P w = .ok (.value v) w'∧R v w'
def Sound (P:Program) (G:GV) (f:FuncId) (h:List V→Objs→Option (V×Objs)):Prop:=
 ∀args U r U',h args U=some (r,U')→∀M Z X D w (vs:Array Value),St M Z X D w vs.toList args U→GOK G M Z→(∀x∈args,x.ng=x)→
  Does P f vs w fun v w'=>∃M' Z' D',(Ext X M Z w M' Z' w'∧Kp Z w U Z' w' U')∧St M' Z' X D' w' [v] [r] U'
section
variable {P:Program} {M:Mem} {Z:Plc} {X:Nat→Prop} {D:Own} {w:World} {us:List Value} {J:List V} {U:Objs} {G:GV} {a:Act}
theorem Rep.inv_fn {v:Value} {f:FuncId} {first caps:List V} (h:Rep M Z v (.fn f first caps)):∃ars bs,v = .func (.func f) ars bs∧Reps M Z ars.toList first∧Reps M Z bs.toList caps:=by
 cases h with
 |fn _ ars bs _ _ ha hb hra hrb=>
  exact ⟨ars,bs,rfl,⟨by simpa using ha,fun i u y hu hy=>hra i u y (by simpa using hu) hy⟩,⟨by simpa using hb,fun i u y hu hy=>hrb i u y (by simpa using hu) hy⟩⟩
def Qeb (X:Nat→Prop) (D:Own) (b:Nat):Prop:=X b∨∃n,D b=some (.s n)
def Qia (D:Own):Own:=fun b=>match D b with|some (.c o i)=>some (.c o i)|_=>none
theorem Ql1 {D:Own} {b:Nat} {p:Pl} (h:Qia D b=some p):∃o i,p = .c o i∧D b=some (.c o i):=by
 unfold Qia at h
 split at h
 ·cases h;exact ⟨_,_,rfl,‹_›⟩
 ·cases h
theorem St.callee (h:St M Z X D w us J U) {vs:List Value} {xs:List V} (hr:Reps M Z vs xs) (hn:∀x∈xs,x.ng=x):St M Z (Qeb X D) (Qia D) w vs xs U:=by
 have hnone:∀(i:Nat) v x,xs[i]? = some x→ownB v x=none:=fun i v x hx=>by
  rw [←hn x (Xat hx)];exact Qbh _ _
 refine ⟨⟨h.wd.mem,h.wd.obj,h.wd.olt,h.wd.inj,fun b hb => ?_,fun o b hi hb => ?_,fun b p hp => ?_⟩,hr,fun p v x b ha hb => ?_,fun p v x ha => ?_⟩
 ·rcases hb with hb|⟨n,hn⟩
  ·exact h.wd.xlt b hb
  ·exact (h.wd.kap b _ hn).2.2
 ·rcases hb with hb|⟨n,hn⟩
  ·exact h.wd.xobj o b hi hb
  ·exact (h.wd.kap b _ hn).2.1 o hi
 ·obtain ⟨o,i,rfl,hk⟩:=Ql1 hp
  obtain ⟨h1,h2,h3⟩:=h.wd.kap b _ hk
  refine ⟨fun hx => ?_,h2,h3⟩
  rcases hx with hx|⟨n,hn⟩
  ·exact h1 hx
  ·rw [hk] at hn;cases hn
 ·cases p with
  |s i=>rw [hnone i v x ha.2] at hb;cases hb
  |c o i=>
   have:=h.own (.c o i) v x b ha hb
   unfold Qia
   rw [this]
 ·cases p with
  |s i=>exact .of_none (hnone i v x ha.2)
  |c o i=>exact h.gr (.c o i) v x ha
theorem St.behind (h:St M Z X D w us J U) {M':Mem} {Z':Plc} {D':Own} {w':World} {v:Value} {r:V} {U':Objs} (he:Ext (Qeb X D) M Z w M' Z' w') (hs:St M' Z' (Qeb X D) D' w' [v] [r] U') (d:Option Nat):
  ∃D3,Ext X M Z w M' Z' w'∧St M' Z' X D3 w' (putL us d v) (put J d r) U':=by
 have hrr:Rep M' Z' v r:=hs.rep.2 0 v r rfl rfl
 let D3:Own:=fun b=>match D b with
  |some (.s n)=>some (.s n)
  |_=>match D' b with
   |some (.c o i)=>some (.c o i)
   |some (.s _)=>d.map Pl.s
   |none=>none
 have k1:∀b n,D b=some (.s n)→D3 b=some (.s n):=fun b n e=>by show (match D b with|some (.s n)=>_|_=>_)=_;rw [e]
 have k2:∀b,(∀n,D b≠some (.s n))→D3 b=match D' b with
   |some (.c o i)=>some (.c o i)
   |some (.s _)=>d.map Pl.s
   |none=>none:=fun b e=>by
  simp only [D3]
 have hout:∀b p,D' b=some p→∀n,D b≠some (.s n):=fun b p e n hn=>(hs.wd.kap b p e).1 (.inr ⟨n,hn⟩)
 have grOld:∀(i:Nat) u x,us[i]? = some u→J[i]? = some x→GrOK M' w' u x:=fun i u x hu hx=>by
  cases hb:ownB u x with
  |none=>exact .of_none hb
  |some b=>
   have hat:At Z w us J U (.s i) u x:=⟨hu,hx⟩
   have hk:=h.own _ _ _ _ hat hb
   have hX:Qeb X D b:=.inr ⟨i,hk⟩
   refine ⟨fun xs sz hxx al len cap hv => ?_⟩
   obtain ⟨g1,g2,ws,T,fz,g3,g4⟩:=(h.gr _ _ _ hat).ok xs sz hxx al len cap hv
   have hbb:al.block=b:=by subst hxx hv;simp only [ownB,Xah] at hb;exact hb
   exact ⟨g1,fun j hj=>by rw [hbb,he.mX b j hX,←hbb];exact g2 j hj,ws,T,fz,by rw [hbb,he.keep b hX,←hbb];exact g3,g4⟩
 have hslot:∀(i:Nat) u x,(putL us d v)[i]? = some u→(put J d r)[i]? = some x→(d=some i∧u=v∧x=r)∨(us[i]? = some u∧J[i]? = some x):=by
  intro i u x hu hx
  cases d with
  |none=>exact .inr ⟨hu,hx⟩
  |some d=>
   simp only [putL,put,Xbd] at hu hx
   by_cases hd:d=i
   ·subst hd
    rw [if_pos rfl] at hu hx
    split at hu
    ·split at hx
     ·cases hu;cases hx;exact .inl ⟨rfl,rfl,rfl⟩
     ·cases hx
    ·cases hu
   ·rw [if_neg hd] at hu hx;exact .inr ⟨hu,hx⟩
 refine ⟨D3,he.less fun b hb=>.inl hb,⟨⟨hs.wd.mem,hs.wd.obj,hs.wd.olt,hs.wd.inj,fun b hb=>hs.wd.xlt b (.inl hb),fun o b hi hb=>hs.wd.xobj o b hi (.inl hb),fun b p hp => ?_⟩,?_,fun p u x b ha hb => ?_,fun p u x ha => ?_⟩⟩
 ·by_cases hn:∃n,D b=some (.s n)
  ·obtain ⟨n,hn⟩:=hn
   have hX:Qeb X D b:=.inr ⟨n,hn⟩
   exact ⟨(h.wd.kap b _ hn).1,fun o ho=>hs.wd.xobj o b ho hX,hs.wd.xlt b hX⟩
  ·rw [k2 b (fun n e=>hn ⟨n,e⟩)] at hp
   cases hk:D' b with
   |none=>rw [hk] at hp;cases hp
   |some q=>
    obtain ⟨h1,h2,h3⟩:=hs.wd.kap b q hk
    exact ⟨fun hx=>h1 (.inl hx),h2,h3⟩
 ·have:=h.rep.mono he.m he.i
  cases d with
  |none=>exact this
  |some d=>exact this.set hrr d
 ·cases p with
  |c o i=>
   have hk:D' b=some (.c o i):=hs.own (.c o i) u x b ha hb
   rw [k2 b (hout b _ hk),hk]
  |s i=>
   rcases hslot i u x ha.1 ha.2 with ⟨rfl,rfl,rfl⟩|⟨hu,hx⟩
   ·have hk:D' b=some (.s 0):=hs.own (.s 0) u x b ⟨rfl,rfl⟩ hb
    rw [k2 b (hout b _ hk),hk]
    rfl
   ·exact k1 b i (h.own (.s i) u x b ⟨hu,hx⟩ hb)
 ·cases p with
  |c o i=>exact hs.gr (.c o i) u x ha
  |s i=>
   rcases hslot i u x ha.1 ha.2 with ⟨rfl,rfl,rfl⟩|⟨hu,hx⟩
   ·exact hs.gr (.s 0) u x ⟨rfl,rfl⟩
   ·exact grOld i u x hu hx
theorem Wft (h:St M Z X D w a.tmps.toList J U) (hG:GOK G M Z) {o:Oper} {s:Step} (hd:o.dst=s.dst) (hc:Qba P o.op s.ins=true) {call:FuncId→List V→Objs→Option (V×Objs)} (hS:∀f,Sound P G f (call f))
  {J':List V} {U':Objs} (he:ev1 G call s J U=some (J',U')) {next:Act→World→Prop} {Q:Exit→Act→World→Prop}
  (hn:∀v w' M' Z' D',Ext X M Z w M' Z' w'→Kp Z w U Z' w' U'→St M' Z' X D' w' (a.put o.dst v).tmps.toList J' U'→next (a.put o.dst v) w'):o.wp P a w next Q:=by
 cases hcall:Qw2 s.ins with
 |false=>
  obtain ⟨nx,v,w',M',Z',D',hrun,hnx,⟨hx,hk,_⟩,hst⟩:=Qso h hG hd hc hcall he
  rw [←Qdt] at hst
  unfold Oper.wp
  rw [hrun]
  rcases hnx with rfl|⟨rfl,rfl⟩
  ·exact hn v w' M' Z' D' hx hk hst
  ·exact hn undef w' M' Z' D' hx hk hst
 |true=>
  have hA:=Opd.of_state h.rep hG
  have fin:∀(f:FuncId) (vs:Array Value) (xs:List V) (r:V),(execOp a.eval o).run P w=(callFunc f vs).run P w→Reps M Z vs.toList xs→(∀x∈xs,x.ng=x)→call f xs U=some (r,U')→J'=put J s.dst r→o.wp P a w next Q:=by
   intro f vs xs r hrun hr hng hcl hρ
   have hcs:=h.callee hr hng
   have:=hS f xs U r U' hcl M Z _ _ w vs hcs hG hng
   unfold Oper.wp
   rw [hrun]
   have done:∀v w',(∃M' Z' D',(Ext (Qeb X D) M Z w M' Z' w'∧Kp Z w U Z' w' U')∧St M' Z' (Qeb X D) D' w' [v] [r] U')→next (a.put o.dst v) w':=by
    intro v w' ⟨M',Z',D',⟨hx,hk⟩,hst⟩
    obtain ⟨D3,hx3,hst3⟩:=h.behind hx hst o.dst
    rw [←Qdt] at hst3
    rw [hd] at hst3 ⊢
    rw [←hρ] at hst3
    exact hn v w' M' Z' D3 hx3 hk (by rw [hd];exact hst3) |> fun q=>by rw [hd] at q;exact q
   rcases this with ⟨h1,h2⟩|⟨v,w',h1,h2⟩
   ·rw [h1]
    exact Calls.mono h2 fun e w' ⟨v,he,hR⟩=>by subst he;exact done v w' hR
   ·rw [h1]
    exact done v w' h2
  obtain ⟨dst,gd,i⟩:=s
  obtain ⟨dst',op,type,pos,after,guard⟩:=o
  simp only at hd hc hcall
  subst hd
  unfold ev1 at he
  simp only [Xaa,Xab] at he
  obtain ⟨⟨v,U2⟩,hi,he⟩:=he
  simp only [Xah,Prod.mk.injEq] at he
  obtain ⟨rfl,rfl⟩:=he
  cases i <;> (try (cases hcall;done))
  case call f ys=>
   cases op <;> (try (cases hc;done))
   rename_i c
   obtain ⟨callee,args,argTypes⟩:=c
   cases callee <;> (try (cases hc;done))
   rename_i fv
   cases fv <;> (try (cases hc;done))
   rename_i g
   simp only [Qba,Xac,beq_iff_eq] at hc
   obtain ⟨rfl,hca⟩:=hc
   simp only [Qa5] at hi
   refine fin f (args.map a.eval) (ys.map (arg G J)) v ?_ (by rw [Array.toList_map];exact hA.args hca) (fun x hx => ?_) hi rfl
   ·simp only [execOp,resolve,Deferred.ofValue,invoke,Qad,Act.eval]
    simp [Qap,Result.andThen]
   ·obtain ⟨y,_,rfl⟩:=Xbc.1 hx;exact V.nogr_nogr _
  case callv y ys=>
   cases op <;> (try (cases hc;done))
   rename_i c
   obtain ⟨callee,args,argTypes⟩:=c
   cases callee <;> (try (cases hc;done))
   rename_i fv
   simp only [Qba,Xac] at hc
   simp only [Qa5] at hi
   split at hi
   ·rename_i f first caps hy
    have hv:=hA.ok _ _ hc.1
    rw [hy] at hv
    obtain ⟨ars,bs,hfv,hra,hrb⟩:=hv.inv_fn
    refine fin f ((ars++args.map a.eval)++bs) (((first++ys.map (arg G J))++caps).map V.ng) v ?_ ?_ (fun x hx => ?_) hi rfl
    ·simp only [execOp,resolve,hfv,Deferred.ofValue,invoke,Qad]
     simp [Qap,Result.andThen]
    ·simp only [Xdx,Array.toList_map]
     exact ((hra.append (hA.args hc.2)).append hrb).ng
    ·obtain ⟨y,_,rfl⟩:=Xbc.1 hx;exact V.nogr_nogr _
   ·cases hi
end
def Wbs (ops:Array Oper):Option (Nat×Bool)→Option (Nat×Bool)→Bool
 |none,none=>true
 |some (g,b),some (t,b')=>b == b'&&((ops[g]?).bind (·.dst)) == some t
 |_,_=>false
def Qev (P:Program) (ops:Array Oper) (o:Oper) (s:Step):Bool:=o.dst == s.dst&&Qba P o.op s.ins&&Wbs ops o.guard s.gd
def Qib (P:Program) (ops:Array Oper):List Oper→List Step→Bool
 |[],[]=>true
 |o::os,s::ss=>Qev P ops o s&&Qib P ops os ss
 |_,_=>false
def Got (a:Act) (M:Mem) (Z:Plc) (X:Nat→Prop) (w:World) (U:Objs) (J':List V) (U':Objs) (a':Act) (w':World):Prop:=
 a'.defers=a.defers∧∃M' Z' D',Ext X M Z w M' Z' w'∧Kp Z w U Z' w' U'∧St M' Z' X D' w' a'.tmps.toList J' U'
section
variable {P:Program} {M:Mem} {Z:Plc} {X:Nat→Prop} {D:Own} {w:World} {us:List Value} {J:List V} {U:Objs} {G:GV} {a:Act} {ops:Array Oper} {Q:Exit→Act→World→Prop}
theorem Qdc (a:Act) (d:Option Nat) (v:Value):(a.put d v).defers=a.defers:=by cases d <;> rfl
theorem Rep.inv_undef {v:Value} (h:Rep M Z v .undef):v=Go.undef:=by cases h;rfl
theorem Qkz {tmps:Array Value} (h:Reps M Z tmps.toList J) {o:Oper} {gd:Option (Nat×Bool)} {b:Bool} (hc:Wbs ops o.guard gd=true) (hw:wanted J gd=some b):Region.wanted o (yielded ops tmps)=b:=by
 unfold Region.wanted
 cases hg:o.guard with
 |none=>
  rw [hg] at hc
  cases gd with
  |none=>simp only [wanted,Xah] at hw;exact hw
  |some _=>cases hc
 |some p=>
  obtain ⟨g,want⟩:=p
  rw [hg] at hc
  cases gd with
  |none=>cases hc
  |some q=>
   obtain ⟨t,b'⟩:=q
   simp only [Wbs,Xac,beq_iff_eq] at hc
   obtain ⟨rfl,ht⟩:=hc
   have hr:=Qh4 h t
   simp only [wanted] at hw
   unfold yielded
   simp only [ht,Xad]
   split at hw
   ·rename_i tb hq
    rw [hq] at hr
    have hv:=hr.inv_bool
    have:tmps[t]? = some (.bool tb):=by
     rw [List.getD] at hv
     cases hu:tmps.toList[t]? with
     |none=>rw [hu] at hv;simp only [Xb7] at hv;cases hv
     |some u=>rw [hu] at hv;simp only [Xbg] at hv;subst hv;simpa using hu
    rw [this]
    cases hw
    cases tb <;> cases want <;> rfl
   ·rename_i hq
    rw [hq] at hr
    have hv:=hr.inv_undef
    have:tmps[t]? = some undef∨tmps[t]? = none:=by
     rw [List.getD] at hv
     cases hu:tmps.toList[t]? with
     |none=>right;simpa using hu
     |some u=>rw [hu] at hv;simp only [Xbg] at hv;subst hv;left;simpa using hu
    cases hw
    rcases this with h|h <;> rw [h] <;> rfl
   ·cases hw
theorem Qw3 (h:St M Z X D w a.tmps.toList J U) (hG:GOK G M Z) {i:Nat} {o:Oper} {s:Step} (ho:ops[i]? = some o) (hc:Qev P ops o s=true) {call:FuncId→List V→Objs→Option (V×Objs)} (hS:∀f,Sound P G f (call f))
  {J':List V} {U':Objs} (he:Qb4 G call s J U=some (J',U')) {K:Act→World→Prop} (hn:∀a' w',Got a M Z X w U J' U' a' w'→K a' w'):wpOp P ops Q i K a w:=by
 simp only [Qev,Xac,beq_iff_eq] at hc
 obtain ⟨⟨hd,hi⟩,hg⟩:=hc
 unfold Qb4 at he
 simp only [Xaa,Xab] at he
 obtain ⟨b,hb,he⟩:=he
 have hw:=Qkz (ops:=ops) h.rep hg hb
 unfold wpOp
 simp only [ho,hw]
 cases b with
 |true=>
  simp only [if_true] at he ⊢
  exact .inl (Wft h hG hd hi hS he fun v w' M' Z' D' hx hk hst=>hn _ _ ⟨Qdc _ _ _,M',Z',D',hx,hk,hst⟩)
 |false=>
  simp only [Xaj,if_false,Xah,Prod.mk.injEq] at he ⊢
  obtain ⟨rfl,rfl⟩:=he
  refine hn _ _ ⟨Qdc _ _ _,M,Z,D,Ext.refl ..,Kp.refl ..,?_⟩
  rw [Qdt,←hd]
  exact h.putNone .undef rfl _
theorem Got.trans {a a' a'':Act} {w' w'':World} {J'':List V} {U' U'':Objs} {M':Mem} {Z':Plc} (hd:a'.defers=a.defers) (hx:Ext X M Z w M' Z' w') (hk:Kp Z w U Z' w' U') (h:Got a' M' Z' X w' U' J'' U'' a'' w''):
  Got a M Z X w U J'' U'' a'' w'':=by
 obtain ⟨hd',M'',Z'',D'',hx',hk',hs⟩:=h
 exact ⟨hd'.trans hd,M'',Z'',D'',hx.trans hx',hk.trans hx.i hk',hs⟩
theorem Qsp {call:FuncId→List V→Objs→Option (V×Objs)} (hS:∀f,Sound P G f (call f)):∀(os:List Oper) (ss:List Step) (i:Nat) (M:Mem) (Z:Plc) (D:Own) (w:World) (a:Act) (J:List V) (U:Objs) (J':List V) (U':Objs),
  St M Z X D w a.tmps.toList J U→GOK G M Z→ops.toList.drop i=os→Qib P ops os ss=true→Qdb G call ss J U=some (J',U')→(∀a' w',Got a M Z X w U J' U' a' w'→Q .normal a' w')→
  wpOps P ops Q (List.range' i os.length) a w
 |[],[],i,M,Z,D,w,a,J,U,J',U',h,hG,hdrop,hc,he,hQ=>by
  simp only [Qdb,Xah,Prod.mk.injEq] at he
  obtain ⟨rfl,rfl⟩:=he
  exact hQ _ _ ⟨rfl,M,Z,D,Ext.refl ..,Kp.refl ..,h⟩
 |[],s::ss,i,M,Z,D,w,a,J,U,J',U',h,hG,hdrop,hc,he,hQ=>by cases hc
 |o::os,[],i,M,Z,D,w,a,J,U,J',U',h,hG,hdrop,hc,he,hQ=>by cases hc
 |o::os,s::ss,i,M,Z,D,w,a,J,U,J',U',h,hG,hdrop,hc,he,hQ=>by
  simp only [Qib,Xac] at hc
  simp only [Qdb,Xaa,Xab] at he
  obtain ⟨⟨J1,U1⟩,h1,h2⟩:=he
  have ho:ops[i]? = some o:=by
   have:(ops.toList.drop i)[0]? = some o:=by rw [hdrop];rfl
   simpa using this
  have hdr:ops.toList.drop (i+1)=os:=by
   have:=congrArg List.tail hdrop
   simpa using this
  rw [Xal,List.range'_succ,wpOps_cons]
  refine Qw3 h hG ho hc.1 hS h1 fun a' w' hgot => ?_
  obtain ⟨hd,M',Z',D',hx,hk,hs⟩:=hgot
  exact Qsp hS os ss (i+1) M' Z' D' w' a' J1 U1 J' U' hs (hG.mono hx.m hx.i) hdr hc.2 h2 fun a'' w'' hg''=>hQ _ _ (Got.trans hd hx hk hg'')
theorem Qw4 {call:FuncId→List V→Objs→Option (V×Objs)} (hS:∀f,Sound P G f (call f)) (h:St M Z X D w a.tmps.toList J U) (hG:GOK G M Z) {id:Nat} {ss:List Step} (hc:Qib P ops ops.toList ss=true) {J':List V} {U':Objs}
  (he:Qdb G call ss J U=some (J',U')) (hQ:∀a' w',Got a M Z X w U J' U' a' w'→Q .normal a' w'):(Code.region id ops false).wp P Q a w:=by
 refine wp_region ?_
 have:=Qsp (Q:=Q) hS ops.toList ss 0 M Z D w a J U J' U' h hG rfl hc he hQ
 rwa [List.range_eq_range',←Xa4]
end
def Ins.args:Ins→List Arg
 | .mv x _=>[x]
 | .pick c a b=>[c,a,b]
 | .alloc _=>[]
 | .box x=>[x]
 | .build _ ps=>ps.map (·.2.2)
 | .buildSl _ _ _ _ ps _=>ps.map (·.2)
 | .load _ _ x=>[x]
 | .loadT x=>[x]
 | .store _ p x _=>[p,x]
 | .nilc x=>[x]
 | .bin _ _ x y=>[x,y]
 | .un _ x=>[x]
 | .conv _ x=>[x]
 | .cutS x lo hi=>x::(lo.toList++hi.toList)
 | .cut _ x lo hi mx=>x::(lo.toList++hi.toList++mx.toList)
 | .cutA _ _ _ x lo hi=>x::(lo.toList++hi.toList)
 | .faddr _ x=>[x]
 | .field _ _ _ x=>[x]
 | .iaddr _ x i=>[x,i]
 | .iaddrA _ _ x i=>[x,i]
 | .idx x i=>[x,i]
 | .idxA _ _ _ x i=>[x,i]
 | .lenS x=>[x]
 | .len x=>[x]
 | .app _ _ _ _ x y _=>[x,y]
 | .appH _ _ _ _ x y=>[x,y]
 | .bytesH x=>[x]
 | .call _ ars=>ars
 | .callv x ars=>x::ars
 | .mkfn _ a b=>a++b
 | .mkif _ x=>[x]
 | .extr x _=>[x]
 | .mkSl _ _ _ _ l c _=>[l,c]
 | .mm _ ars=>ars
 | .mkmp=>[]
 | .mset m k x=>[m,k,x]
 | .mget _ m k _=>[m,k]
 | .buildG _ _ _ _ ps=>ps.map (·.2)
 | .mark x=>[x]
theorem Qhr {α β:Type} {f g:α→β} {o:Option α} (h:∀x∈o.toList,f x=g x):o.map f=o.map g:=by
 cases o with
 |none=>rfl
 |some x=>simp [h x (by simp)]
theorem Qo0 {A A':Arg→V} {U:Objs} {i:Ins} (h:∀x∈i.args,A x=A' x):Qa8 A U i=Qa8 A' U i:=by
 cases i
 case build z ps=>
  simp only [Qa8]
  rw [Xbk (f:=fun p:Nat×Nat×Arg=>(p.1,p.2.1,A p.2.2)) (g:=fun p=>(p.1,p.2.1,A' p.2.2)) fun p hp=>by rw [h p.2.2 (Xbc.2 ⟨p,hp,rfl⟩)]]
 case cutS x lo hi=>
  simp only [Qa8]
  rw [h x (by simp [Ins.args]),Qhr (f:=A) (g:=A') fun y hy=>h y (by simp only [Ins.args,Xay,Xbq];exact .inr (.inl hy)),Qhr (f:=A) (g:=A') fun y hy=>h y (by simp only [Ins.args,Xay,Xbq];exact .inr (.inr hy))]
 case cut sz x lo hi mx=>
  simp only [Qa8]
  rw [h x (by simp [Ins.args]),Qhr (f:=A) (g:=A') fun y hy=>h y (by simp only [Ins.args,Xay,Xbq];exact .inr (.inl (.inl hy))),Qhr (f:=A) (g:=A') fun y hy=>h y (by simp only [Ins.args,Xay,Xbq];exact .inr (.inl (.inr hy))),Qhr (f:=A) (g:=A') fun y hy=>h y (by simp only [Ins.args,Xay,Xbq];exact .inr (.inr hy))]
 case cutA n sz ag x lo hi=>
  simp only [Qa8]
  rw [h x (by simp [Ins.args]),Qhr (f:=A) (g:=A') fun y hy=>h y (by simp only [Ins.args,Xay,Xbq];exact .inr (.inl hy)),Qhr (f:=A) (g:=A') fun y hy=>h y (by simp only [Ins.args,Xay,Xbq];exact .inr (.inr hy))]
 case mkfn f a b=>
  simp only [Qa8]
  rw [Xbk fun y hy=>h y (Xbv _ hy),Xbk fun y hy=>h y (Xb5 _ hy)]
 case mm mx ars=>
  have hm:ars.map A=ars.map A':=Xbk fun y hy=>h y hy
  simp only [Qa8,hm]
 all_goals first|rfl|(simp only [Qa8];simp only [Ins.args,Xay,Xc6,or_false,forall_eq_or_imp,forall_eq] at h;simp only [h])
theorem Qqw {call:FuncId→List V→Objs→Option (V×Objs)} {A A' T T':Arg→V} {U:Objs} {i:Ins} (h:∀x∈i.args,A x=A' x) (k:∀x∈i.args,T x=T' x):Qa5 call A T U i=Qa5 call A' T' U i:=by
 have hp:=Qo0 (U:=U) h
 cases i
 case buildSl ag sz len z ps hh=>
  simp only [Qa5]
  rw [Xbk (f:=fun p:Nat×Arg=>(p.1,A p.2)) (g:=fun p=>(p.1,A' p.2)) fun p hp=>by rw [h p.2 (Xbc.2 ⟨p,hp,rfl⟩)]]
 case buildG ag sz len z ps=>
  simp only [Qa5]
  rw [Xbk (f:=fun p:Nat×Arg=>(p.1,A p.2)) (g:=fun p=>(p.1,A' p.2)) fun p hp=>by rw [h p.2 (Xbc.2 ⟨p,hp,rfl⟩)]]
 case call f ars=>
  have hm:ars.map A=ars.map A':=Xbk fun y hy=>h y hy
  simp only [Qa5,hm]
 case callv x ars=>
  have hm:ars.map A=ars.map A':=Xbk fun y hy=>h y (Xax _ hy)
  simp only [Qa5,hm,h x (Xaw ..)]
 case conv c x=>
  cases c <;> first|(simp only [Qa5];rw [hp])|(simp only [Qa5];rw [h x (Xaw ..)])
 all_goals first
  |rfl
  |(simp only [Qa5];rw [hp])
  |(simp only [Qa5];simp only [Ins.args,Xay,Xc6,or_false,forall_eq_or_imp,forall_eq] at h k;simp only [h,k])
def Step.wr (s:Step):List Nat:=s.dst.toList++(match s.ins.takes with|(.t n,true)=>[n]|_=>[])
def Arg.slot:Arg→Option Nat
 | .t n=>some n
 |_=>none
def Step.rd (s:Step):List Nat:=s.ins.args.filterMap Arg.slot++(s.gd.map Prod.fst).toList
theorem Qw5 (i:Ins) {n:Nat} (h:i.takes=(.t n,true)):.t n∈i.args:=by
 cases i <;> simp [Ins.takes] at h <;> simp [Ins.args,h]
section
variable {G:GV} {call:FuncId→List V→Objs→Option (V×Objs)} {J J' H:List V} {U U1:Objs} {s:Step}
theorem Qmf {x:Arg} (h:∀n,x.slot=some n→J'.getD n .undef=J.getD n .undef):argT G J' x=argT G J x:=by
 cases x <;> first|rfl|exact h _ rfl
theorem Qjt {gd:Option (Nat×Bool)} (h:∀n∈(gd.map Prod.fst).toList,J'.getD n .undef=J.getD n .undef):wanted J' gd=wanted J gd:=by
 cases gd with
 |none=>rfl
 |some p=>
  obtain ⟨g,b⟩:=p
  simp only [wanted]
  rw [h g (by simp)]
theorem Qi0 (d:Option Nat) (x:V) (t:Nat):(put J d x)[t]? = if d=some t then (if t<J.length then some x else none) else J[t]? := by
 cases d with
 |none=>simp [put]
 |some d=>
  simp only [put,Xbd,Xah]
  by_cases hd:d=t
  ·subst hd;rfl
  ·rw [if_neg hd,if_neg hd]
theorem Qnc (d:Option Nat) (x:V):(put J d x).length=J.length:=by cases d <;> simp [put]
theorem Qgv (x:Arg) (tk:Bool):(unslot J x tk).length=J.length:=by
 unfold unslot;split <;> simp
def Qe6 (x:Arg) (tk:Bool) (t:Nat):Bool:=tk&&x.slot == some t
theorem Qco {x:Arg} {tk:Bool} {t:Nat} : Qe6 x tk t=true↔x = .t t∧tk=true:=by
 unfold Qe6
 cases tk <;> cases x <;> simp [Arg.slot]
theorem Qi1 (x:Arg) (tk:Bool) (t:Nat):(unslot J x tk)[t]? = if Qe6 x tk t=true then (J[t]?).map V.ng else J[t]? := by
 by_cases hx:Qe6 x tk t=true
 ·rw [if_pos hx]
  obtain ⟨rfl,rfl⟩:=Qco.1 hx
  simp only [unslot,Xbd,if_true]
  by_cases hl:t<J.length
  ·rw [if_pos hl];simp [List.getD,Xae hl]
  ·rw [if_neg hl];simp [Xa3 (Xc0.1 hl)]
 ·rw [if_neg hx]
  unfold unslot
  split
  ·rename_i n
   rw [Xba (fun e=>hx (Qco.2 ⟨by rw [e],rfl⟩))]
  ·rfl
theorem Web {t:Nat} (h:s.dst=some t):t∈s.wr:=by simp [Step.wr,h]
theorem Wfu {t:Nat} (h:Qe6 s.ins.takes.1 s.ins.takes.2 t=true):t∈s.wr:=by
 obtain ⟨h1,h2⟩:=Qco.1 h
 have:s.ins.takes=(Arg.t t,true):=Prod.ext h1 h2
 simp [Step.wr,this]
theorem Qsq {t:Nat} (h:t∈s.wr):s.dst=some t∨Qe6 s.ins.takes.1 s.ins.takes.2 t=true:=by
 simp only [Step.wr,Xbq] at h
 rcases h with h|h
 ·cases hq:s.dst with
  |none=>rw [hq] at h;simp at h
  |some d=>rw [hq] at h;simp at h;rw [h];exact .inl rfl
 ·split at h
  ·rename_i n heq
   simp at h
   subst h
   exact .inr (Qco.2 ⟨by rw [heq],by rw [heq]⟩)
  ·simp at h
theorem Qf9 (h:Qb4 G call s J U=some (H,U1)):H.length=J.length∧∀t,t∉s.wr→H[t]? = J[t]? := by
 unfold Qb4 ev1 at h
 simp only [Xaa,Xab] at h
 obtain ⟨b,_,h⟩:=h
 cases b with
 |true=>
  simp only [if_true,Xab,Xah,Prod.mk.injEq] at h
  obtain ⟨⟨v,U2⟩,_,rfl,rfl⟩:=h
  refine ⟨by rw [Qnc,Qgv],fun t ht => ?_⟩
  rw [Qi0,if_neg (fun e=>ht (Web e)),Qi1,if_neg (fun e=>ht (Wfu e))]
 |false=>
  simp only [Xaj,if_false,Xah,Prod.mk.injEq] at h
  obtain ⟨rfl,rfl⟩:=h
  refine ⟨Qnc ..,fun t ht => ?_⟩
  rw [Qi0,if_neg (fun e=>ht (Web e))]
theorem Qen (h:Qb4 G call s J U=some (H,U1)) (hl:J'.length=J.length) (hr:∀t∈s.rd,J'[t]? = J[t]?):
  ∃H',Qb4 G call s J' U=some (H',U1)∧∀t∈s.wr,H'[t]? = H[t]? := by
 have hr':∀t∈s.rd,J'.getD t .undef=J.getD t .undef:=fun t ht=>by simp only [List.getD,hr t ht]
 have hw:wanted J' s.gd=wanted J s.gd:=Qjt fun n hn=>hr' n (Xb5 _ hn)
 have hT:∀x∈s.ins.args,argT G J' x=argT G J x:=fun x hx=>Qmf fun n hn=>hr' n (Xbv _ (Xdd.2 ⟨x,hx,hn⟩))
 have hA:∀x∈s.ins.args,arg G J' x=arg G J x:=fun x hx=>by unfold arg;rw [hT x hx]
 unfold Qb4 ev1 at h ⊢
 simp only [Xaa,Xab] at h
 obtain ⟨b,hb,h⟩:=h
 simp only [Xaa,hw,hb,Xad]
 have take:∀t,s.ins.takes=(Arg.t t,true)→J'[t]? = J[t]? := fun t ht=>hr t (Xbv _ (Xdd.2 ⟨_,Qw5 _ ht,rfl⟩))
 cases b with
 |true=>
  simp only [if_true,Xab,Xah,Prod.mk.injEq] at h ⊢
  obtain ⟨⟨v,U2⟩,hi,rfl,rfl⟩:=h
  refine ⟨_,⟨(v,U2),by rw [Qqw hA hT];exact hi,rfl,rfl⟩,fun t ht => ?_⟩
  simp only
  rw [Qi0,Qi0,Qgv,Qgv,hl]
  by_cases hd:s.dst=some t
  ·rw [if_pos hd,if_pos hd]
  ·have htk:=(Qsq ht).resolve_left hd
   obtain ⟨h1,h2⟩:=Qco.1 htk
   rw [if_neg hd,if_neg hd,Qi1,Qi1,if_pos htk,if_pos htk,take t (Prod.ext h1 h2)]
 |false=>
  simp only [Xaj,if_false,Xah,Prod.mk.injEq] at h ⊢
  obtain ⟨rfl,rfl⟩:=h
  refine ⟨_,⟨rfl,rfl⟩,fun t ht => ?_⟩
  rw [Qi0,Qi0,hl]
  by_cases hd:s.dst=some t
  ·rw [if_pos hd,if_pos hd]
  ·have htk:=(Qsq ht).resolve_left hd
   obtain ⟨h1,h2⟩:=Qco.1 htk
   rw [if_neg hd,if_neg hd,take t (Prod.ext h1 h2)]
end
def neutral:Ins→Bool
 | .mv .. | .pick .. | .build .. | .nilc _ | .bin .. | .un .. | .cutS .. | .cut .. | .cutA .. | .faddr .. | .field .. | .iaddr .. | .iaddrA .. | .idx .. | .idxA .. | .lenS _ | .len _ | .mkfn .. | .mkif .. | .extr .. | .mm .. => true
 | .conv .bytesStr _=>false
 | .conv .. => true
 | .buildSl _ _ _ _ _ h=>!h
 | .mkSl _ _ _ _ _ _ h=>!h
 | .buildG .. => true
 |_=>false
def dly:Ins→Bool
 | .load .. | .loadT _ | .alloc _ | .box _=>true
 |i=>neutral i
theorem Qic {call:FuncId→List V→Objs→Option (V×Objs)} {A T:Arg→V} {U U' U2:Objs} {i:Ins} {v:V} (hn:neutral i=true) (h:Qa5 call A T U i=some (v,U')):U'=U∧Qa5 call A T U2 i=some (v,U2):=by
 have pure:∀(x:Option V),(do let v ←x;some (v.ng,U))=some (v,U')→U'=U∧(do let v ←x;some (v.ng,U2))=some (v,U2):=by
  intro x hx
  cases x with
  |none=>cases hx
  |some y=>
   simp only [Xaa,Xad,Xah,Prod.mk.injEq,and_true] at hx ⊢
   exact ⟨hx.2.symm,hx.1⟩
 cases i <;> (try (cases hn;done)) <;> (try (exact pure _ h))
 case mv x tk=>
  simp only [Qa5,Xah,Prod.mk.injEq,and_true] at h ⊢
  exact ⟨h.2.symm,h.1⟩
 case conv k x=>
  have hq:∀k,k≠.bytesStr→eC U k (A x)=eC U2 k (A x):=fun k hk=>by
   cases k <;> first|(unfold eC;cases A x <;> rfl)|exact absurd rfl hk
  cases k
  case bytesStr=>cases hn
  case strBytes=>
   simp only [Qa5] at h ⊢
   rw [hq _ (by simp)] at h
   cases hv:eC U2 .strBytes (A x) with
   |none=>rw [hv] at h;cases h
   |some y=>
    rw [hv] at h
    simp only [Xaa,Xad,Xah,Prod.mk.injEq,and_true] at h ⊢
    exact ⟨h.2.symm,h.1⟩
  all_goals
   simp only [Qa5,Qa8] at h ⊢
   rw [hq _ (by simp)] at h
   exact pure _ h
 case buildSl ag sz len z ps hh=>
  cases hh with
  |true=>cases hn
  |false=>
   simp only [Qa5,Xaa,Xab,Xaj,if_false] at h ⊢
   obtain ⟨xs,hx,h⟩:=h
   split at h
   ·cases h;exact ⟨rfl,xs,hx,by rw [if_pos (by assumption)]⟩
   ·cases h
 case buildG ag sz len z ps=>
  simp only [Qa5,Xaa,Xab] at h ⊢
  obtain ⟨xs,hx,h⟩:=h
  split at h
  ·cases h;exact ⟨rfl,xs,hx,by rw [if_pos (by assumption)]⟩
  ·cases h
 case mkSl ag sz bytes z l c hh=>
  cases hh with
  |true=>cases hn
  |false=>
   simp only [Qa5,Xaa,Xab,Xaj,if_false] at h ⊢
   obtain ⟨l,hl,c,hc,h⟩:=h
   split at h
   ·cases h;exact ⟨rfl,l,hl,c,hc,by rw [if_pos (by assumption)]⟩
   ·cases h
section
variable (P:Program) (ops:Array Oper) (l:List DS)
def dsAt (l:List DS) (p:Nat):DS:=l.getD p ⟨⟨none,none,.mkmp⟩,0,[]⟩
def place (l:List DS) (i:Nat):Nat:=l.findIdx (·.op == i)
def edges (ops:Array Oper) (l:List DS) (p:Nat):List Nat:=
 match ops[(dsAt l p).op]? with
 |some o=>(o.after.toList.filter (Region.binds .any)).map fun e=>place l e.on
 |none=>[]
def Qw6 (ops:Array Oper) (l:List DS):Nat→List (List Nat)→List (List Nat)
 |0,acc=>acc
 |n+1,acc=>
  let es:=edges ops l acc.length
  Qw6 ops l n (acc++[(List.range acc.length).filter fun q=>es.contains q||es.any fun r=>(acc.getD r []).contains q])
def apart (a b:Step):Bool:=a.wr.all (fun t=>!b.wr.contains t && !b.rd.contains t)&&b.wr.all (fun t=>!a.rd.contains t)
structure DrwOK (P:Program) (ops:Array Oper) (l:List DS) (dp:List (List Nat)):Prop where
 len:l.length=ops.size
 step:∀p,p<l.length→∃o,ops[(dsAt l p).op]? = some o∧Qev P ops o (dsAt l p).s=true
 inj:∀p q,p<l.length→q<l.length→(dsAt l p).op=(dsAt l q).op→p=q
 all:∀i,i<ops.size→place l i<l.length
 edge:∀p,p<l.length→∀q∈edges ops l p,q<p
 dep:∀p,p<l.length→∀q∈dp.getD p [],q∈edges ops l p∨∃r∈edges ops l p,q∈dp.getD r []
 pair:∀p,p<l.length→∀q,q<p→q∈dp.getD p []∨(apart (dsAt l q).s (dsAt l p).s=true∧dly (dsAt l q).s.ins=true∧(dly (dsAt l p).s.ins=true∨neutral (dsAt l q).s.ins=true∨q∈(dsAt l p).un))
 un:∀p,p<l.length→dly (dsAt l p).s.ins=true→(dsAt l p).un=[]
 unlt:∀p,p<l.length→∀k∈(dsAt l p).un,k<p
 sub:∀p,p<l.length→∀q∈edges ops l p,q∈dp.getD p []
def Qsr (P:Program) (ops:Array Oper) (l:List DS):Bool:=
 let dp:=Qw6 ops l l.length []
 let r:=List.range l.length
 decide (l.length=ops.size) &&
 r.all (fun p=>match ops[(dsAt l p).op]? with|some o=>Qev P ops o (dsAt l p).s|none=>false) &&
 r.all (fun p=>decide (place l (dsAt l p).op=p)) &&
 (List.range ops.size).all (fun i=>decide (place l i<l.length)) &&
 r.all (fun p=>(edges ops l p).all fun q=>decide (q<p)) &&
 r.all (fun p=>(dp.getD p []).all fun q=>(edges ops l p).contains q||(edges ops l p).any fun r=>(dp.getD r []).contains q) &&
 r.all (fun p=>(List.range p).all fun q=>(dp.getD p []).contains q||(apart (dsAt l q).s (dsAt l p).s&&dly (dsAt l q).s.ins&&(dly (dsAt l p).s.ins||neutral (dsAt l q).s.ins||(dsAt l p).un.contains q))) &&
 r.all (fun p=>!dly (dsAt l p).s.ins||(dsAt l p).un.isEmpty) &&
 r.all (fun p=>(dsAt l p).un.all fun k=>decide (k<p)) &&
 r.all (fun p=>(edges ops l p).all fun q=>(dp.getD p []).contains q)
theorem Qw7 {P:Program} {ops:Array Oper} {l:List DS} (h:Qsr P ops l=true):∃dp,DrwOK P ops l dp:=by
 unfold Qsr at h
 simp only [Xac,decide_eq_true_eq,Xbb,Xd3] at h
 obtain ⟨⟨⟨⟨⟨⟨⟨⟨⟨h1,h2⟩,h3⟩,h4⟩,h5⟩,h6⟩,h7⟩,h8⟩,h9⟩,h10⟩:=h
 refine ⟨Qw6 ops l l.length [],h1,fun p hp => ?_,fun p q hp hq e => ?_,h4,h5,fun p hp q hq => ?_,fun p hp q hq => ?_,fun p hp hd => ?_,h9,fun p hp q hq=>by have:=h10 p hp q hq;rwa [Xdm] at this⟩
 ·have:=h2 p hp
  split at this
  ·exact ⟨_,by assumption,this⟩
  ·cases this
 ·rw [←h3 p hp,←h3 q hq,e]
 ·have:=h6 p hp q hq
  simp only [Xcm,Xdm,List.any_eq_true] at this
  exact this
 ·have:=h7 p hp q hq
  simp only [Xcm,Xac,Xdm] at this
  rcases this with h|⟨⟨h,k⟩,m⟩
  ·exact .inl h
  ·exact .inr ⟨h,k,by rcases m with (m|m)|m <;> simp [m]⟩
 ·have:=h8 p hp
  rw [hd] at this
  simpa using this
theorem Qgw {a b:Step} (h:apart a b=true):(∀t∈a.wr,t∉b.wr∧t∉b.rd)∧∀t∈b.wr,t∉a.rd:=by
 unfold apart at h
 simp only [Xac,Xbb,Xcl,List.contains_eq_mem,decide_eq_false_iff_not] at h
 exact h
theorem Wfv {P:Program} {ops:Array Oper} {l:List DS} {dp:List (List Nat)} (hk:DrwOK P ops l dp) {L:Nat→Prop} (hL:∀p,L p→p<l.length→∀q∈edges ops l p,L q):
  ∀p,p<l.length→(∀q∈edges ops l p,L q)→∀q∈dp.getD p [],L q:=by
 intro p
 induction p using Nat.strongRecOn with
 |_ p ih=>
  intro hp he q hq
  rcases hk.dep p hp q hq with hq|⟨r,hr,hq⟩
  ·exact he q hq
  ·have hrp:=hk.edge p hp r hr
   exact ih r hrp X0o (hL r (he r hr) X0o) q hq
end
section
variable (G:GV) (call:FuncId→List V→Objs→Option (V×Objs))
def rdAt (l:List DS) (R:Nat→List V) (S:Nat→Objs) (k:Nat):Rd:=
 if (wanted (R k) (dsAt l k).s.gd).getD false then reads (arg G (R k)) (S k) (dsAt l k).s.ins else .none
def Qqx (past:Nat→Rd) (d:DS) (J J':List V) (U U':Objs):Prop:=
 ∃U0 U1,Qg8 U ((d.un.map past).filterMap Rd.cell)=some U0∧Qb4 G call d.s J U0=some (J',U1)∧Qe0 U1 ((d.un.map past).filterMap Rd.cell)=some U'∧∀k∈d.un,stable U U' (past k)=true
theorem Qss:∀(l:List DS) (past:List Rd) (J:List V) (U:Objs) (ρn:List V) (σn:Objs),Qg9 G call past l J U=some (ρn,σn)→
  ∃(R:Nat→List V) (S:Nat→Objs),R 0=J∧S 0=U∧R l.length=ρn∧S l.length=σn∧
   ∀j,j<l.length→Qqx G call (fun k=>(past++(List.range j).map (rdAt G l R S)).getD k .none) (dsAt l j) (R j) (R (j+1)) (S j) (S (j+1))
 |[],past,J,U,ρn,σn,h=>by
  simp only [Qg9,Xah,Prod.mk.injEq] at h
  obtain ⟨rfl,rfl⟩:=h
  exact ⟨fun _=>J,fun _=>U,rfl,rfl,rfl,rfl,fun j hj=>absurd hj (by simp)⟩
 |d::l,past,J,U,ρn,σn,h=>by
  simp only [Qg9,Xaa,Xab] at h
  obtain ⟨U0,h0,⟨J1,U1⟩,h1,U',h2,h3⟩:=h
  split at h3
  ·rename_i hst
   obtain ⟨R,S,hR,hS,hRn,hSn,hrest⟩:=Qss l _ _ _ _ _ h3
   refine ⟨fun | 0=>J|j+1=>R j,fun | 0=>U|j+1=>S j,rfl,rfl,hRn,hSn,fun j hj => ?_⟩
   cases j with
   |zero=>
    refine ⟨U0,U1,?_,?_,?_,?_⟩
    ·show Qg8 U ((d.un.map _).filterMap Rd.cell)=some U0
     simpa using h0
    ·show Qb4 G call d.s J U0=some (R 0,U1)
     rw [hR];exact h1
    ·show Qe0 U1 _=some (S 0)
     rw [hS]
     show Qe0 U1 ((d.un.map _).filterMap Rd.cell)=some U'
     simpa using h2
    ·intro k hk
     show stable U (S 0) _=true
     rw [hS]
     have:=Xbb.1 hst (past.getD k .none) (Xbc.2 ⟨k,hk,rfl⟩)
     simpa using this
   |succ j=>
    have:=hrest j (by simpa using hj)
    have e:(fun k=>((past++[if (wanted J d.s.gd).getD false=true then reads (arg G J) U d.s.ins else .none])++(List.range j).map (rdAt G l R S)).getD k .none)=
      fun k=>(past++(List.range (j+1)).map (rdAt G (d::l) (fun | 0=>J|j+1=>R j) (fun | 0=>U|j+1=>S j))).getD k .none:=by
     rw [List.range_succ_eq_map,Xak,Xce,Xa2]
     rfl
    rw [e] at this
    exact this
  ·cases h3
end
mutual
theorem V.beq_eq:∀(x y:V),V.beq x y=true→x=y
 | .any,y,h=>by cases y <;> simp [V.beq] at h <;> rfl
 | .undef,y,h=>by cases y <;> simp [V.beq] at h <;> rfl
 | .nilp,y,h=>by cases y <;> simp [V.beq] at h <;> rfl
 | .nils,y,h=>by cases y <;> simp [V.beq] at h <;> rfl
 | .nili,y,h=>by cases y <;> simp [V.beq] at h <;> rfl
 | .nilf,y,h=>by cases y <;> simp [V.beq] at h <;> rfl
 | .nilm,y,h=>by cases y <;> simp [V.beq] at h <;> rfl
 | .bool a,y,h=>by cases y <;> simp [V.beq] at h;rw [h]
 | .int k a,y,h=>by cases y <;> simp [V.beq] at h;rw [h.1,h.2]
 | .str a,y,h=>by cases y <;> simp [V.beq] at h;rw [h]
 | .ptr a i,y,h=>by cases y <;> simp [V.beq] at h;rw [h.1,h.2]
 | .eptr a i,y,h=>by
  cases y <;> simp [V.beq] at h
  rw [V.beqs_eq _ _ h.1,h.2]
 | .sl a i,y,h=>by
  cases y <;> simp [V.beq] at h
  rw [V.beqs_eq _ _ h.1,h.2]
 | .hs a b c d e,y,h=>by cases y <;> simp [V.beq] at h;obtain ⟨⟨⟨⟨h1,h2⟩,h3⟩,h4⟩,h5⟩:=h;rw [h1,h2,h3,h4,h5]
 | .agg a,y,h=>by
  cases y <;> simp [V.beq] at h
  rw [V.beqs_eq _ _ h]
 | .tup a,y,h=>by
  cases y <;> simp [V.beq] at h
  rw [V.beqs_eq _ _ h]
 | .ifc t a,y,h=>by
  cases y <;> simp [V.beq] at h
  rw [h.1,V.beq_eq _ _ h.2]
 | .fn f a b,y,h=>by
  cases y <;> simp [V.beq] at h
  rw [h.1.1,V.beqs_eq _ _ h.1.2,V.beqs_eq _ _ h.2]
 | .mp a,y,h=>by cases y <;> simp [V.beq] at h;rw [h]
theorem V.beqs_eq:∀(x y:List V),V.beqs x y=true→x=y
 |[],[],_=>rfl
 |[],_::_,h=>by simp [V.beqs] at h
 |_::_,[],h=>by simp [V.beqs] at h
 |x::xs,y::ys,h=>by
  simp only [V.beqs,Xac] at h
  rw [V.beq_eq x y h.1,V.beqs_eq xs ys h.2]
end
section
variable {P:Program} {M:Mem} {Z:Plc} {X:Nat→Prop} {D:Own} {w:World} {us:List Value} {J:List V} {U:Objs}
theorem Qw8 {v:Value} {xs:List V} {c c':Cap} (h:Rep M Z v (.sl xs c)) (hc:c'≠.fx) (hg:∀s,c'≠.gr s):Rep M Z v (.sl xs c'):=by
 cases h with
 |sl0 a _ _=>exact .sl0 a c' hg
 |sl _ _ b off cap sz us h1 h2 h3 h4 h5 h6=>exact .sl xs c' b off cap sz us h1 h2 h3 h4 h5 (fun e=>absurd e hc)
theorem Qi2 {U:Objs} {o o':Nat} {x:O} (h:o≠o'):(U.set o x)[o']? = U[o']? := Xba h
theorem Qkc {cs:List V} {o off:Nat} {y:V} (ho:U[o]? = some (.cells cs)) {o' i:Nat} : lkAt (U.set o (.cells (cs.set off y))) o' i↔if (o',i)=(o,off) then (y.isLk=true∧off<cs.length) else lkAt U o' i:=by
 have hol:o<U.length:=(Xaf.1 ho).1
 by_cases hoo:o=o'
 ·subst hoo
  by_cases hi:off=i
  ·subst hi
   rw [if_pos rfl]
   constructor
   ·rintro ⟨ds,x,h1,h2,h3⟩
    rw [Xaq hol] at h1
    cases h1
    rw [Xbd] at h2
    rw [if_pos rfl] at h2
    split at h2
    ·cases h2;exact ⟨h3,by assumption⟩
    ·cases h2
   ·rintro ⟨h1,h2⟩
    exact ⟨_,y,Xaq hol,by rw [Xaq h2],h1⟩
  ·rw [if_neg (fun e=>hi (by cases e;rfl))]
   constructor
   ·rintro ⟨ds,x,h1,h2,h3⟩
    rw [Xaq hol] at h1
    cases h1
    rw [Xba hi] at h2
    exact ⟨cs,x,ho,h2,h3⟩
   ·rintro ⟨ds,x,h1,h2,h3⟩
    rw [ho] at h1;cases h1
    exact ⟨_,x,Xaq hol,by rw [Xba hi];exact h2,h3⟩
 ·rw [if_neg (fun e=>hoo (by cases e;rfl))]
  unfold lkAt
  rw [Qi2 hoo]
theorem Qo1:∀(l:List (Nat×Nat)) (U U0:Objs),Qg8 U l=some U0→(St M Z X D w us J U→St M Z X D w us J U0)∧U0.length=U.length∧∀o i,lkAt U0 o i→lkAt U o i∨(o,i)∈l
 |[],U,U0,h=>by
  simp only [Qg8,Xah] at h
  subst h
  exact ⟨id,rfl,fun o i h=>.inl h⟩
 |(o,off)::r,U,U0,h=>by
  simp only [Qg8] at h
  split at h
  ·rename_i cs hcs
   split at h
   ·rename_i xs c hc
    obtain ⟨h1,h2,h3⟩:=Qo1 r _ _ h
    have ho:=Qbu hcs
    refine ⟨fun hs=>h1 (hs.weakCell ho hc rfl (fun v hr=>Qw8 hr (by simp) (by simp)) (fun v => ?_)),by rw [h2,Xdb],fun o' i hl => ?_⟩
    ·exact Qiz (fun xs s e=>by cases e)
    ·rcases h3 o' i hl with hl|hl
     ·rw [Qkc ho] at hl
      split at hl
      ·rename_i e;right;rw [e];exact Xaw ..
      ·exact .inl hl
     ·exact .inr (Xax _ hl)
   ·cases h
  ·cases h
theorem Qo2:∀(l:List (Nat×Nat)) (U U0:Objs),Qe0 U l=some U0→(St M Z X D w us J U→St M Z X D w us J U0)∧U0.length=U.length∧(∀o i,lkAt U0 o i→lkAt U o i∧(o,i)∉l)∧∀p∈l,lkAt U p.1 p.2
 |[],U,U0,h=>by
  simp only [Qe0,Xah] at h
  subst h
  exact ⟨id,rfl,fun o i h=>⟨h,by simp⟩,fun p hp=>by simp at hp⟩
 |(o,off)::r,U,U0,h=>by
  simp only [Qe0] at h
  split at h
  ·rename_i cs hcs
   split at h
   ·rename_i xs hc
    obtain ⟨h1,h2,h3,h4⟩:=Qo2 r _ _ h
    have ho:=Qbu hcs
    refine ⟨fun hs=>h1 (hs.weakCell ho hc rfl (fun v hr=>Qw8 hr (by simp) (by simp)) (fun v => ?_)),by rw [h2,Xdb],fun o' i hl => ?_,fun p hp => ?_⟩
    ·exact Qiz (fun xs s e=>by cases e)
    ·obtain ⟨hl,hn⟩:=h3 o' i hl
     rw [Qkc ho] at hl
     split at hl
     ·exact absurd hl.1 (by simp [V.isLk])
     ·rename_i hne
      exact ⟨hl,fun hm=>by
       rcases Xay.1 hm with hm|hm
       ·exact hne hm
       ·exact hn hm⟩
    ·rcases Xay.1 hp with rfl|hp
     ·exact ⟨cs,_,ho,hc,rfl⟩
     ·have:=h4 p hp
      rw [Qkc ho] at this
      split at this
      ·exact absurd this.1 (by simp [V.isLk])
      ·exact this
   ·cases h
  ·cases h
theorem St.snoc (h:St M Z X D w us J U) (O:O):St M Z X D w us J (U++[O]):=by
 have key:∀p v x,At Z w us J (U++[O]) p v x→At Z w us J U p v x:=by
  intro p v x ha
  cases p with
  |s i=>exact ha
  |c o i=>
   obtain ⟨b,ws,T,fz,cs,h1,h2,h3,h4,h5⟩:=ha
   rw [Xaz (h.wd.lt_of h1)] at h3
   exact ⟨b,ws,T,fz,cs,h1,h2,h3,h4,h5⟩
 exact ⟨⟨h.wd.mem,fun o b hi=>by
  obtain ⟨O',hO,hr⟩:=h.wd.obj o b hi
  exact ⟨O',by rw [Xaz (h.wd.lt_of hi)];exact hO,hr⟩,h.wd.olt,h.wd.inj,h.wd.xlt,h.wd.xobj,h.wd.kap⟩,h.rep,fun p v x b ha hb=>h.own p v x b (key p v x ha) hb,fun p v x ha=>h.gr p v x (key p v x ha)⟩
theorem St.mapO (h:St M Z X D w us J U) {q:Nat} {cs:List V} (hι0:Z q=none) (hq:U[q]? = some (.cells cs)) (ars:Array Value) (T:TypeId) (fz:Nat×Nat) (hr:Reps M Z (ars.toList.take cs.length) cs)
  (hfz:∀i,i<cs.length→Qbp fz i=false) (hone:∀c∈cs,c.one=true) (hno:∀c∈cs,∀v,ownB v c=none):
  ∃M' Z',Ext X M Z w M' Z' (Qcm w (.cells ars T fz))∧Z' q=some w.heap.size∧St M' Z' X D (Qcm w (.cells ars T fz)) us J U∧∀o,o≠q→Z' o=Z o:=by
 have hst:=h.push (.cells ars T fz) [] (fun i u hu=>by simp at hu)
 have hM:=h.wd.pushM_le []
 have hι:PlcLe Z (fun o=>if o=q then some w.heap.size else Z o):=⟨fun o b hb=>by
  by_cases ho:o=q
  ·subst ho;rw [hι0] at hb;cases hb
  ·simp only [ho,if_false];exact hb⟩
 refine ⟨Qiw M w.heap.size [],fun o=>if o=q then some w.heap.size else Z o,⟨hM,hι,fun b i hx=>Qdk (by have:=h.wd.xlt b hx;omega),by rw [Qcc];omega,fun b hx=>Qc5 w _ (h.wd.xlt b hx),rfl,rfl,rfl⟩,by simp,⟨⟨hst.wd.mem,?_,?_,?_,hst.wd.xlt,?_,?_⟩,hst.rep.mono (.refl _) hι,?_,?_⟩,fun o ho=>by simp [ho]⟩
 ·intro o b hb
  by_cases ho:o=q
  ·subst ho
   simp only [if_true] at hb
   cases hb
   refine ⟨.cells cs,hq,ars,T,fz,Qh3 w _,hr.mono hM hι,hfz,fun i=>by rw [Qf4];simp,hone⟩
  ·simp only [ho,if_false] at hb
   obtain ⟨O,hO,hor⟩:=h.wd.obj o b hb
   exact ⟨O,hO,hor.push h.wd hM (fun b i hb=>Qdk X0o) hι _ (h.wd.olt o b hb)⟩
 ·intro o b hb
  by_cases ho:o=q
  ·simp only [ho,if_true] at hb;cases hb;rw [Qcc];omega
  ·simp only [ho,if_false] at hb;exact hst.wd.olt o b hb
 ·intro o o' b hb hb'
  by_cases ho:o=q
  ·by_cases ho':o'=q
   ·rw [ho,ho']
   ·simp only [ho,if_true] at hb;simp only [ho',if_false] at hb'
    cases hb;exact absurd hb' (inew h.wd o')
  ·by_cases ho':o'=q
   ·simp only [ho,if_false] at hb;simp only [ho',if_true] at hb'
    cases hb';exact absurd hb (inew h.wd o)
   ·simp only [ho,if_false] at hb;simp only [ho',if_false] at hb'
    exact h.wd.inj o o' b hb hb'
 ·intro o b hb
  by_cases ho:o=q
  ·simp only [ho,if_true] at hb;cases hb;intro hx;have:=h.wd.xlt _ hx;omega
  ·simp only [ho,if_false] at hb;exact h.wd.xobj o b hb
 ·intro b p hp
  obtain ⟨h1,h2,h3⟩:=h.wd.kap b p hp
  refine ⟨h1,fun o ho => ?_,by rw [Qcc];omega⟩
  by_cases hoo:o=q
  ·simp only [hoo,if_true] at ho;cases ho;omega
  ·simp only [hoo,if_false] at ho;exact h2 o ho
 all_goals
  have key:∀p v x,At (fun o=>if o=q then some w.heap.size else Z o) (Qcm w (.cells ars T fz)) us J U p v x→At Z (Qcm w (.cells ars T fz)) us J U p v x∨ownB v x=none:=by
   intro p v x ha
   cases p with
   |s i=>exact .inl ha
   |c o i=>
    obtain ⟨b,ws,T',fz',cs',h1,h2,h3,h4,h5⟩:=ha
    by_cases ho:o=q
    ·subst ho
     rw [hq] at h3
     cases h3
     exact .inr (hno x (Xat h5) v)
    ·simp only [ho,if_false] at h1
     exact .inl ⟨b,ws,T',fz',cs',h1,h2,h3,h4,h5⟩
 ·intro p v x b ha hb
  rcases key p v x ha with ha|hn
  ·exact hst.own p v x b ha hb
  ·rw [hn] at hb;cases hb
 ·intro p v x ha
  rcases key p v x ha with ha|hn
  ·exact hst.gr p v x ha
  ·exact .of_none hn
end
section
variable {P:Program} {ops:Array Oper} {l:List DS} {dp:List (List Nat)} {G:GV} {call:FuncId→List V→Objs→Option (V×Objs)} {R:Nat→List V} {S:Nat→Objs}
def Canon (G:GV) (call:FuncId→List V→Objs→Option (V×Objs)) (l:List DS) (R:Nat→List V) (S:Nat→Objs):Prop:=
 ∀j,j<l.length→Qqx G call (rdAt G l R S) (dsAt l j) (R j) (R (j+1)) (S j) (S (j+1))
theorem Wbt (hk:DrwOK P ops l dp) (h:∀j,j<l.length→Qqx G call (fun k=>(([]:List Rd)++(List.range j).map (rdAt G l R S)).getD k .none) (dsAt l j) (R j) (R (j+1)) (S j) (S (j+1))):Canon G call l R S:=by
 intro j hj
 obtain ⟨U0,U1,h1,h2,h3,h4⟩:=h j hj
 have e:∀k∈(dsAt l j).un,(([]:List Rd)++(List.range j).map (rdAt G l R S)).getD k .none=rdAt G l R S k:=fun k hk'=>by
  have hlt:=hk.unlt j hj k hk'
  simp [List.getD,hlt]
 have em:(dsAt l j).un.map (fun k=>(([]:List Rd)++(List.range j).map (rdAt G l R S)).getD k .none)=(dsAt l j).un.map (rdAt G l R S):=Xbk e
 rw [em] at h1 h3
 exact ⟨U0,U1,h1,h2,h3,fun k hk'=>by rw [←e k hk'];exact h4 k hk'⟩
theorem Canon.frame (h:Canon G call l R S) {p:Nat} (hp:p<l.length):(R (p+1)).length=(R p).length∧∀t,t∉(dsAt l p).s.wr→(R (p+1))[t]? = (R p)[t]? := by
 obtain ⟨U0,U1,_,h2,_⟩:=h p hp
 exact Qf9 h2
theorem Canon.len (h:Canon G call l R S):∀p,p≤l.length→(R p).length=(R 0).length
 |0,_=>rfl
 |p+1,hp=>(h.frame X0o).1.trans (h.len p X0o)
def Qmg (l:List DS) (R:Nat→List V) (L:Nat→Prop) (J:List V):Prop:=
 J.length=(R 0).length∧∀t m,m≤l.length→(∀q,q<m→t∈(dsAt l q).s.wr→L q)→(∀q,m≤q→q<l.length→t∈(dsAt l q).s.wr→¬L q)→J[t]? = (R m)[t]?
structure Closed (l:List DS) (dp:List (List Nat)) (L:Nat→Prop):Prop where
 lt:∀p,L p→p<l.length
 dep:∀p,L p→∀q∈dp.getD p [],L q
variable {L:Nat→Prop} {J:List V}
theorem Qw9 (hk:DrwOK P ops l dp) (hL:Closed l dp L) (hs:Qmg l R L J) {p:Nat} (hp:p<l.length) (hn:¬L p) (hd:∀q∈dp.getD p [],L q) {t:Nat} (ht:t∈(dsAt l p).s.rd∨t∈(dsAt l p).s.wr):J[t]? = (R p)[t]? := by
 refine hs.2 t p X0o (fun q hq hw => ?_) (fun q hq hql hw hLq => ?_)
 ·rcases hk.pair p hp q hq with h|⟨h,_⟩
  ·exact hd q h
  ·have:=(Qgw h).1 t hw
   rcases ht with ht|ht
   ·exact absurd ht this.2
   ·exact absurd ht this.1
 ·rcases Xby p q with hpq|hpq
  ·rcases hk.pair q hql p hpq with h|⟨h,_⟩
   ·exact hn (hL.dep q hLq p h)
   ·rcases ht with ht|ht
    ·exact (Qgw h).2 t hw ht
    ·exact ((Qgw h).1 t ht).1 hw
  ·have:q=p:=by omega
   subst this
   exact hn hLq
theorem Qxa (hk:DrwOK P ops l dp) (hc:Canon G call l R S) (hL:Closed l dp L) (hs:Qmg l R L J) {p:Nat} (hp:p<l.length) (hn:¬L p) {J':List V} (hlen:J'.length=J.length)
  (hw:∀t∈(dsAt l p).s.wr,J'[t]? = (R (p+1))[t]?) (hnw:∀t,t∉(dsAt l p).s.wr→J'[t]? = J[t]?):Qmg l R (fun q=>L q∨q=p) J':=by
 refine ⟨hlen.trans hs.1,fun t m hm h1 h2 => ?_⟩
 by_cases ht:t∈(dsAt l p).s.wr
 ·have hpm:p<m:=by
   rcases Xby p m with h|h
   ·exact h
   ·exact absurd (.inr rfl) (h2 p h hp ht)
  rw [hw t ht]
  have key:∀k,p+1+k≤m→(R (p+1))[t]? = (R (p+1+k))[t]? := by
   intro k
   induction k with
   |zero=>intro _;rfl
   |succ k ih=>
    intro hkm
    have hj:p+1+k<l.length:=by omega
    rw [ih X0o,show p+1+(k+1)=(p+1+k)+1 from rfl,(hc.frame hj).2 t ?_]
    intro hwj
    have hLj:=(h1 (p+1+k) X0o hwj).resolve_right X0o
    rcases hk.pair (p+1+k) hj p X0o with h|⟨h,_⟩
    ·exact hn (hL.dep _ hLj p h)
    ·exact ((Qgw h).1 t ht).1 hwj
  have:=key (m - (p+1)) X0o
  rwa [show p+1+(m - (p+1))=m from by omega] at this
 ·rw [hnw t ht]
  refine hs.2 t m hm (fun q hq hwq => ?_) (fun q hq hql hwq hLq=>h2 q hq hql hwq (.inl hLq))
  rcases h1 q hq hwq with h|rfl
  ·exact h
  ·exact absurd hwq ht
def noGr (x:V):Prop:=∀xs s,x≠.sl xs (.gr s)
def Same (U U':Objs):Rd→Prop
 | .same ex o off n=>∃cs ds,Objs.get U o=some cs∧Objs.get U' o=some ds∧cs.length=ds.length∧(if ex then (cs.drop off).take n=(ds.drop off).take n else ((cs.drop off).take n).map V.ng=((ds.drop off).take n).map V.ng)
 | .made o=>∃cs,Objs.get U o=some cs∧Objs.get U' o=some cs
 |_=>True
def Quiet (U:Objs):Rd→Prop
 | .same true o off n=>∀cs,Objs.get U o=some cs→∀x∈(cs.drop off).take n,noGr x
 | .made o=>∀cs,Objs.get U o=some cs→∀x∈cs,noGr x
 |_=>True
theorem Qqy {U U':Objs} {r:Rd} (h:stable U U' r=true):Same U U' r:=by
 cases r with
 |none=>trivial
 |took=>trivial
 |same ex o off n=>
  simp only [stable] at h
  split at h
  ·rename_i cs ds h1 h2
   simp only [Xac,decide_eq_true_eq] at h
   refine ⟨cs,ds,h1,h2,h.1,?_⟩
   cases ex
   ·simp only [Xaj,if_false] at h ⊢; exact V.beqs_eq _ _ h.2
   ·simp only [if_true] at h ⊢; exact V.beqs_eq _ _ h.2
  ·cases h
 |made o=>
  simp only [stable] at h
  split at h
  ·rename_i cs ds h1 h2
   have:=V.beqs_eq _ _ h
   subst this
   exact ⟨cs,h1,h2⟩
  ·cases h
theorem Same.trans {U U' U'':Objs} {r:Rd} (h:Same U U' r) (k:Same U' U'' r):Same U U'' r:=by
 cases r with
 |none=>trivial
 |took=>trivial
 |same ex o off n=>
  obtain ⟨cs,ds,h1,h2,h3,h4⟩:=h
  obtain ⟨ds',es,k1,k2,k3,k4⟩:=k
  rw [h2] at k1;cases k1
  refine ⟨cs,es,h1,k2,h3.trans k3,?_⟩
  cases ex <;> simp only [Xaj,if_false,if_true] at h4 k4 ⊢ <;> exact h4.trans k4
 |made o=>
  obtain ⟨cs,h1,h2⟩:=h
  obtain ⟨ds,k1,k2⟩:=k
  rw [h2] at k1;cases k1
  exact ⟨cs,h1,k2⟩
theorem Quiet.same {U U':Objs} {r:Rd} (h:Quiet U r) (k:Same U U' r):Quiet U' r:=by
 cases r with
 |none=>trivial
 |took=>trivial
 |same ex o off n=>
  cases ex with
  |false=>trivial
  |true=>
   obtain ⟨cs,ds,k1,k2,k3,k4⟩:=k
   intro es he x hx
   rw [k2] at he;cases he
   simp only [if_true] at k4
   rw [←k4] at hx
   exact h cs k1 x hx
 |made o=>
  obtain ⟨cs,k1,k2⟩:=k
  intro es he x hx
  rw [k2] at he;cases he
  exact h cs k1 x hx
inductive Late (U:Objs):Objs→Prop
 |stay:Late U U
 |took (o off:Nat) (cs xs:List V) (s:Nat) (h:U[o]? = some (.cells cs)) (hx:cs[off]? = some (.sl xs (.gr s))):Late U (U.set o (.cells (cs.set off (.sl xs .no))))
 |made (cs:List V):Late U (U++[.cells cs])
theorem Qk0 {U:Objs} {o:Nat} {cs:List V} (h:U[o]? = some (.cells cs)):Objs.get U o=some cs:=by unfold Objs.get;rw [h]
theorem Qnd {cs:List V} {off n i:Nat} {y:V} : (((cs.set i y).drop off).take n)=if off≤i∧i<off+n then ((cs.drop off).take n).set (i - off) y else (cs.drop off).take n:=by
 apply Xbz
 intro j
 split
 ·rename_i h
  rw [Xar,Xbd,Xar,Xa6,Xa6,Xbd]
  by_cases hj:j<n
  ·rw [if_pos hj,if_pos hj]
   by_cases hij:i=off+j
   ·subst hij
    rw [show off+j - off=j from by omega]
    simp only [if_true,Xbh,Xa5]
    by_cases hl:off+j<cs.length
    ·rw [if_pos hl,if_pos X0o]
    ·rw [if_neg hl,if_neg X0o]
   ·rw [if_neg hij,if_neg X0o]
  ·rw [if_neg hj,if_neg hj]
   split
   ·rw [if_neg (by simp;omega)]
   ·rfl
 ·rename_i h
  rw [Xar,Xar,Xa6,Xa6,Xbd]
  by_cases hj:j<n
  ·rw [if_pos hj,if_pos hj,if_neg X0o]
  ·rw [if_neg hj,if_neg hj]
theorem Qqz {α:Type} {l:List α} {i:Nat} {x:α} (h:l[i]? = some x):l.set i x=l:=by
 apply Xbz
 intro j
 rw [Xbd]
 split
 ·rename_i hij
  subst hij
  rw [if_pos (Xaf.1 h).1,h]
 ·rfl
theorem Qxb {U U':Objs} {r:Rd} (hl:Late U U') (hq:Quiet U r) (hs:∃U0,Same U0 U r):Same U U' r:=by
 obtain ⟨U0,hs⟩:=hs
 cases r with
 |none=>trivial
 |took=>trivial
 |same ex o off n=>
  obtain ⟨_,cs,_,hcs,_,_⟩:=hs
  cases hl with
  |stay=>exact ⟨cs,cs,hcs,hcs,rfl,by split <;> rfl⟩
  |made ds=>
   have h1:=Qbu hcs
   refine ⟨cs,cs,hcs,Qk0 ?_,rfl,by split <;> rfl⟩
   rw [Xaz (Xaf.1 h1).1];exact h1
  |took o' off' ds xs s h hx=>
   by_cases ho:o'=o
   ·subst ho
    have h1:=Qbu hcs
    rw [h] at h1;cases h1
    have hol:=(Xaf.1 h).1
    refine ⟨cs,_,hcs,Qk0 (Xaq hol),by simp,?_⟩
    rw [Qnd]
    by_cases hin:off≤off'∧off'<off+n
    ·rw [if_pos hin]
     have hg:((cs.drop off).take n)[off' - off]? = some (.sl xs (.gr s)):=by
      rw [Xar,if_pos X0o,Xa6,show off+(off' - off)=off' from by omega];exact hx
     cases ex with
     |true=>exact absurd rfl (hq cs hcs _ (Xat hg) xs s)
     |false=>
      simp only [Xaj,if_false]
      rw [Xcf]
      refine (Qqz ?_).symm
      rw [Xan,hg];rfl
    ·rw [if_neg hin]
     split <;> rfl
   ·have h1:=Qbu hcs
    exact ⟨cs,cs,hcs,Qk0 (by rw [Qi2 ho];exact h1),rfl,by split <;> rfl⟩
 |made o=>
  obtain ⟨cs,_,hcs⟩:=hs
  have h1:=Qbu hcs
  cases hl with
  |stay=>exact ⟨cs,hcs,hcs⟩
  |made ds=>
   refine ⟨cs,hcs,Qk0 ?_⟩
   rw [Xaz (Xaf.1 h1).1];exact h1
  |took o' off' ds xs s h hx=>
   by_cases ho:o'=o
   ·subst ho
    rw [h] at h1;cases h1
    exact absurd rfl (hq cs hcs _ (Xat hx) xs s)
   ·exact ⟨cs,hcs,Qk0 (by rw [Qi2 ho];exact h1)⟩
end
end Go.Ev
