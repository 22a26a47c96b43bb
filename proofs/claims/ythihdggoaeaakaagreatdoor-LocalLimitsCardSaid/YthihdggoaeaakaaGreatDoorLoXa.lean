/- Part of a proof: the small language, and functions of the program on it. -/
import Derived.Orders
import Derived.Below
import Derived.Wp
import Derived.Laws.StructEq
import Derived.Laws.BytesString
import Derived.Laws.Pointers
import Derived.Great.BuildSlice
import Derived.Laws.MakeOwn
import Derived.Deep.AppendSrc
import Derived.Lib.ConvBytes
set_option linter.all false
def X0K{p:Prop}(h:p:=by kernel_rfl):p:=h
def yZ{p:Prop}(h:p:=by simp;omega):p:=h
def u0{p:Prop}(h:p:=by simp):p:=h
abbrev A9a:=@if_pos
abbrev O3:=@if_neg
abbrev A9c:=@if_true
abbrev A9d:=@if_false
abbrev A9e:=@congrArg
abbrev A9f:=@decide_eq_true_eq
abbrev A9g:=@Prod.mk.injEq
abbrev xG:=@decide_eq_true
abbrev A9i:=@decide_eq_false
abbrev w4:=@beq_iff_eq
abbrev pM:=@of_decide_eq_true
abbrev R7:=@or_false
abbrev K9:=@UInt8.toNat_lt
abbrev Dx:=@Classical.byContradiction
abbrev W:=@some
abbrev T:=false
abbrev AQ:=Option Nat
abbrev wi:=List Nat
abbrev wk:=Array Go.Value
abbrev vB:=List Go.Value
abbrev u_:=List Int
abbrev T9b:=List (List UInt8)
abbrev u2:=List UInt8
def Y{p:Prop}(h:p:=by omega):p:=h
abbrev u7:=@Option.bind_eq_bind
abbrev vh:=@Option.bind_eq_some_iff
abbrev va:=@Option.bind_some
abbrev vO:=@List.getElem?_eq_getElem
abbrev vc:=@Bool.and_eq_true
abbrev vD:=@Bool.false_eq_true
abbrev wy:=@List.getElem?_eq_some_iff
abbrev vR:=@List.mem_singleton
abbrev wh:=@List.mem_cons_of_mem
abbrev vW:=@List.length_append
abbrev vU:=@Option.some.injEq
abbrev vT:=@List.length_cons
abbrev wA:=@List.mem_cons_self
abbrev vE:=@Nat.le_refl
abbrev xB:=@Option.map_eq_some_iff
abbrev wq:=@List.length_map
abbrev wL:=@List.append_assoc
abbrev wt:=@List.append_nil
abbrev y9:=@List.getD_eq_getElem?_getD
abbrev vZ:=@List.mem_cons
abbrev wa:=@List.mem_map
abbrev xP:=@List.getElem?_take
abbrev AH:=@List.getElem?_append_left
abbrev Aa:=@List.getElem?_set_self
abbrev xf:=@List.mem_append
abbrev ym:=@List.getElem?_map
abbrev xJ:=@List.length_nil
abbrev xQ:=@List.nil_append
abbrev xw:=@List.mapM_cons
abbrev xc:=@List.map_cons
abbrev Ah:=@List.mem_of_getElem?
abbrev zi:=@Int.toNat_natCast
abbrev B0:=@List.getElem?_eq_none
abbrev DQ:=@List.getElem?_append_right
abbrev zj:=@List.length_drop
abbrev wV:=@Nat.zero_le
abbrev CP:=@List.length_eq_zero_iff
abbrev yW:=@List.map_append
abbrev xr:=@Nat.zero_add
abbrev AR:=@List.flatMap_cons
abbrev CQ:=@List.getElem?_set_ne
abbrev AI:=@List.all_eq_true
abbrev AJ:=@List.cons_append
abbrev AZ:=@List.getElem?_set
abbrev AS:=@List.not_mem_nil
abbrev Fa:=@Array.getElem?_eq_some_iff
abbrev AK:=@Option.pure_def
abbrev DY:=@Nat.mul_le_mul_right
abbrev DR:=@Array.length_toList
abbrev A0:=@Option.map_some
abbrev Cr:=@Option.getD_some
abbrev Ab:=@Bool.true_and
abbrev zr:=@Nat.le_trans
abbrev DT:=@List.getElem?_drop
abbrev Gs:=@List.getElem?_cons_zero
abbrev ET:=@List.mem_append_left
abbrev Gt:=@List.length_singleton
abbrev Hf:=@List.eq_of_mem_replicate
abbrev Fb:=@List.map_congr_left
abbrev Xbx:=@List.map_nil
abbrev CB:=@Bool.and_true
abbrev Gu:=@List.replicate_succ
abbrev BG:=@Nat.le_mul_of_pos_right
abbrev Hg:=@Array.getElem?_toList
abbrev Hh:=@List.set_append_right
abbrev Ew:=@Option.some.inj
abbrev C3:=@Bool.false_or
abbrev C4:=@Bool.and_self
abbrev Fc:=@List.mem_flatMap
abbrev CR:=@Bool.true_or
abbrev KP:=@List.drop_eq_getElem_cons
abbrev Hi:=@Nat.mul_le_mul_left
abbrev AT:=@Nat.not_lt
abbrev AU:=@Array.ext'
abbrev JF:=@List.take_of_length_le
abbrev C5:=@Bool.or_true
abbrev Gw:=@List.filter_cons
abbrev Hj:=@Nat.lt_of_lt_of_le
abbrev JG:=@List.mem_append_right
abbrev JH:=@List.length_filter_le
abbrev GQ:=@List.length_take
abbrev OQ:=@Int.mul_le_mul_of_nonneg_left
abbrev Hk:=@List.ext_getElem?
abbrev JI:=@List.getElem?_append
abbrev M7:=@Bool.eq_false_or_eq_true
abbrev GR:=@List.length_set
abbrev OR:=@Array.getD_eq_getD_getElem?
abbrev KQ:=@List.getElem?_toArray
abbrev JJ:=@List.replicate_zero
abbrev KR:=@List.length_replicate
abbrev zH:=@Bool.or_eq_true
abbrev Hl:=@List.take_length
abbrev Hm:=@Int.natCast_succ
abbrev M8:=@List.getElem?_cons_succ
abbrev Fe:=@List.mapM_nil
abbrev EU:=@Nat.sub_self
abbrev M9:=@List.sum_replicate_nat
abbrev Xcz:=@List.mem_or_eq_of_mem_set
abbrev KS:=@Array.toList_append
abbrev KT:=@List.filterMap_cons
abbrev KU:=@List.mem_filterMap
abbrev I4:=@List.mem_filter
abbrev KV:=@List.map_replicate
abbrev GU:=@Nat.mul_assoc
abbrev JK:=@Option.getD_none
abbrev OT:=@Nat.le_mul_of_pos_left
abbrev Qr:=@Array.getElem?_eq_getElem
abbrev Qs:=@List.extract_eq_take_drop
abbrev I5:=@Bool.false_and
abbrev GW:=@Nat.succ_mul
abbrev T4:=@Int.mul_le_mul_of_nonneg_right
abbrev M_:=@List.filter_append
abbrev T5:=@Array.getElem?_setIfInBounds
abbrev I6:=@Nat.add_assoc
abbrev Hn:=@Nat.lt_or_ge
abbrev JL:=@List.drop_drop
abbrev JM:=@Bool.and_false
abbrev JN:=@List.drop_zero
abbrev GX:=@Nat.le_succ
abbrev GY:=@Int.le_refl
abbrev T6:=@Int.fdiv_eq_ediv_of_nonneg
abbrev Na:=@List.getElem_mem
abbrev Qt:=@List.mem_iff_getElem?
abbrev I7:=@Nat.mul_comm
abbrev KX:=@List.mem_range
abbrev Nb:=@List.nodup_cons
abbrev Nc:=@List.map_const'
abbrev W':=@Nat.and_two_pow_sub_one_eq_mod
abbrev I8:=@Nat.add_mul
abbrev I9:=@Nat.mul_one
abbrev Qu:=@List.length_flatMap
abbrev OU:=@Array.toList_map
abbrev OV:=@List.any_eq_true
abbrev T7:=@Array.getElem?_eq_none
abbrev T8:=@List.length_eq_one_iff
abbrev T_:=@List.drop_eq_nil_of_le
abbrev Ua:=@List.set_getElem_self
abbrev Xa:=@Array.getElem_setIfInBounds
abbrev KY:=@Nat.add_zero
abbrev Ub:=@List.contains_iff_mem
abbrev OW:=@List.cons.injEq
abbrev JO:=@Nat.mul_pos
abbrev Qv:=@Bool.not_eq_true'
abbrev Qw:=@List.size_toArray
abbrev Nf:=@Bool.or_false
abbrev Ng:=@List.any_cons
abbrev Uc:=@Array.toList_extract
abbrev Ud:=@Bool.or_eq_false_iff
abbrev Xb:=@List.mem_of_find?_eq_some
abbrev Ue:=@List.flatMap_append
abbrev Uf:=@List.length_zipWith
abbrev Xc:=@List.set_eq_of_length_le
abbrev Nh:=@Int.mul_comm
abbrev Ni:=@List.map_map
abbrev OX:=@Bool.not_true
abbrev Qx:=@Nat.div_add_mod
abbrev Xd:=@List.getElem?_replicate
abbrev Xe:=@Nat.exists_eq_add_of_le
abbrev Qy:=@Int.natCast_mul
abbrev Ug:=@List.contains_cons
abbrev Uh:=@Array.size_append
abbrev Ui:=@List.nodup_append
abbrev Qz:=@List.nodup_nil
abbrev QA:=@Nat.mul_le_mul
abbrev OY:=@Nat.sub_zero
abbrev OZ:=@List.set_set
abbrev Xf:=@Array.getElem?_modify
abbrev Uj:=@List.map_toArray
abbrev Uk:=@List.foldl_cons
abbrev Xg:=@List.length_pos_iff
abbrev Xh:=@List.getD_cons_succ
abbrev Xi:=@List.length_reverse
abbrev Xj:=@Nat.pos_of_ne_zero
abbrev QB:=@Nat.zero_mul
abbrev Xk:=@List.map_singleton
abbrev Ul:=@List.take_left
abbrev QC:=@Nat.one_mul
abbrev Um:=@List.all_cons
abbrev Un:=@Int.mul_assoc
abbrev Xl:=@List.isEmpty_iff
abbrev Xm:=@Nat.shiftLeft_eq
abbrev Xn:=@Nat.le_of_not_lt
abbrev Uo:=@Nat.add_comm
namespace Go.Ev
open Go
inductive bU where
 |no|fx|gr (sz:Nat)|lk
 deriving DecidableEq,Repr
inductive V where
 |any|undef
 |bool (b:Bool)|int (k:IntKind) (n:Int)|str (s:List UInt8)
 |c_|ptr (o off:Nat)|ai (cs:List V) (off:Nat)
 |ad|sl (xs:List V) (c:bU)|hs (o off len sz:Nat) (ag:Bool)
 |agg (cs:List V)|aR (vs:List V)
 |bE (t:TypeId) (x:V)|bc
 |fn (f:FuncId) (first caps:List V)|dt
 |mp (o:Nat)|cg
 |hg (o len sz:Nat) (ag:Bool)|eQ (k:Nat) (x:V)
 deriving Repr
abbrev XB:=List (Nat×V)
abbrev AW:=Option V
abbrev uZ:=List V
inductive O where
 |cells (cs:List V)|mp (es:List (V×V))|si (r:List UInt8) (pos:Nat)|gone
 deriving Repr
mutual
def V.beq:V->V->Bool
 | .any,.any | .undef,.undef | .c_,.c_ | .ad,.ad | .bc,.bc | .dt,.dt | .cg,.cg=>true
 | .bool a,.bool b=>a==b
 | .int k a,.int j b=>decide (k=j)&&a==b
 | .str a,.str b=>decide (a=b)
 | .ptr a i,.ptr b j=>a==b&&i==j
 | .ai a i,.ai b j=>V.fj a b&&i==j
 | .sl a i,.sl b j=>V.fj a b&&decide (i=j)
 | .hs a b c d e,.hs h l m n o=>a==h&&b==l&&c==m&&d==n&&e==o
 | .agg a,.agg b=>V.fj a b
 | .aR a,.aR b=>V.fj a b
 | .bE t a,.bE u b=>t==u&&V.beq a b
 | .fn f a b,.fn g c d=>f==g&&V.fj a c&&V.fj b d
 | .mp a,.mp b=>a==b
 | .hg a b c d,.hg h l m n=>a==h&&b==l&&c==m&&d==n
 | .eQ i a,.eQ j b=>i==j&&V.beq a b
 |_,_=>false
def V.fj:uZ->uZ->Bool
 |[],[]=>true
 |x::a,y::b=>V.beq x y&&V.fj a b
 |_,_=>false
end
mutual
def V.rb(n:Nat):V->Bool
 | .ptr o _=>decide (o<n)
 | .hs o _ _ _ _=>decide (o<n)
 | .mp o=>decide (o<n)
 | .ai c _=>V.aL n c
 | .sl d _=>V.aL n d
 | .agg c=>V.aL n c
 | .aR c=>V.aL n c
 | .bE _ x=>V.rb n x
 | .fn _ a b=>V.aL n a&&V.aL n b
 | .hg o _ _ _=>decide (o<n)
 | .eQ _ x=>V.rb n x
 |_=>true
def V.aL(n:Nat):uZ->Bool
 |[]=>true
 |x::a=>V.rb n x&&V.aL n a
end
def V.ng:V->V
 | .sl b _=>.sl b .no
 | .hg o a c d=>.hs o 0 a c d
 |x=>x
def V.aI:V->V
 | .sl a _=>.sl a .no
 |x=>x
def V.dg:V->Bool
 | .sl _ .lk=>true
 |_=>false
def V.cells:V->uZ
 | .agg a=>a
 |x=>[x]
def V.one:V->Bool
 | .any | .undef | .agg _ | .aR _=>false
 |_=>true
def part(ag:Bool)(sz:Nat)(cs:uZ)(off:Nat):AW:=
 if ag then(if off+sz<=cs.length then some (.agg (((cs.drop off).take sz).map V.ng))else none)
 else if sz=1 then cs[off]?.map V.ng else none
def RK:uZ->Nat->uZ->uZ
 |cs,_,[]=>cs
 |[],_,_=>[]
 |_::cs,0,x::a=>x::RK cs 0 a
 |c::cs,n+1,a=>c::RK cs n a
def vk(ag:Bool)(sz:Nat)(cs:uZ):Nat->Nat->Option uZ
 |0,_=>some []
 |n+1,a=>do
  let x <-part ag sz cs a
  let b <-vk ag sz cs n (a+sz)
  pure (x::b)
abbrev hN:=List O
abbrev R6:=Option (V×hN)
def hN.get(I:hN)(o:Nat):Option uZ:=
 match I[o]? with
 |some (.cells a)=>some a
 |_=>none
def fz(n:Nat)(I:hN):Nat->V->AW
 |0,x=>if x.rb n then some x else none
 |f+1,x=>
  if x.rb n then some x else
  match x with
  | .ptr o d=>do
   let e <-hN.get I o
   let m <-e.mapM (fz n I f)
   pure (.ai m d)
  | .hs o d h j k=>do
   let e <-hN.get I o
   let i <-vk k j e h d
   let l <-i.mapM (fz n I f)
   pure (.sl l .no)
  | .hg o h j k=>do
   let e <-hN.get I o
   let i <-vk k j e h 0
   let l <-i.mapM (fz n I f)
   pure (.sl l .no)
  | .ai e d=>do pure (.ai (<-e.mapM (fz n I f)) d)
  | .sl i c=>do pure (.sl (<-i.mapM (fz n I f)) c)
  | .agg e=>do pure (.agg (<-e.mapM (fz n I f)))
  | .aR e=>do pure (.aR (<-e.mapM (fz n I f)))
  | .bE t x=>do pure (.bE t (<-fz n I f x))
  | .fn g a b=>do pure (.fn g (<-a.mapM (fz n I f)) (<-b.mapM (fz n I f)))
  |_=>none
def fzD:Nat:=40
def fb(n:Nat)(I:hN):O->Option O
 | .cells a=>if V.aL n a then some (.cells a)else(a.mapM (fz n I fzD)).map O.cells
 | .mp b=>if V.aL n (b.map Prod.fst)&&V.aL n (b.map Prod.snd)then some (.mp b)else none
 |x=>some x
def ve(n:Nat)(I:hN):Option hN:=(I.take n).mapM (fb n I)
def Fh(n:Nat)(I:hN)(a:wi):Nat->uZ->Option uZ
 |_,[]=>some []
 |i,x::b=>do
  let y <-if a.contains i then fz n I fzD x else some .any
  let c <-Fh n I a (i+1) b
  pure (y::c)
inductive Arg where
 |t (n:Nat)|c (x:V)|g (n:Nat)|f (id:FuncId)
 deriving Repr
inductive CK where
 |b|i|s
 deriving Repr,DecidableEq
inductive iB where
 |no|bool|ptr|row|bE|fn|mp|agg (ks:List CK)
 deriving Repr,DecidableEq
inductive Conv where
 |toInt (k:IntKind)|same|jT|bz|bh|cL
 deriving Repr,DecidableEq
inductive Ins where
 |mv (x:Arg) (tk:Bool)
 |pick (c a b:Arg)
 |alloc (z:List V)
 |box (x:Arg)
 |build (z:List V) (parts:List (Nat×Nat×Arg))
 |aw (ag:Bool) (sz len:Nat) (z:V) (parts:List (Nat×Arg)) (h:Bool)
 |load (ag:Bool) (sz:Nat) (x:Arg)
 |loadT (x:Arg)
 |store (sz:Nat) (p x:Arg) (tk:Bool)
 |dh (x:Arg)
 |bin (op:BinOp) (k:iB) (x y:Arg)
 |un (op:UnOp) (x:Arg)
 |conv (k:Conv) (x:Arg)
 |ga (x:Arg) (lo hi:Option Arg)
 |cut (sz:Nat) (x:Arg) (lo hi mx:Option Arg)
 |gb (n sz:Nat) (ag:Bool) (x:Arg) (lo hi:Option Arg)
 |cu (off:Nat) (x:Arg)
 |field (ag:Bool) (off sz:Nat) (x:Arg)
 |bT (sz:Nat) (x i:Arg)
 |fQ (n sz:Nat) (x i:Arg)
 |idx (x i:Arg)
 |kL (n:Nat) (ag:Bool) (sz:Nat) (x i:Arg)
 |fc (x:Arg)
 |len (x:Arg)
 |app (str ag:Bool) (sz bytes:Nat) (x y:Arg) (tk:Bool)
 |jU (str ag:Bool) (sz bytes:Nat) (x y:Arg)
 |ey (x:Arg)
 |call (f:FuncId) (args:List Arg)
 |dR (x:Arg) (args:List Arg)
 |iZ (f:FuncId) (first caps:List Arg)
 |kg (t:TypeId) (x:Arg)
 |gD (x:Arg) (i:Nat)
 |da (ag:Bool) (sz bytes:Nat) (z:V) (l c:Arg) (h:Bool)
 |mm (mx:Bool) (args:List Arg)
 |gZ
 |uT (kk:CK) (m k x:Arg)
 |kM (kk:CK) (z:V) (m k:Arg) (ok:Bool)
 |d_ (ag:Bool) (sz len:Nat) (z:V) (parts:List (Nat×Arg))
 |mark (x:Arg)
 |no
 |eQ (k:Nat) (x:Arg)
 |cg (k:Nat) (ts:List (TypeId×Bool)) (x:Arg)
 |dS (x:Arg) (ms:List (TypeId×FuncId×Option (Nat×Nat))) (args:List Arg)
 |cw (f:FuncId) (args:List Arg) (j:Nat)
 |kN (x:Arg)
 |kH (x:Arg)
 |lA (str:Bool) (sz:Nat) (x y:Arg)
 |lb (sz:Nat) (z:V) (x:Arg)
 |gE (str ag:Bool) (sz bytes:Nat) (x y:Arg)
 deriving Repr
structure Step where
 dst:Option Nat
 gd:Option (Nat×Bool)
 ins:Ins
 deriving Repr
structure DS where
 s:Step
 op:Nat
 un:List Nat
 deriving Repr
inductive Cd where
 |skip|ret
 |ops (k:Nat) (l:List Step)
 |dH (k:Nat) (l:List DS)
 |no
 |seq (a b:Cd)
 |cond (c:Arg) (a b:Cd)
 |block (id:Nat) (b:Cd)
 |loop (sW lB kp:List Nat) (b:Cd)
 |exit (id:Nat)
 deriving Repr
inductive kO where
 |tmp (t:Nat)|cell (t:Nat) (ag:Bool) (sz:Nat)
 deriving Repr
structure Fn where
 nt:Nat
 res:List kO
 cG:Bool
 lC:Bool
 body:Cd
 deriving Repr
def bytesLess:u2->u2->Bool
 |_,[]=>false
 |[],_::_=>true
 |a::x,b::y=>a<b||(a==b&&bytesLess x y)
def Hw:CK->V->V->Option Bool
 | .b,.bool a,.bool b=>some (a==b)
 | .i,.int k a,.int j b=>if k=j then some (a==b)else none
 | .s,.str a,.str b=>some (decide (a=b))
 |_,_,_=>none
def D4:List CK->uZ->uZ->Option Bool
 |[],[],[]=>some true
 |k::c,x::d,y::e=>do
  let a <-Hw k x y
  let b <-D4 c d e
  pure (a&&b)
 |_,_,_=>none
def mg(k:iB)(x y:V):Option Bool:=
 match k,x,y with
 | .bool,.bool a,.bool b=>some (a==b)
 | .ptr,.c_,.c_=>some true
 | .ptr,.c_,.ptr _ _ | .ptr,.ptr _ _,.c_ | .ptr,.c_,.ai _ _ | .ptr,.ai _ _,.c_=>some false
 | .row,.ad,.ad=>some true
 | .row,.ad,.sl _ _ | .row,.sl _ _,.ad | .row,.ad,.hs .. | .row,.hs ..,.ad=>some false
 | .bE,.bc,.bc=>some true
 | .bE,.bc,.bE _ _ | .bE,.bE _ _,.bc=>some false
 | .fn,.dt,.dt=>some true
 | .fn,.dt,.fn .. | .fn,.fn ..,.dt=>some false
 | .mp,.cg,.cg=>some true
 | .mp,.cg,.mp _ | .mp,.mp _,.cg=>some false
 | .agg c,.agg a,.agg b=>D4 c a b
 |_,_,_=>none
def EY:Nat:=4611686018427387904
def Qaq:Nat:=140737488355328
def eB(c:BinOp)(e:iB)(x y:V):AW:=
 match x,y with
 | .int k a,.int j b=>
  match c with
  | .shl=>if b<0 then none else some (.int k (k.wrap (a*2^(min b.toNat k.bits))))
  | .shr=>if b<0 then none else some (.int k (a.fdiv (2^(min b.toNat k.bits))))
  |_=>if k=j then
   match c with
   | .add=>some (.int k (k.wrap (a+b)))
   | .sub=>some (.int k (k.wrap (a-b)))
   | .mul=>some (.int k (k.wrap (a*b)))
   | .quo=>if b=0 then none else some (.int k (k.wrap (a.tdiv b)))
   | .rem=>if b=0 then none else some (.int k (a.tmod b))
   | .and=>some (.int k (k.wrap (BitVec.ofInt k.bits a&&&BitVec.ofInt k.bits b).toNat))
   | .or=>some (.int k (k.wrap (BitVec.ofInt k.bits a|||BitVec.ofInt k.bits b).toNat))
   | .xor=>some (.int k (k.wrap (BitVec.ofInt k.bits a ^^^ BitVec.ofInt k.bits b).toNat))
   | .andNot=>some (.int k (k.wrap (BitVec.ofInt k.bits a &&& ~~~ BitVec.ofInt k.bits b).toNat))
   | .eql=>some (.bool (a==b))
   | .neq=>some (.bool (a != b))
   | .lss=>some (.bool (decide (a<b)))
   | .leq=>some (.bool (decide (a<=b)))
   | .gtr=>some (.bool (decide (a>b)))
   | .geq=>some (.bool (decide (a>=b)))
   |_=>none
   else none
 | .str a,.str b=>
  match c with
  | .add=>if a.length+b.length<=EY then some (.str (a++b))else none
  | .eql=>some (.bool (decide (a=b)))
  | .neq=>some (.bool (!decide (a=b)))
  | .lss=>some (.bool (bytesLess a b))
  | .leq=>some (.bool (bytesLess a b||decide (a=b)))
  | .gtr=>some (.bool (!(bytesLess a b||decide (a=b))))
  | .geq=>some (.bool (!bytesLess a b))
  |_=>none
 |x,y=>
  match c with
  | .eql=>(mg e x y).map V.bool
  | .neq=>(mg e x y).map λb=>.bool (!b)
  |_=>none
def fk(a:UnOp)(x:V):AW:=
 match a,x with
 | .neg,.int k n=>some (.int k (k.wrap (0-n)))
 | .xor,.int k n=>some (.int k (k.wrap (BitVec.ofInt k.bits (if k.signed then -1 else k.max) ^^^ BitVec.ofInt k.bits n).toNat))
 | .not,.bool b=>some (.bool !b)
 |_,_=>none
def CN(s:u2):Nat×Nat:=
 let b (k:Nat):Nat:=(s.getD k 0).toNat
 let a (k:Nat):Bool:=k<s.length&&b k/64==2
 let d:=b 0
 if d<0x80 then(d,1)
 else if d/32==6&&a 1 then
  let c:=(d%32)*64+b 1%64
  if c>=0x80 then(c,2)else(0xFFFD,1)
 else if d/16==14&&a 1&&a 2 then
  let c:=(d%16)*4096+(b 1%64)*64+b 2%64
  if c>=0x800&&Utf8.valid c then(c,3)else(0xFFFD,1)
 else if d/8==30&&a 1&&a 2&&a 3 then
  let c:=(d%8)*262144+(b 1%64)*4096+(b 2%64)*64+b 3%64
  if c>=0x10000&&Utf8.valid c then(c,4)else(0xFFFD,1)
 else(0xFFFD,1)
def bytesOf:uZ->Option u2
 |[]=>some []
 | .int .u8 n::a=>do
  let b <-bytesOf a
  pure (UInt8.ofNat n.toNat::b)
 |_=>none
def u4(s:u2):uZ:=s.map λb=>.int .u8 b.toNat
def Nq(I:hN):V->Option uZ
 | .ad=>some []
 | .sl c _=>some c
 | .hs o a b d e=>do
  let f <-hN.get I o
  vk e d f b a
 |_=>none
def Nv(str:Bool)(I:hN)(x:V):Option uZ:=
 if str then(match x with | .str s=>some (u4 s)|_=>none)else Nq I x
def eC(I:hN)(k:Conv)(x:V):AW:=
 match k,x with
 | .toInt k,.int _ n=>some (.int k (k.wrap n))
 | .same,.str s=>some (.str s)
 | .jT,.int _ n=>some (.str (Utf8.encode n).data.toList)
 | .bz,.str s=>some (.sl (u4 s) (.gr 1))
 | .bh,.ad=>some (.str [])
 | .bh,.sl a _=>(bytesOf a).map V.str
 | .cL,.ad=>some (.str [])
 | .cL,.sl a _=>(bytesOf a).map V.str
 | .bh,.hs o b c d e=>do
  let a <-Nq I (.hs o b c d e)
  (bytesOf a).map V.str
 |_,_=>none
def vr(x:V)(a:Nat):AQ:=
 match x with
 | .int _ i=>if 0<=i/\i<=a then some i.toNat else none
 |_=>none
def vI(len:Nat)(a b mx:AW):Option (Nat×Nat×AQ):=do
 let m <-match mx with|some v=>(vr v len).map some|none=>some none
 let h <-match b with|some v=>vr v (m.getD len)|none=>some len
 let l <-match a with|some v=>vr v h|none=>some 0
 pure (l,h,m)
def AP(x:V)(a b:AW):AW:=
 match x with
 | .str s=>do
  let (l,h,_) <-vI s.length a b none
  some (.str ((s.drop l).take (h-l)))
 |_=>none
def yy(sz:Nat)(x:V)(a b mx:AW):AW:=
 match x with
 | .ad=>do
  let (_,_,_) <-vI 0 a b mx
  some .ad
 | .sl c _=>do
  let (l,h,m) <-vI c.length a b mx
  if c.all (λy=>decide (y.cells.length=sz))then some (.sl ((c.drop l).take (h-l)) (if m=some h then .fx else .no))else none
 | .hs o d e s f=>do
  let (l,h,_) <-vI e a b mx
  if s=sz then some (if l=h then .sl [] .no else .hs o (d+l*sz) (h-l) sz f)else none
 |_=>none
def yd(cs:uZ):Bool:=cs.all V.one
def BU(n sz:Nat)(ag:Bool)(x:V)(c d:AW):AW:=do
 let (l,h,_) <-vI n c d none
 match x with
 | .ptr o a=>some (if l=h then .sl [] .no else .hs o (a+l*sz) (h-l) sz ag)
 | .ai b a=>do
  let e <-vk ag sz b (h-l) (a+l*sz)
  if yd b then some (.sl e .no)else none
 |_=>none
def index(i:V)(n:Nat):AQ:=
 match i with
 | .int _ i=>if 0<=i/\i<n then some i.toNat else none
 |_=>none
def OI(mx:Bool):V->uZ->AW
 |x,[]=>some x
 | .int k a,.int j b::r=>if k=j then OI mx (.int k (if mx then(if b>a then b else a)else(if b<a then b else a))) r else none
 |_,_=>none
def eg(ag:Bool):V->Bool
 | .agg _=>ag
 |_=>!ag
def EW(z:uZ):List (Nat×Nat×V)->Option uZ
 |[]=>some z
 |(a,b,x)::r=>if x.cells.length=b/\a+b<=z.length/\yd x.cells then EW (RK z a (x.cells.map V.ng)) r else none
def NA(sz:Nat)(z:uZ):XB->Option uZ
 |[]=>some z
 |(i,x)::r=>if x.cells.length=sz/\i<z.length/\yd x.cells then NA sz (z.set i x.ng) r else none
def Et:V->Option Int
 | .int _ n=>some n
 |_=>none
def iU(a:CK)(k:V):List (V×V)->Option AW
 |[]=>some none
 |(b,x)::r=>
  match Hw a k b with
  |some true=>some (some x)
  |some false=>iU a k r
  |none=>none
def jV(a:CK)(k x:V):List (V×V)->Option (List (V×V))
 |[]=>some [(k,x)]
 |(b,y)::r=>
  match Hw a k b with
  |some true=>some ((k,x)::r)
  |some false=>(jV a k x r).map λc=>(b,y)::c
  |none=>none
def jr(a:CK)(I:hN)(m k:V):Option AW:=
 match m with
 | .cg=>some none
 | .mp o=>(match I[o]? with|some (.mp b)=>iU a k b|_=>none)
 |_=>none
def Wdw:CK->V->Bool
 | .b,.bool _ | .i,.int _ _ | .s,.str _=>true
 |_,_=>false
structure GV where
 g:Nat->V
 ex:List (Nat×Nat×Value)
 sh:List (Nat×Nat)
instance:CoeFun GV (λ_=>Nat->V):=⟨GV.g⟩
section
variable(G:GV)(q:FuncId->uZ->hN->R6)
def cD(U:uZ):Arg->V
 | .t n=>U.getD n .undef
 | .c x=>x
 | .g n=>G n
 | .f id=>.fn id [] []
def arg(U:uZ)(x:Arg):V:=(cD G U x).ng
def UV(a:Bool)(x:V):V:=if a then x else x.ng
def bM(U:uZ)(x:Arg)(a:Bool):uZ:=
 match x,a with
 | .t n,true=>U.set n (U.getD n .undef).ng
 |_,_=>U
def put(U:uZ)(d:AQ)(x:V):uZ:=
 match d with
 |some d=>U.set d x
 |none=>U
def Ins.cj:Ins->Arg×Bool
 | .mv x a=>(x,a)
 | .store _ _ x a=>(x,a)
 | .app _ _ _ _ x _ a=>(x,a)
 | .mark x=>(x,true)
 | .gE _ _ _ _ x _=>(x,true)
 | .cw _ b j=>(b.getD j (.c .undef),true)
 |_=>(.c .undef,false)
def eL(I:hN)(ag:Bool)(sz:Nat):V->AW
 | .ptr o a=>do
  let b <-hN.get I o
  part ag sz b a
 | .ai b a=>part ag sz b a
 |_=>none
def eF(off:Nat):V->AW
 | .ptr o a=>some (.ptr o (a+off))
 | .ai b a=>some (.ai b (a+off))
 |_=>none
def P7(ag:Bool)(off sz:Nat):V->AW
 | .agg a=>part ag sz a off
 |_=>none
def eI(sz:Nat)(i:V):V->AW
 | .sl c _=>do
  let j <-index i c.length
  let e <-c[j]?
  if e.cells.length=sz then some (.ai e.cells 0)else none
 | .hs o a b s _=>do
  let j <-index i b
  if s=sz then some (.ptr o (a+j*sz))else none
 |_=>none
def B4(n sz:Nat)(i x:V):AW:=do
 let j <-index i n
 match x with
 | .ptr o a=>some (.ptr o (a+j*sz))
 | .ai b a=>some (.ai b (a+j*sz))
 |_=>none
def Wx(i:V):V->AW
 | .str s=>do
  let j <-index i s.length
  let b <-s[j]?
  some (.int .u8 b.toNat)
 |_=>none
def UX(n:Nat)(ag:Bool)(sz:Nat)(i x:V):AW:=do
 let j <-index i n
 match x with
 | .agg a=>part ag sz a (j*sz)
 |_=>none
def eX(i:Nat):V->AW
 | .aR a=>a[i]?
 |_=>none
def ZM:V->AW
 | .str s=>some (.int .i64 s.length)
 |_=>none
def Qai:V->AW
 | .ad=>some (.int .i64 0)
 | .sl b _=>some (.int .i64 b.length)
 | .hs _ _ a _ _=>some (.int .i64 a)
 |_=>none
def Qau:V->AW
 | .ptr o c=>some (.ptr o c)
 | .ai d c=>some (.ai d c)
 | .fn f a b=>some (.fn f a b)
 |_=>none
def U2:V->Bool
 | .agg _=>true
 |_=>false
def O4(k:Nat)(ts:List (TypeId×Bool)):V->AW
 | .eQ j (.bE t y)=>
  match ts.find? λp=>p.1==t with
  |some (_,a)=>if j=k/\(a=true->U2 y=true)then some (.eQ j (.bE t y))else none
  |none=>none
 |_=>none
def Cs(A:Arg->V)(I:hN):Ins->AW
 | .pick c a b=>
  match A c with
  | .bool t=>some (if t then A a else A b)
  |_=>none
 | .build z parts=>(EW z (parts.map λ(o,s,x)=>(o,s,A x))).map V.agg
 | .dh x=>Qau (A x)
 | .eQ k x=>
  match A x with
  | .bE t y=>some (.eQ k (.bE t y))
  |_=>none
 | .cg k w x=>O4 k w (A x)
 | .bin q k x y=>eB q k (A x) (A y)
 | .un q x=>fk q (A x)
 | .conv k x=>eC I k (A x)
 | .ga x h j=>AP (A x) (h.map A) (j.map A)
 | .cut d x h j u=>yy d (A x) (h.map A) (j.map A) (u.map A)
 | .gb n d e x h j=>BU n d e (A x) (h.map A) (j.map A)
 | .load e d x=>eL I e d (A x)
 | .cu g x=>eF g (A x)
 | .field e g d x=>P7 e g d (A x)
 | .bT d x i=>eI d (A i) (A x)
 | .fQ n d x i=>B4 n d (A i) (A x)
 | .idx x i=>Wx (A i) (A x)
 | .kL n e d x i=>UX n e d (A i) (A x)
 | .fc x=>ZM (A x)
 | .len x=>Qai (A x)
 | .iZ f first l=>some (.fn f (first.map A) (l.map A))
 | .kg t x=>some (.bE t (A x))
 | .gD x i=>eX i (A x)
 | .mm u p=>
  match p.map A with
  |x::r=>if(Et x).isSome then OI u x r else none
  |[]=>none
 | .kM v z m k B=>do
  let r <-jr v I (A m) (A k)
  let x:=r.getD z
  if Wdw v (A k)then some (if B then .aR [x,.bool r.isSome]else x)else none
 |_=>none
def ZS(ag:Bool)(sz:Nat)(a:uZ):Bool:=a.all λy=>decide (y.cells.length=sz)&&yd y.cells&&eg ag y
def RE(ag:Bool)(sz bytes:Nat)(x:V)(a:uZ):AW:=
 if ZS ag sz a then
  match x with
  | .ad=>if a=[]then some .ad else if a.length*bytes<=Qaq then some (.sl a (.gr sz))else none
  | .sl b c=>
   match a with
   |[]=>some (.sl b c)
   |_::_=>if(c=.fx\/c=.gr sz)/\b.all (λy=>decide (y.cells.length=sz))/\(b.length+a.length)*bytes<=Qaq then some (.sl (b++a) (.gr sz))else none
  |_=>none
 else none
def Qa4(A T9:Arg->V)(I:hN):Ins->R6
 | .mv x D=>some (if D then T9 x else A x,I)
 | .alloc z=>if yd z then some (.ptr I.length 0,I++[.cells z])else none
 | .box x=>
  let w:=(A x).cells
  if yd w then some (.ptr I.length 0,I++[.cells (w.map V.ng)])else none
 | .aw n a e z parts h=>do
  let C <-NA a (List.replicate e z) (parts.map λ(i,x)=>(i,A x))
  if ZS n a C then
   if h then some (.hg I.length e a n,I++[.cells ((C.flatMap V.cells).map V.ng)])
   else some (.sl C .fx,I)
  else none
 | .d_ n a e z parts=>do
  let C <-NA a (List.replicate e z) (parts.map λ(i,x)=>(i,A x))
  if ZS n a C then some (.sl C (.gr a),I)else none
 | .mark x=>
  match T9 x with
  | .sl C (.gr _)=>some (.sl C .no,I)
  |_=>none
 | .store a p x D=>
  match A p with
  | .ptr o d=>do
   let w <-hN.get I o
   let v:=A x
   let G:=v.cells
   if G.length=a/\d+a<=w.length/\yd G then
    match v with
    | .agg _=>some (.undef,I.set o (.cells (RK w d (G.map V.ng))))
    |_=>if(if D then T9 x else v).dg then none else some (.undef,I.set o (.cells (w.set d (if D then T9 x else v))))
   else none
  |_=>none
 | .loadT x=>
  match A x with
  | .ptr o d=>do
   let w <-hN.get I o
   let v <-w[d]?
   match v with
   | .sl C (.gr s)=>some (.sl C (.gr s),I.set o (.cells (w.set d (.sl C .no))))
   | .sl _ .lk=>none
   |v=>some (v,I)
  | .ai w d=>do
   let v <-w[d]?
   some (v.ng,I)
  |_=>none
 | .app B n a bytes x y D=>do
  let u <-Nv B I (A y)
  let v <-RE n a bytes (if D then T9 x else A x) u
  some (v,I)
 | .jU B n a bytes x y=>do
  let u <-Nv B I (A y)
  match u with
  |[]=>do
   let v <-RE n a bytes (A x) []
   some (v.ng,I)
  |_::_=>do
   let v <-RE n a bytes (A x) u
   match v with
   | .sl C _=>some (.hs I.length 0 C.length a n,I++[.cells ((C.flatMap V.cells).map V.ng)])
   |_=>none
 | .ey x=>
  match A x with
  | .str b=>some (.hs I.length 0 b.length 1 false,I++[.cells (u4 b)])
  |_=>none
 | .da n a bytes z l c h=>do
  let l <-Et (A l)
  let c <-Et (A c)
  if 0<=l/\l<=c/\c*bytes<=Qaq/\z.cells.length=a/\yd z.cells/\eg n z then
   if h then
    some (.hs I.length 0 l.toNat a n,I++[.cells ((List.replicate c.toNat z).flatMap V.cells)])
   else some (.sl (List.replicate l.toNat z) (if l=c then .fx else .gr a),I)
  else none
 | .gZ=>some (.mp I.length,I++[.mp []])
 | .uT J m k x=>
  match A m with
  | .mp o=>
   match I[o]? with
   |some (.mp K)=>do
    let H <-jV J (A k) (A x) K
    if Wdw J (A k)then some (.undef,I.set o (.mp H))else none
   |_=>none
  |_=>none
 | .call f g=>q f (g.map A) I
 | .dR x g=>
  match A x with
  | .fn f first E=>q f (((first++g.map A)++E).map V.ng) I
  |_=>none
 | .no=>none
 | .dS x L g=>
  match A x with
  | .bE t y=>
   match L.find? λp=>p.1==t with
   |some (_,f,none)=>q f (y.ng::g.map A) I
   |some (_,f,some (d,a))=>do
    let z <-P7 true d a y
    q f (z::g.map A) I
   |none=>none
  |_=>none
 | .cw f g j=>q f ((g.zipIdx).map λp=>if p.2=j then T9 p.1 else A p.1) I
 | .kN x=>
  match A x with
  | .str s=>some (.ptr I.length 0,I++[.si s 0])
  |_=>none
 | .kH x=>
  match A x with
  | .ptr o 0=>
   match I[o]? with
   |some (.si [] _)=>some (.aR [.bool false],I)
   |some (.si (b::s) F)=>
    let r:=CN (b::s)
    some (.aR [.bool true,.int .i64 F,.int .i32 r.1],I.set o (.si ((b::s).drop r.2) (F+r.2)))
   |_=>none
  |_=>none
 | .lA B a x y=>
  match A x with
  | .hs o d e s n=>do
   let u <-Nv B I (A y)
   let w <-hN.get I o
   if s=a/\u.length<=e/\ZS n a u/\d+u.length*a<=w.length then
    some (.int .i64 u.length,I.set o (.cells (RK w d ((u.flatMap V.cells).map V.ng))))
   else none
  |_=>none
 | .lb a z x=>
  match A x with
  | .ad=>some (.undef,I)
  | .hs o d e s n=>do
   let w <-hN.get I o
   if s=a/\z.cells.length=a/\d+e*a<=w.length/\yd z.cells then
    some (.undef,I.set o (.cells (RK w d ((List.replicate e z).flatMap V.cells))))
   else none
  |_=>none
 | .gE B n a bytes x y=>do
  let u <-Nv B I (A y)
  match T9 x with
  | .hg o e s M=>do
   let w <-hN.get I o
   if s=a/\ZS n a u/\w.length=e*a/\(e+u.length)*bytes<=Qaq then
    match u with
    |[]=>some (.hg o e a n,I)
    |_::_=>some (.hg I.length (e+u.length) a n,I.set o .gone++[.cells (w++(u.flatMap V.cells).map V.ng)])
   else none
  | .ad=>
   match u with
   |[]=>some (.ad,I)
   |_::_=>if ZS n a u/\u.length*bytes<=Qaq then some (.hg I.length u.length a n,I++[.cells ((u.flatMap V.cells).map V.ng)])else none
  |_=>none
 | .conv .bz x=>do
  let v <-eC I .bz (A x)
  some (v,I)
 | .gD x i=>do
  let v <-eX i (A x)
  some (v.aI,I)
 |i=>do
  let v <-Cs A I i
  some (v.ng,I)
def j_(s:Step)(U:uZ)(I:hN):Option (uZ×hN):=do
 let (v,a) <-Qa4 q (arg G U) (cD G U) I s.ins
 some (put (bM U s.ins.cj.1 s.ins.cj.2) s.dst v,a)
def wanted(U:uZ):Option (Nat×Bool)->Option Bool
 |none=>some true
 |some (g,b)=>
  match U.getD g .undef with
  | .bool t=>some (t==b)
  | .undef=>some false
  |_=>none
def Zx(s:Step)(U:uZ)(I:hN):Option (uZ×hN):=do
 if <-wanted U s.gd then j_ G q s U I else some (put U s.dst .undef,I)
def zq:List Step->uZ->hN->Option (uZ×hN)
 |[],U,I=>some (U,I)
 |s::r,U,I=>do
  let (a,b) <-Zx G q s U I
  zq r a b
inductive Rd where
 |none|same (ex:Bool) (o off n:Nat)|made (o:Nat)|cE (o off:Nat)
def reads(A:Arg->V)(I:hN):Ins->Rd
 | .load b c x=>match A x with | .ptr o a=>.same false o a (if b then c else 1)|_=>.none
 | .loadT x=>
  match A x with
  | .ptr o a=>
   match(hN.get I o).bind (·[a]?)with
   |some (.sl _ (.gr _))=>.cE o a
   |_=>.same true o a 1
  |_=>.none
 | .alloc _ | .box _=>.made I.length
 | .da _ _ _ _ _ _ h=>if h then .made I.length else .none
 |_=>.none
def Rd.cell:Rd->Option (Nat×Nat)
 | .cE o a=>some (o,a)
 |_=>Option.none
def bt(I I':hN):Rd->Bool
 | .same d o a n=>
  match hN.get I o,hN.get I' o with
  |some b,some c=>decide (b.length=c.length)&&(if d then V.fj ((b.drop a).take n) ((c.drop a).take n)else V.fj (((b.drop a).take n).map V.ng) (((c.drop a).take n).map V.ng))
  |_,_=>false
 | .made o=>
  match hN.get I o,hN.get I' o with
  |some b,some c=>V.fj b c
  |_,_=>false
 |_=>true
def Hs(I:hN):List (Nat×Nat)->Option hN
 |[]=>some I
 |(o,a)::r=>
  match hN.get I o with
  |some b=>
   match b[a]? with
   |some (.sl c _)=>Hs (I.set o (.cells (b.set a (.sl c .lk)))) r
   |_=>none
  |none=>none
def TS(I:hN):List (Nat×Nat)->Option hN
 |[]=>some I
 |(o,a)::r=>
  match hN.get I o with
  |some b=>
   match b[a]? with
   |some (.sl c .lk)=>TS (I.set o (.cells (b.set a (.sl c .no)))) r
   |_=>none
  |none=>none
def zI(past:List Rd):List DS->uZ->hN->Option (uZ×hN)
 |[],U,I=>some (U,I)
 |d::r,U,I=>do
  let seen:=d.un.map λk=>past.getD k .none
  let a:=seen.filterMap Rd.cell
  let c <-Hs I a
  let (e,f) <-Zx G q d.s U c
  let b <-TS f a
  if seen.all (bt I b)then
   zI (past++[if(wanted U d.s.gd).getD false then reads (arg G U) I d.s.ins else .none]) r e b
  else none
inductive Out where
 |norm|ex (id:Nat)|ret
abbrev nj:=Option (Out×List V×hN)
def AG(n:Nat):V->AQ
 | .ptr o _=>if n<=o then some o else none
 | .hs o _ _ _ _=>if n<=o then some o else none
 | .hg o _ _ _=>if n<=o then some o else none
 | .mp o=>if n<=o then some o else none
 |_=>none
def js(n:Nat):V->AQ
 | .mp o=>if n<=o then some o else none
 |_=>none
def dI:wi->wi
 |[]=>[]
 |x::a=>if a.contains x then dI a else x::dI a
def yn(n:Nat)(I:hN)(ks:wi):wi:=
 dI (ks++ks.flatMap λo=>match hN.get I o with|some a=>a.filterMap (js n)|none=>[])
def VP(ks:wi)(I:hN):hN:=ks.foldl (λI o=>I.set o .gone) I
def ez(n:Nat)(ks:wi)(o:Nat):Nat:=if o<n then o else n+ks.idxOf o
def OA(n:Nat)(ks:wi)(a:hN)(x:V):AW:=
 match x with
 | .ptr o b=>if o<n||ks.contains o then some (.ptr (ez n ks o) b)else fz n a fzD x
 | .hs o b c d e=>if o<n||ks.contains o then some (.hs (ez n ks o) b c d e)else fz n a fzD x
 | .hg o c d e=>if o<n||ks.contains o then some (.hg (ez n ks o) c d e)else fz n a fzD x
 | .mp o=>if o<n||ks.contains o then some (.mp (ez n ks o))else none
 |x=>fz n a fzD x
def gF(n:Nat)(ks:wi)(a:hN):V->AW
 | .agg b=>(b.mapM (OA n ks a)).map V.agg
 | .aR b=>(b.mapM (OA n ks a)).map V.aR
 |x=>OA n ks a x
def qb(n:Nat):V->wi
 | .agg a=>a.filterMap (AG n)
 | .aR a=>a.filterMap (AG n)
 |x=>(AG n x).toList
def Ru(n:Nat)(a:hN)(b kp ks:wi)(i:Nat)(x:V):AW:=
 if b.contains i then(if kp.contains i then OA n ks a x else fz n a fzD x)else some .any
def PO(n:Nat)(b:hN)(a kp ks:wi):Nat->uZ->Option uZ
 |_,[]=>some []
 |i,x::c=>(Ru n b a kp ks i x).bind λy=>(PO n b a kp ks (i+1) c).bind λd=>some (y::d)
def AO(n:Nat)(ks:wi)(a:hN):O->Option O
 | .cells b=>(b.mapM (OA n ks a)).map O.cells
 | .mp c=>(c.mapM λp=>if V.rb n p.1 then(fz n a fzD p.2).map λy=>(p.1,y)else none).map O.mp
 |_=>none
def xx(n:Nat)(I:hN)(ks:wi):Option hN:=do
 let b <-ks.mapM λo=>(I[o]?).bind (AO n ks (VP ks I))
 let a <-ve n (VP ks I)
 some (a++b)
def eU:Bool->Nat->hN->V->R6
 |true,n,a,r=>(gF n (yn n a (qb n r)) (VP (yn n a (qb n r)) a) r).bind λb=>(xx n a (yn n a (qb n r))).map λs=>(b,s)
 |false,n,a,r=>(ve n a).bind λs=>(fz n a fzD r).map λb=>(b,s)
def bQ(n:Nat)(a kp:wi)(U:uZ)(I:hN):Option (uZ×hN):=do
 let b:=yn n I (kp.filterMap λt=>if a.contains t then AG n (U.getD t .undef)else none)
 let c <-PO n (VP b I) a kp b 0 U
 let d <-xx n I b
 some (c,d)
def PS(d a kp:wi)(n:Nat)(rd:uZ->hN->nj):Nat->uZ->hN->nj
 |0,_,_=>none
 |k+1,U,I=>
  match rd U I with
  |none=>none
  |some (.norm,f,g)=>do
   let (b,c) <-bQ n d kp f g
   PS d a kp n rd k b c
  |some (e,f,g)=>do
   let (b,c) <-bQ n a kp f g
   some (e,b,c)
def cz(d:Nat):Cd->uZ->hN->nj
 | .skip,U,I=>some (.norm,U,I)
 | .ret,U,I=>some (.ret,U,I)
 | .exit id,U,I=>some (.ex id,U,I)
 | .ops _ l,U,I=>(zq G q l U I).map λ(e,f)=>(.norm,e,f)
 | .dH _ l,U,I=>(zI G q [] l U I).map λ(e,f)=>(.norm,e,f)
 | .seq a b,U,I=>
  match cz d a U I with
  |some (.norm,e,f)=>cz d b e f
  |r=>r
 | .cond c a b,U,I=>
  match arg G U c with
  | .bool true=>cz d a U I
  | .bool false=>cz d b U I
  |_=>none
 | .block id b,U,I=>
  match cz d b U I with
  |some (.ex i,e,f)=>if i=id then some (.norm,e,f)else some (.ex i,e,f)
  |r=>r
 | .loop g h j b,U,I=>do
  let e <-Fh I.length I g 0 U
  PS g h j I.length (cz d b) d e I
 | .no,_,_=>none
def i_(U:uZ)(I:hN):kO->AW
 | .tmp t=>some (U.getD t .undef)
 | .cell t b c=>
  match U.getD t .undef with
  | .ptr o a=>do
   let d <-hN.get I o
   part b c d a
  |_=>none
def results(a:Bool)(U:uZ)(I:hN):List kO->AW
 |[r]=>do
  let v <-i_ U I r
  if v.one||eg true v then some (UV a v)else none
 |rs=>do
  let b <-rs.mapM (i_ U I)
  some (.aR (b.map V.aI))
def kh(F:Fn)(b:Nat)(args:uZ)(I:hN):R6:=do
 let c (U:uZ) (a:hN):R6:=do
  let r <-results F.cG U a F.res
  eU F.lC I.length a r
 match <-cz G q b F.body (args++List.replicate (F.nt-args.length) .undef) I with
 |(.ret,U,a)=>c U a
 |(.norm,U,a)=>c U a
 |_=>none
end
structure Ctx where
 G:GV
 code:FuncId->Option Fn
 cO:FuncId->Option (List V->hN->Option (V×hN))
 fr:FuncId->Bool
def u1(I:hN)(p:V×hN):R6:=if p.2.isEmpty then some (p.1,I)else none
def frame(b:Bool)(h:uZ->hN->R6)(args:uZ)(I:hN):R6:=
 if b&&(I.isEmpty||V.aL 0 args)then(h (args.map V.ng) []).bind (u1 I)else h args I
def ev(C:Ctx):Nat->FuncId->uZ->hN->R6
 |0,_,_,_=>none
 |n+1,f,a,I=>
  match C.cO f with
  |some h=>h a I
  |none=>
   match C.code f with
   |some F=>frame (C.fr f) (kh C.G (ev C n) F n) a I
   |none=>none
abbrev vn:=Nat->Nat->Option Value
structure bk where
 at':Nat->Option Nat
 sz:Nat->Option Nat
instance:CoeFun bk λ_=>Nat->Option Nat:=⟨bk.at'⟩
def Qtq:Nat->Nat->List Char
 |0,_=>[]
 |f+1,n=>if n=0 then[]else Char.ofNat (n%256)::Qtq f (n/256)
def Qls(k:Nat):String:=String.ofList (Qtq 100 k)
inductive aB (M:vn) (J:bk):Value->V->Prop
 |any (v:Value):aB M J v .any
 |undef:aB M J (.tuple #[]) .undef
 |bool (b:Bool):aB M J (.bool b) (.bool b)
 |int (k:IntKind) (n:Int):aB M J (.int k n) (.int k n)
 |str (s:ByteArray) (l:List UInt8) (h:s.data.toList=l):aB M J (.string s) (.str l)
 |c_:aB M J (.pointer none) .c_
 |ptr (o off b:Nat) (h:J o=some b):aB M J (.pointer (some ⟨b,off,none⟩)) (.ptr o off)
 |ai (cs:List V) (off b base:Nat) (us:List Value) (hl:us.length=cs.length)
   (hm:∀(i:Nat) u,us[i]?=some u->M b (base+i)=some u) (hr:∀(i:Nat) u c,us[i]?=some u->cs[i]?=some c->aB M J u c):
   aB M J (.pointer (some ⟨b,base+off,none⟩)) (.ai cs off)
 |ad:aB M J (.slice none 0 0) .ad
 |sl (xs:List V) (c:bU) (b off cap sz:Nat) (us:List Value) (hs:∀x∈xs,x.cells.length=sz) (hl:us.length=(xs.flatMap V.cells).length)
   (hm:∀(i:Nat) u,us[i]?=some u->M b (off+i)=some u) (hr:∀(i:Nat) u c,us[i]?=some u->(xs.flatMap V.cells)[i]?=some c->aB M J u c)
   (hcap:xs.length<=cap) (hfx:c=.fx->cap=xs.length):aB M J (.slice (some ⟨b,off,none⟩) xs.length cap) (.sl xs c)
 |jt (a:Addr) (c:bU) (hg:∀s,c≠.gr s):aB M J (.slice (some a) 0 0) (.sl [] c)
 |hs (o off len sz:Nat) (ag:Bool) (b cap:Nat) (h:J o=some b) (hc:len<=cap):aB M J (.slice (some ⟨b,off,none⟩) len cap) (.hs o off len sz ag)
 |agg (vs:Array Value) (cs:List V) (hl:vs.size=cs.length) (hr:∀(i:Nat) v c,vs[i]?=some v->cs[i]?=some c->aB M J v c):aB M J (.agg vs) (.agg cs)
 |aR (vs:Array Value) (cs:List V) (hl:vs.size=cs.length) (hr:∀(i:Nat) v c,vs[i]?=some v->cs[i]?=some c->aB M J v c):aB M J (.tuple vs) (.aR cs)
 |bE (t:TypeId) (v:Value) (x:V) (h:aB M J v x):aB M J (.iface t v) (.bE t x)
 |bc:aB M J .nilIface .bc
 |fn (f:FuncId) (ars bs:Array Value) (first caps:List V) (ha:ars.size=first.length) (hb:bs.size=caps.length)
   (hra:∀(i:Nat) v c,ars[i]?=some v->first[i]?=some c->aB M J v c) (hrb:∀(i:Nat) v c,bs[i]?=some v->caps[i]?=some c->aB M J v c):
   aB M J (.func (.func f) ars bs) (.fn f first caps)
 |dt:aB M J .nilFunc .dt
 |mp (o r:Nat) (h:J o=some r):aB M J (.map (some r)) (.mp o)
 |cg:aB M J (.map none) .cg
 |hg (o len sz:Nat) (ag:Bool) (b cap n:Nat) (h:J o=some b) (hn:J.sz b=some n) (hc:len<=cap) (hr:cap*sz<=n):aB M J (.slice (some ⟨b,0,none⟩) len cap) (.hg o len sz ag)
 |eQ (k:Nat) (v:Value) (x:V) (h:aB M J v x):aB M J (.func (.method (Qls k)) #[v] #[]) (.eQ k x)
structure de (M M':vn):Prop where
 le:∀b i u,M b i=some u->M' b i=some u
structure di (J J':bk):Prop where
 le:∀o b,J o=some b->J' o=some b
 sz:∀b n,J.sz b=some n->J'.sz b=some n
def bO:bk:=⟨λ_=>none,λ_=>none⟩
variable(i6:u2)(k3:uZ)(e9:TypeId)(k5:Nat->Prop)(Q:World)(i1:Obj)(i9:Nat)
def Wj6(J:bk):di bO J:=⟨λ_ _ h=>(by cases h),λ_ _ h=>(by cases h)⟩
def de.refl(M:vn):de M M:=⟨λ_ _ _ h=>h⟩
def de.trans{M c a:vn}(h:de M c)(k:de c a):de M a:=⟨λb i u e=>k.le b i u (h.le b i u e)⟩
def di.refl(J:bk):di J J:=⟨λ_ _ h=>h,λ_ _ h=>h⟩
def di.trans{J c a:bk}(h:di J c)(k:di c a):di J a:=⟨λo b e=>k.le o b (h.le o b e),λb n e=>k.sz b n (h.sz b n e)⟩
variable{x:vn}{C:bk}
def aB.mono{M m:vn}{J:bk}(q:de M m)(d:di J C){v:Value}{x:V}(h:aB M J v x):aB m C v x:=by
 induction h with
 |any v=>exact .any v
 |undef=>exact .undef
 |bool b=>exact .bool b
 |int k n=>exact .int k n
 |str s l h=>exact .str s l h
 |c_=>exact .c_
 |ptr o a b h=>exact .ptr o a b (d.le _ _ h)
 |ai g c b a j k f n l=>exact .ai g c b a j k (λi u e=>q.le _ _ _ (f i u e)) l
 |ad=>exact .ad
 |sl r c b f j s l hs n g t a k o=>exact .sl r c b f j s l hs n (λi u e=>q.le _ _ _ (g i u e)) o a k
 |jt a c hg=>exact .jt a c hg
 |hs o a e f g b c h i=>exact .hs o a e f g b c (d.le _ _ h) i
 |agg e a b f c=>exact .agg e a b c
 |aR e a b f c=>exact .aR e a b c
 |bE t v x h a=>exact .bE t v x a
 |bc=>exact .bc
 |fn f b g first a i j k l c e=>exact .fn f b g first a i j c e
 |dt=>exact .dt
 |mp o r h=>exact .mp o r (d.le _ _ h)
 |cg=>exact .cg
 |hg o c f g b a n h j i e=>exact .hg o c f g b a n (d.le _ _ h) (d.sz _ _ j) i e
 |eQ k v x h a=>exact .eQ k v x a
def aB.ng{M:vn}{J:bk}{v:Value}{x:V}(h:aB M J v x):aB M J v x.ng:=by
 cases h with
 |sl i c b d f j k hs l g m a n=>exact .sl i .no b d f j k hs l g m a (λe=>by cases e)
 |jt a c hg=>exact .jt a .no (λs e=>by cases e)
 |any v=>exact .any v
 |undef=>exact .undef
 |bool b=>exact .bool b
 |int k n=>exact .int k n
 |str s l h=>exact .str s l h
 |c_=>exact .c_
 |ptr o a b h=>exact .ptr o a b h
 |ai i c b a e f d g=>exact .ai i c b a e f d g
 |ad=>exact .ad
 |hs o a d e f b c h g=>exact .hs o a d e f b c h g
 |agg d c a b=>exact .agg d c a b
 |aR d c a b=>exact .aR d c a b
 |bE t v x h=>exact .bE t v x h
 |bc=>exact .bc
 |fn f b e first a g i c d=>exact .fn f b e first a g i c d
 |dt=>exact .dt
 |mp o r h=>exact .mp o r h
 |cg=>exact .cg
 |hg o c d e b a n h i f g=>exact .hs o 0 c d e b a h f
 |eQ k v x h=>exact .eQ k v x h
def aB.aI{M:vn}{v:Value}{x:V}(h:aB M C v x):aB M C v x.aI:=by
 cases x with
 |sl a c=>exact h.ng
 |_=>exact h
def V.gf(x:V):x.ng.cells.length=x.cells.length:=by cases x<;>rfl
def V.dx(x:V):x.ng.one=x.one:=by cases x<;>rfl
def V.ck(x:V):x.ng.ng=x.ng:=by cases x<;>rfl
def aq(M:vn)(J:bk)(us:vB)(cs:uZ):Prop:=us.length=cs.length/\∀(i:Nat) u c,us[i]?=some u->cs[i]?=some c->aB M J u c
def aq.nil{M:vn}{J:bk}:aq M J [] []:=⟨rfl,λi u c h=>by simp at h⟩
variable{f u:Value}{l:vB}
def aq.cons{M:vn}{J:bk}{c:V}{cs:uZ}(h:aB M J f c)(d:aq M J l cs):aq M J (f::l) (c::cs):=
 ⟨by simp[d.1],λi e us a b=>by
  cases i with
  |zero=>simp at a b;subst a b;exact h
  |succ i=>simp at a b;exact d.2 i e us a b⟩
variable{d i H:V}{e y:uZ}
def aq.head(h:aq x C (f::l) (d::e)):aB x C f d:=h.2 0 f d rfl rfl
def aq.tail(h:aq x C (f::l) (d::e)):aq x C l e:=
 ⟨by have:=h.1;simpa using this,λi a b us M=>h.2 (i+1) a b (by simpa using us) (by simpa using M)⟩
def aq.mono{M:vn}{J b:bk}(d:de M x)(a:di J b){us:vB}(h:aq M J us e):aq x b us e:=
 ⟨h.1,λi u c f g=>(h.2 i u c f g).mono d a⟩
def aq.append{b:vB}(h:aq x C l e)(f:aq x C b y):aq x C (l++b) (e++y):=by
 refine⟨by simp[h.1,f.1],λi u c cs a => ?_⟩;rw[JI]at cs a;rw[<-h.1]at a;split at cs
 ·rename_i g;rw[A9a g]at a;exact h.2 i u c cs a
 ·rename_i g;rw[O3 g]at a;exact f.2 _ u c cs a
def aq.drop{M:vn}{J:bk}{us:vB}(h:aq M J us e)(n:Nat):aq M J (us.drop n) (e.drop n):=
 ⟨by simp[h.1],λi u c a b=>h.2 (n+i) u c (by simpa using a) (by simpa using b)⟩
def aq.take{M:vn}{J:bk}{us:vB}(h:aq M J us e)(n:Nat):aq M J (us.take n) (e.take n):=
 ⟨by simp[h.1],λi u c a b=>by
  rw[xP]at a b;split at a
  ·rename_i d;rw[A9a d]at b;exact h.2 i u c a b
  ·cases a⟩
def aq.ng{M:vn}{J:bk}{us:vB}{cs:uZ}(h:aq M J us cs):aq M J us (cs.map V.ng):=
 ⟨by simp[h.1],λi u c d b=>by simp only[ym,xB]at b;obtain⟨e,a,rfl⟩:=b;exact(h.2 i u e d a).ng⟩
def aq.get{cs:uZ}(h:aq x C l cs){i:Nat}{c:V}(a:cs[i]?=W c):∃u,l[i]?=W u/\aB x C u c:=by
 have b:i<l.length:=by rw[h.1];exact(wy.1 a).1
 exact⟨l[i],vO b,h.2 i _ c (vO b) a⟩
variable{c h F:Nat}
def aq.get'(h:aq x C l e)(a:l[c]?=W f):∃i,e[c]?=W i/\aB x C f i:=by
 have b:c<e.length:=by rw[<-h.1];exact(wy.1 a).1
 exact⟨e[c],vO b,h.2 c f _ a (vO b)⟩
def aq.set{M:vn}{J:bk}{cs:uZ}(h:aq M J l cs){u:Value}{c:V}(f:aB M J u c)(i:Nat):aq M J (l.set i u) (cs.set i c):=by
 refine⟨by simp[h.1],λj g k a b => ?_⟩;rw[AZ]at a b;by_cases d:i=j
 ·subst d;rw[A9a rfl]at a b;split at a
  ·rename_i e;rw[A9a (by rw[<-h.1];exact e)]at b;cases a;cases b;exact f
  ·cases a
 ·rw[O3 d]at a b;exact h.2 j g k a b
variable{m:wk}
def aB.cc{M:vn}{J:bk}:aB M J (.agg m) (.agg e)↔aq M J m.toList e:=by
 constructor
 ·intro h;cases h with
  |agg _ _ a b=>exact⟨by simpa using a,λi u c d cs=>b i u c (by simpa using d) cs⟩
 ·intro h;exact .agg m e (by simpa using h.1) (λi v c b a=>h.2 i v c (by simpa using b) a)
def aB.cells{M:vn}{J:bk}{v:Value}{x:V}(h:aB M J v x)(d:∀c∈x.cells,c.one):aq M J v.cells.toList x.cells:=by
 cases h with
 |agg a b e f=>exact aB.cc.1 (.agg a b e f)
 |any v=>exact absurd (d .any (by simp[V.cells])) (by simp[V.one])
 |undef=>exact absurd (d .undef (by simp[V.cells])) (by simp[V.one])
 |aR b a e f=>exact absurd (d (.aR a) (by simp[V.cells])) (by simp[V.one])
 |bool b=>exact aq.cons (.bool b) aq.nil
 |int k n=>exact aq.cons (.int k n) aq.nil
 |str s l h=>exact aq.cons (.str s l h) aq.nil
 |c_=>exact aq.cons .c_ aq.nil
 |ptr o a b h=>exact aq.cons (.ptr o a b h) aq.nil
 |ai g e b a k i f j=>exact aq.cons (.ai g e b a k i f j) aq.nil
 |ad=>exact aq.cons .ad aq.nil
 |sl m c b e g n l hs j f k a i=>exact aq.cons (.sl m c b e g n l hs j f k a i) aq.nil
 |jt a c hg=>exact aq.cons (.jt a c hg) aq.nil
 |hs o a f g i b e h j=>exact aq.cons (.hs o a f g i b e h j) aq.nil
 |bE t v x h=>exact aq.cons (.bE t v x h) aq.nil
 |bc=>exact aq.cons .bc aq.nil
 |fn f b i first a j k e g=>exact aq.cons (.fn f b i first a j k e g) aq.nil
 |dt=>exact aq.cons .dt aq.nil
 |mp o r h=>exact aq.cons (.mp o r h) aq.nil
 |cg=>exact aq.cons .cg aq.nil
 |hg o e g i b a n h k j f=>exact aq.cons (.hg o e g i b a n h k j f) aq.nil
 |eQ k v x h=>exact aq.cons (.eQ k v x h) aq.nil
def aB.one{M:vn}{J:bk}{v:Value}{x:V}(h:aB M J v x)(a:x.one):v.oneCell:=by cases h<;>first|rfl|simp[V.one]at a
def aJ:Value->V->AQ
 | .slice (some a) _ _,.sl _ (.gr _)=>some a.block
 |_,_=>none
def Qbg(fz:Nat×Nat)(i:Nat):Bool:=decide (fz.1<=i)&&decide (i<fz.2)
def w7(v:Value)(x:V):aJ v x.ng=none:=by
 unfold aJ;split
 ·rename_i a;cases x<;>simp[V.ng]at a
 ·rfl
def Wd0(v:Value)(x:V):aJ v x.aI=none:=by
 unfold aJ;split
 ·rename_i a;cases x<;>simp[V.aI]at a
 ·rfl
inductive Pl where
 |s (i:Nat)|c (o i:Nat)
abbrev cY:=Nat->Option Pl
def At(J:bk)(w:World)(us:vB)(U:uZ)(I:hN):Pl->Value->V->Prop
 | .s i,v,x=>us[i]?=some v/\U[i]?=some x
 | .c o i,v,x=>∃b a d fz c,J o=some b/\w.heap[b]?=some (.cells a d fz)/\I[o]?=some (.cells c)/\a[i]?=some v/\c[i]?=some x
structure dL (M:vn) (w:World) (v:Value) (x:V):Prop where
 ok:∀xs sz,x=.sl xs (.gr sz)->∀a len cap,v=.slice (some a) len cap->
  (∀y∈xs,y.cells.length=sz)/\(∀i,a.off+(xs.flatMap V.cells).length<=i->M a.block i=none)/\
  ∃ws T9 fz,w.heap[a.block]?=some (.cells ws T9 fz)/\a.off+cap*sz<=ws.size/\∀i,a.off+(xs.flatMap V.cells).length<=i->i<ws.size->Qbg fz i=false
variable{r:World}
def dL.du(h:aJ f d=none):dL x r f d:=by refine⟨λM g b a c w e => ?_⟩;subst b e;simp[aJ]at h
def Uu(M:vn)(J:bk)(a:List MapEntry)(b:List (V×V)):Prop:=
 a.length=b.length/\∀(i:Nat) e p,a[i]?=some e->b[i]?=some p->aB M J e.key p.1/\aB M J e.val p.2
def Qfp(M:vn)(J:bk)(w:World)(b:Nat):O->Prop
 | .cells e=>∃f h fz,w.heap[b]?=some (.cells f h fz)/\aq M J (f.toList.take e.length) e/\(∀i,i<e.length->Qbg fz i=false)/\(∀i,M b i=none)/\∀c∈e,c.one=true
 | .mp j=>∃g a,w.heap[b]?=some (.map g a)/\Uu M J g.toList j
 | .si r d=>∃s:ByteArray,w.heap[b]?=some (.stringIter s d)/\s.data.toList.drop d=r
 | .gone=>True
structure Wd (M:vn) (J:bk) (X:Nat->Prop) (D:cY) (w:World) (I:hN):Prop where
 mem:∀b i u,M b i=some u->w.cell? ⟨b,i,none⟩=some u
 obj:∀o b,J o=some b->∃O,I[o]?=some O/\Qfp M J w b O
 dv:∀o b,J o=some b->b<w.heap.size
 inj:∀o o' b,J o=some b->J o'=some b->I[o]?≠some .gone->I[o']?≠some .gone->o=o'
 ef:∀b,X b->b<w.heap.size
 cV:∀o b,J o=some b->¬X b
 dC:∀b p,D b=some p->¬X b/\(∀o,J o≠some b)/\b<w.heap.size
 gg:∀b n,J.sz b=some n->(∃o,J o=some b)/\∃ws T9 fz,w.heap[b]?=some (.cells ws T9 fz)/\ws.size=n/\∀i,i<n->Qbg fz i=false
structure St (M:vn) (J:bk) (X:Nat->Prop) (D:cY) (w:World) (us:List Value) (U:List V) (I:hN):Prop where
 wd:Wd M J X D w I
 bC:aq M J us U
 own:∀p v x b,At J w us U I p v x->aJ v x=some b->D b=some p
 gr:∀p v x,At J w us U I p v x->dL M w v x
structure Ext (X:Nat->Prop) (M:vn) (J:bk) (w:World) (M':vn) (J':bk) (w':World):Prop where
 m:de M M'
 i:di J J'
 mX:∀b i,X b->M' b i=M b i
 size:w.heap.size<=w'.heap.size
 cG:∀b,X b->w'.heap[b]?=w.heap[b]?
 os:w'.os=w.os
 tape:w'.tape=w.tape
 output:w'.output=w.output
def Ext.refl(M:vn)(J:bk)(w:World):Ext k5 M J w M J w:=
 ⟨.refl _,.refl _,λ_ _ _=>rfl,vE _,λ_ _=>rfl,rfl,rfl,rfl⟩
def Ext.trans{X:Nat->Prop}{M f a:vn}{J g c:bk}{w w' d:World}(h:Ext X M J w f g w')(k:Ext X f g w' a c d):Ext X M J w a c d:=
 ⟨h.m.trans k.m,h.i.trans k.i,λb i e=>(k.mX b i e).trans (h.mX b i e),zr h.size k.size,λb e=>(k.cG b e).trans (h.cG b e),k.os.trans h.os,k.tape.trans h.tape,k.output.trans h.output⟩
def Ext.less{X X':Nat->Prop}{M:vn}{J:bk}{w:World}(h:Ext X M J w x C r)(e:∀b,X' b->X b):Ext X' M J w x C r:=
 ⟨h.m,h.i,λb i a=>h.mX b i (e b a),h.size,λb a=>h.cG b (e b a),h.os,h.tape,h.output⟩
section
variable{M:vn}{J:bk}{X:Nat->Prop}{D:cY}{w:World}{us:vB}{U:uZ}{I:hN}
def Wd.lt(h:Wd M J X D w I){b i:Nat}(c:M b i=W f):b<w.heap.size:=by
 have:=h.mem b i f c;unfold World.cell? at this;rcases Hn b w.heap.size with a|a
 ·exact a
 ·simp[T7 a]at this
def Wd.drew(h:Wd M J X D w I):Wd M J X D {w with drawn:=w.drawn+1} I:=
 ⟨h.mem,λo b a=>by have⟨O,hO,c⟩:=h.obj o b a;refine⟨O,hO,?_⟩;cases O<;>exact c,h.dv,h.inj,h.ef,h.cV,h.dC,h.gg⟩
def At.heap{w':World}(a:w'.heap=w.heap){p:Pl}{v:Value}{x:V}(h:At J w' us U I p v x):At J w us U I p v x:=by
 cases p with
 |s i=>exact h
 |c o i=>obtain⟨b,d,e,fz,f,g,j,k⟩:=h;exact⟨b,d,e,fz,f,g,a▸j,k⟩
def dL.heap{w':World}{v:Value}{x:V}(d:w'.heap=w.heap)(h:dL M w v x):dL M w' v x:=
 ⟨λe f g a b c i=>by have⟨j,k,l,m,fz,n,o⟩:=h.ok e f g a b c i;exact⟨j,k,l,m,fz,d.symm▸n,o⟩⟩
def St.drew(h:St M J X D w us U I):St M J X D {w with drawn:=w.drawn+1} us U I:=
 ⟨h.wd.drew,h.bC,λp v x b a=>h.own p v x b (At.heap (w:=w) rfl a),λp v x a=>dL.heap (w:=w) (w':={w with drawn:=w.drawn+1}) rfl (h.gr p v x (At.heap (w:=w) rfl a))⟩
def Ext.drew(M:vn)(J:bk)(w:World):Ext k5 M J w M J {w with drawn:=w.drawn+1}:=
 ⟨.refl _,.refl _,λ_ _ _=>rfl,vE _,λ_ _=>rfl,rfl,rfl,rfl⟩
def St.eA(h:St M J X D w us U I){v:Value}{x:V}(l:aB M J v x)(j:aJ v x=none)(d:Nat):St M J X D w (us.set d v) (U.set d x) I:=by
 have f:∀p u y,At J w (us.set d v) (U.set d x) I p u y->At J w us U I p u y\/(u=v/\y=x):=by
  intro p u y a;cases p with
  |c o i=>exact .inl a
  |s i=>
   obtain⟨c,e⟩:=a;rw[AZ]at c e;by_cases k:d=i
   ·subst k;rw[A9a rfl]at c e;split at c
    ·split at e
     ·cases c;cases e;exact .inr ⟨rfl,rfl⟩
     ·cases e
    ·cases c
   ·rw[O3 k]at c e;exact .inl ⟨c,e⟩
 refine⟨h.wd,h.bC.set l d,λp u y b a g => ?_,λp u y a => ?_⟩
 ·rcases f p u y a with a|⟨rfl,rfl⟩
  ·exact h.own p u y b a g
  ·rw[j]at g;cases g
 ·rcases f p u y a with a|⟨rfl,rfl⟩
  ·exact h.gr p u y a
  ·exact .du j
def St.dy(h:St M J X D w us U I)(n:Nat):St M J X D w us (U.set n (U.getD n .undef).ng) I:=by
 by_cases a:n<U.length
 ·have c:us[n]?=W (us[n]'(by rw[h.bC.1];exact a)):=vO _;have b:U[n]?=W (U[n]):=vO a;have:=h.eA ((h.bC.2 n _ _ c b).ng) (w7 _ _) n;rw[show us.set n (us[n]'(by rw[h.bC.1];exact a))=us from Ua _]at this;simpa[List.getD,b]using this
 ·rw[Xc Y];exact h
def St.ju(h:St M J X D w us U I){n d:Nat}{x:V}(C:us[n]?=W f)(A:U[n]?=W x):
  ∃D',St M J X D' w (us.set d f) ((U.set n x.ng).set d x) I/\(∀b,(D b).isNone->(D' b).isNone):=by
 have l:=h.dy n;have F:U.getD n .undef=x:=by simp[List.getD,A]
 rw[F]at l;have m:=h.bC.2 n f x C A;have q:n<U.length:=(wy.1 A).1;cases r:aJ f x with
 |none=>exact⟨D,l.eA m r d,λb r=>r⟩
 |some b=>
  have t:At J w us U I (.s n) f x:=⟨C,A⟩
  have B:=h.own _ f x b t r;refine⟨λa=>if a=b then W (.s d)else D a,⟨⟨h.wd.mem,h.wd.obj,h.wd.dv,h.wd.inj,h.wd.ef,h.wd.cV,?_,h.wd.gg⟩,l.bC.set m d,?_,?_⟩,?_⟩
  ·intro a p e;by_cases c:a=b
   ·subst c;exact h.wd.dC a _ B
   ·rw[O3 c]at e;exact h.wd.dC a p e
  ·intro p u y a E v;have k:p=.s d/\u=f/\y=x\/(p≠.s d/\At J w us (U.set n x.ng) I p u y):=by
    cases p with
    |c o i=>exact .inr ⟨u0,E⟩
    |s i=>
     obtain⟨j,g⟩:=E;rw[AZ]at j g;by_cases c:d=i
     ·subst c;rw[A9a rfl]at j g;split at j
      ·split at g
       ·cases j;cases g;exact .inl ⟨rfl,rfl,rfl⟩
       ·cases g
      ·cases j
     ·rw[O3 c]at j g;exact .inr ⟨by simpa using λe=>c e.symm,⟨j,g⟩⟩
   rcases k with ⟨rfl,rfl,rfl⟩|⟨G,z⟩
   ·rw[r]at v;cases v;rw[A9a rfl]
   ·have c:=l.own p u y a z v;by_cases e:a=b
    ·subst e;rw[B]at c;cases c;obtain⟨j,g⟩:=z;rw[Aa q]at g;cases g;rw[w7]at v;cases v
    ·rw[O3 e];exact c
  ·intro p u y k;have e:(u=f/\y=x)\/At J w us (U.set n x.ng) I p u y:=by
    cases p with
    |c o i=>exact .inr k
    |s i=>
     obtain⟨c,v⟩:=k;rw[AZ]at c v;by_cases g:d=i
     ·subst g;rw[A9a rfl]at c v;split at c
      ·split at v
       ·cases c;cases v;exact .inl ⟨rfl,rfl⟩
       ·cases v
      ·cases c
     ·rw[O3 g]at c v;exact .inr ⟨c,v⟩
   rcases e with ⟨rfl,rfl⟩|j
   ·exact h.gr _ _ _ t
   ·exact l.gr p u y j
  ·intro a c;by_cases e:a=b
   ·subst e;rw[B]at c;cases c
   ·simpa[e]using c
end
def wv(b off n:Nat):(⟨b,off,none⟩:Addr).add n=⟨b,off+n,none⟩:=by
 unfold Addr.add;split
 ·rename_i h;subst h;rfl
 ·rfl
def vF{a:Type}(P:Program)(x:a)(w:World):(pure x:Sem a).run P w=.ok x w:=rfl
def vl{b c:Type}(P:Program)(x:Sem b)(f:b->Sem c)(w:World):
  (x >>= f).run P w=(x.run P w).andThen λa w'=>(f a).run P w':=Sem.run_bind' P x f w
def Qm9{P:Program}{w:World}{a:Addr}(h:w.cell? a=W f):(load a).run P w=.ok f w:=by simp[load,Sem.run,h]
theorem GO{P:Program}{w:World}(b off:Nat):∀(vs:vB) (i:Nat) (a:wk),
  (∀(j:Nat) u,vs[j]?=W u->w.cell? ⟨b,off+(i+j),none⟩=W u)->
  (loadCellsFrom ⟨b,off,none⟩ i vs.length a).run P w=.ok (a++vs.toArray) w
 |[],i,a,_=>by simp[loadCellsFrom,vF]
 |v::vs,i,a,h=>by
  have c:=h 0 v rfl;simp only[vT,loadCellsFrom,wv];rw[vl,Qm9 (by simpa using c)];simp only[Result.andThen];rw[GO b off vs (i+1) (a.push v) (λj u d=>by have:=h (j+1) u (by simpa using d);rw[show off+(i+1+j)=off+(i+(j+1))from by omega];exact this)]
  simp
def M2{P:Program}{w:World}(b off:Nat)(vs:vB)(h:∀(j:Nat) u,vs[j]?=W u->w.cell? ⟨b,off+j,none⟩=W u):
  (loadCells ⟨b,off,none⟩ vs.length).run P w=.ok vs.toArray w:=by
 unfold loadCells;rw[GO b off vs 0 #[] (λj u a=>by simpa using h j u a)];simp
def setRow(w:World)(b:Nat)(ws:wk)(T9:TypeId)(fz:Nat×Nat):World:={w with heap:=w.heap.setIfInBounds b (.cells ws T9 fz)}
def setRow_heap(w:World)(b:Nat)(ws:wk)(T9:TypeId)(fz:Nat×Nat)(c:Nat):
  (setRow w b ws T9 fz).heap[c]?=if b=c then(if b<w.heap.size then W (.cells ws T9 fz)else none)else w.heap[c]?:=by
 simp only[setRow,T5]
def setRow_size(w:World)(b:Nat)(ws:wk)(T9:TypeId)(fz:Nat×Nat):(setRow w b ws T9 fz).heap.size=w.heap.size:=by simp[setRow]
variable{g p:TypeId}
def Qwi{b:Nat}{fz:Nat×Nat}(h:r.heap[b]?=W (.cells m g fz)):setRow r b m g fz=r:=by
 have c:=(Fa.1 h).1;have d:r.heap[b]=.cells m g fz:=by rw[Qr c]at h;exact Ew h
 unfold setRow;have:r.heap.setIfInBounds b (.cells m g fz)=r.heap:=by
  apply Array.ext
  ·simp
  ·intro i e f;rw[Xa];split
   ·rename_i a;subst a;exact d.symm
   ·rfl
 rw[this]
def bA:wk->Nat->vB->wk
 |a,_,[]=>a
 |a,i,u::b=>bA (a.setIfInBounds i u) (i+1) b
theorem Hp:∀(us:vB) (ws:wk) (i:Nat),(bA ws i us).size=ws.size
 |[],_,_=>rfl
 |u::us,ws,i=>by simp[bA,Hp us]
theorem BH:∀(us:vB) (ws:wk) (i j:Nat),i+us.length<=ws.size->
  (bA ws i us)[j]?=if i<=j/\j<i+us.length then us[j-i]? else ws[j]?
 |[],ws,i,j,_=>by
  have:¬(i<=j/\j<i+([]:vB).length):=by simp only[xJ];omega
  rw[O3 this];rfl
 |u::us,ws,i,j,h=>by
  simp only[vT]at h;simp only[bA];rw[BH us _ (i+1) j yZ,T5];by_cases a:i=j
  ·subst a;rw[O3 Y,A9a rfl,A9a Y,A9a u0];simp
  ·by_cases b:i+1<=j/\j<i+1+us.length
   ·rw[A9a b,A9a yZ];rw[show j-i=(j-(i+1))+1 from by omega];simp
   ·rw[O3 b,O3 a,O3 yZ]
def Hr{w:World}{b:Nat}{ws:wk}{T9:TypeId}{fz:Nat×Nat}(h:w.heap[b]?=W (.cells ws T9 fz))(i:Nat):w.cell? ⟨b,i,none⟩=ws[i]?:=by simp[World.cell?,h]
def Qp8{b:Nat}{fz:Nat×Nat}(h:r.heap[b]?=W (.cells m g fz))(i:Nat):r.frozen? ⟨b,i,none⟩=Qbg fz i:=by simp[World.frozen?,h,Qbg]
def Qwj{b:Nat}{fz:Nat×Nat}(h:r.heap[b]?=W (.cells m g fz))(i:Nat)(u:Value):
  r.setCell ⟨b,i,none⟩ u=setRow r b (m.setIfInBounds i u) g fz:=by
 have d:=(Fa.1 h).1;have e:r.heap[b]=.cells m g fz:=by rw[Qr d]at h;exact Ew h
 unfold World.setCell setRow;have:r.heap.modify b (fun
   | .cells c a frozen=>.cells (if(⟨b,i,none⟩:Addr).spot.isSome then c else c.setIfInBounds (⟨b,i,none⟩:Addr).off u) a frozen
   |o=>o)=r.heap.setIfInBounds b (.cells (m.setIfInBounds i u) g fz):=by
  apply Array.ext
  ·simp
  ·intro j c f;rw[Array.getElem_modify,Xa];split
   ·rename_i a;subst a;simp[e]
   ·rfl
 exact A9e (λh=>({r with heap:=h}:World)) this
def run_store{P:Program}{b:Nat}{fz:Nat×Nat}(h:r.heap[b]?=W (.cells m g fz))(i:c<m.size)(d:Qbg fz c=T)(e:f.oneCell):(store ⟨b,c,none⟩ f).run P r=.ok () (setRow r b (m.setIfInBounds c f) g fz):=by
 have w:r.cell? ⟨b,c,none⟩=W m[c]:=by rw[Hr h,Qr i]
 have a:r.frozen? ⟨b,c,none⟩=T:=by rw[Qp8 h,d]
 rw[<-Qwj h c f];unfold store;cases f<;>first|(simp[Value.oneCell]at e;done)|simp[Sem.run,w,a]
theorem yV{P:Program}(b off:Nat)(T9:TypeId)(fz:Nat×Nat):∀(us:vB) (w:World) (ws:wk) (i:Nat),
  w.heap[b]?=W (.cells ws T9 fz)->off+i+us.length<=ws.size->(∀j,off+i<=j->j<off+i+us.length->Qbg fz j=T)->(∀u∈us,u.oneCell)->
  (storeCells ⟨b,off,none⟩ us i).run P w=.ok () (setRow w b (bA ws (off+i) us) T9 fz)
 |[],w,ws,i,h,_,_,_=>by simp only[storeCells,bA];rw[Qwi h];rfl
 |u::us,w,ws,i,h,d,a,c=>by
  simp only[vT]at d a;simp only[storeCells,wv,bA];have e:b<w.heap.size:=(Fa.1 h).1;rw[vl,run_store h Y (a _ Y Y) (c u u0)];simp only[Result.andThen];have f:(setRow w b (ws.setIfInBounds (off+i) u) T9 fz).heap[b]?=W (.cells (ws.setIfInBounds (off+i) u) T9 fz):=by rw[setRow_heap,A9a rfl,A9a e]
  rw[yV b off T9 fz us _ _ (i+1) f yZ (λj k l=>a j Y Y) (λv g=>c v (by simp[g]))];congr 1;unfold setRow;simp only[Array.setIfInBounds_setIfInBounds,I6]
def Ag(w:World)(o:Obj):World:={w with heap:=w.heap.push o}
def Qlt:(Ag Q i1).heap[i9]?=if i9=Q.heap.size then W i1 else Q.heap[i9]?:=by simp only[Ag,Array.getElem?_push]
def wW:(Ag Q i1).heap.size=Q.heap.size+1:=by simp[Ag]
def RO{c:Nat}(h:c<Q.heap.size):(Ag Q i1).heap[c]?=Q.heap[c]?:=by rw[Qlt,O3 Y]
def EI:(Ag Q i1).heap[Q.heap.size]?=some i1:=by rw[Qlt,A9a rfl]
def TF(M:vn)(s:Nat)(ws:vB):vn:=λb i=>if b=s then ws[i]? else M b i
section
variable{M:vn}{J:bk}{X:Nat->Prop}{D:cY}{w:World}{us:vB}{U:uZ}{I:hN}
def Qfp.push(t:Wd M J X D w I)(g:de M x)(j:∀b i,b<w.heap.size->x b i=M b i)(a:di J C)(o:Obj){b:Nat}{O:O}(h:Qfp M J w b O)(d:b<w.heap.size):Qfp x C (Ag w o) b O:=by
 cases O with
 |cells r=>obtain⟨c,e,fz,k,m,n,p,q⟩:=h;exact⟨c,e,fz,by rw[RO w o d];exact k,m.mono g a,n,λi=>by rw[j b i d];exact p i,q⟩
 |mp s=>obtain⟨r,c,q,k⟩:=h;exact⟨r,c,by rw[RO w o d];exact q,k.1,λi e p m n=>⟨(k.2 i e p m n).1.mono g a,(k.2 i e p m n).2.mono g a⟩⟩
 |si r k=>obtain⟨s,c,e⟩:=h;exact⟨s,by rw[RO w o d];exact c,e⟩
 |gone=>trivial
end
variable{g8:Obj}{j2:AQ}
section
variable{M:vn}{J:bk}{X:Nat->Prop}{D:cY}{w:World}{us:vB}{U:uZ}{I:hN}
def yf{s:Nat}{b:Nat}(h:b≠s):TF M s l b c=M b c:=by unfold TF;rw[O3 h]
def Ow{s:Nat}:TF M s l s c=l[c]?:=by unfold TF;rw[A9a rfl]
def Wd.dT(h:Wd M J X D w I)(ws:vB):de M (TF M w.heap.size ws):=
 ⟨λb i u a=>by rw[yf (by have:=h.lt a;omega)];exact a⟩
def Wd.push(h:Wd M J X D w I)(o:Obj)(ws:vB)(g:∀(i:Nat) u,ws[i]?=W u->∃ars T9 fz,o=.cells ars T9 fz/\ars[i]?=W u):
  Wd (TF M w.heap.size ws) J X D (Ag w o) I:=by
 refine⟨λb i u a => ?_,λc b d => ?_,λc b d => ?_,h.inj,λb j => ?_,h.cV,λb p k => ?_,λb n l => ?_⟩
 ·by_cases f:b=w.heap.size
  ·subst f;rw[Ow]at a;obtain⟨ars,T9,fz,rfl,e⟩:=g i u a;rw[Hr (EI w _)];exact e
  ·rw[yf f]at a;have:=h.mem b i u a;rw[<-this];have e:=h.lt a;simp only[World.cell?,RO w o e]
 ·have⟨O,hO,e⟩:=h.obj c b d;exact⟨O,hO,e.push h (h.dT ws) (λb i f=>yf Y) (.refl _) o (h.dv c b d)⟩
 ·have:=h.dv c b d;rw[wW];omega
 ·have:=h.ef b j;rw[wW];omega
 ·have⟨e,f,m⟩:=h.dC b p k;exact⟨e,f,by rw[wW];omega⟩
 ·have⟨f,ars,T9,fz,e,m⟩:=h.gg b n l;exact⟨f,ars,T9,fz,by rw[RO w o (Fa.1 e).1];exact e,m⟩
def Ext.push(h:Wd M J X D w I)(o:Obj)(ws:vB):Ext X M J w (TF M w.heap.size ws) J (Ag w o):=
 ⟨h.dT ws,.refl _,λb i a=>yf (by have:=h.ef b a;omega),by rw[wW];omega,λb a=>RO w o (h.ef b a),rfl,rfl,rfl⟩
def At.push(h:Wd M J X D w I){p:Pl}(a:At J (Ag w g8) us U I p f d):At J w us U I p f d:=by
 cases p with
 |s i=>exact a
 |c q i=>obtain⟨b,x,g,fz,j,v,e,k⟩:=a;rw[RO w g8 (h.dv q b v)]at e;exact⟨b,x,g,fz,j,v,e,k⟩
def dL.push(h:dL M w f d)(o:Obj)(ws:vB)(s:∀a len cap,f=.slice (W a) len cap->∀b,aJ f d=W b->b<w.heap.size):
  dL (TF M w.heap.size ws) (Ag w o) f d:=by
 refine⟨λx g j a len cap k => ?_⟩;have⟨l,m,c,n,fz,e,p,q⟩:=h.ok x g j a len cap k;have v:a.block<w.heap.size:=(Fa.1 e).1;exact⟨l,λi r=>by rw[yf Y];exact m i r,c,n,fz,by rw[RO w o v];exact e,p,q⟩
def St.push(h:St M J X D w us U I)(o:Obj)(ws:vB)(e:∀(i:Nat) u,ws[i]?=W u->∃ars T9 fz,o=.cells ars T9 fz/\ars[i]?=W u):
  St (TF M w.heap.size ws) J X D (Ag w o) us U I:=
 ⟨h.wd.push o ws e,h.bC.mono (h.wd.dT ws) (.refl _),λp v x b c d=>h.own p v x b (At.push h.wd c) d,λp v x c=>(h.gr p v x (At.push h.wd c)).push o ws λa f g j b d=>(h.wd.dC b _ (h.own p v x b (At.push h.wd c) d)).2.2⟩
def St.kP(h:St M J X D w us U I)(n:aB M J f d){b:Nat}(q:aJ f d=W b)(r:D b=none)(t:¬X b)(k:∀o,J o≠W b)(l:b<w.heap.size)(z:dL M w f d)(v:Nat):∃D',St M J X D' w (us.set v f) (U.set v d) I:=by
 have j:∀p u y,At J w (us.set v f) (U.set v d) I p u y->(p≠.s v/\At J w us U I p u y)\/(p=.s v/\u=f/\y=d):=by
  intro p u y a;cases p with
  |c o i=>exact .inl ⟨u0,a⟩
  |s i=>
   obtain⟨c,g⟩:=a;rw[AZ]at c g;by_cases m:v=i
   ·subst m;rw[A9a rfl]at c g;split at c
    ·split at g
     ·cases c;cases g;exact .inr ⟨rfl,rfl,rfl⟩
     ·cases g
    ·cases c
   ·rw[O3 m]at c g;exact .inl ⟨by simpa using λe=>m e.symm,⟨c,g⟩⟩
 refine⟨λx=>if x=b then W (.s v)else D x,⟨h.wd.mem,h.wd.obj,h.wd.dv,h.wd.inj,h.wd.ef,h.wd.cV,?_,h.wd.gg⟩,h.bC.set n v,?_,?_⟩
 ·intro x p g;by_cases c:x=b
  ·subst c;exact⟨t,k,l⟩
  ·simp only[c,A9d]at g;exact h.wd.dC x p g
 ·intro p u y x a c;rcases j p u y a with ⟨m,a⟩|⟨rfl,rfl,rfl⟩
  ·have g:=h.own p u y x a c;have i:x≠b:=λe=>by subst e;rw[r]at g;cases g
   simp only[i,A9d];exact g
  ·rw[q]at c;cases c;simp
 ·intro p u y a;rcases j p u y a with ⟨c,a⟩|⟨rfl,rfl,rfl⟩
  ·exact h.gr p u y a
  ·exact z
def Wp3(h:Wd M J X D w I):D w.heap.size=none:=by
 cases a:D w.heap.size with
 |none=>rfl
 |some p=>have:=(h.dC _ p a).2.2;omega
def ki(h:Wd M J X D w I):∀o,J o≠W w.heap.size:=λo a=>by have:=h.dv o _ a;omega
def St.newRow(h:St M J X D w us U I)(ars:wk)(T9:TypeId)(fz:Nat×Nat)(xs:uZ)(c:bU)(cap sz:Nat)(t:aq M J (ars.toList.take (xs.flatMap V.cells).length) (xs.flatMap V.cells))(v:∀y∈xs,y.cells.length=sz)(j:xs.length<=cap)(p:c=.fx->cap=xs.length)(q:∀s,c=.gr s->s=sz/\cap*sz<=ars.size/\∀i,(xs.flatMap V.cells).length<=i->i<ars.size->Qbg fz i=T)(d:Nat):
  ∃a D',Ext X M J w a J (Ag w (.cells ars T9 fz))/\St a J X D' (Ag w (.cells ars T9 fz)) (us.set d (.slice (W ⟨w.heap.size,0,none⟩) xs.length cap)) (U.set d (.sl xs c)) I/\
   aB a J (.slice (W ⟨w.heap.size,0,none⟩) xs.length cap) (.sl xs c):=by
 generalize x:(xs.flatMap V.cells).length=k at*;have A:=h.wd.dT (ars.toList.take k);have l:=h.push (.cells ars T9 fz) (ars.toList.take k) (λi u f=>⟨ars,T9,fz,rfl,by
  rw[xP]at f;split at f
  ·simpa using f
  ·cases f⟩)
 have e:aB (TF M w.heap.size (ars.toList.take k)) J (.slice (W ⟨w.heap.size,0,none⟩) xs.length cap) (.sl xs c):=
  .sl xs c w.heap.size 0 cap sz (ars.toList.take k) v (by rw[t.1]) (λi u f=>by simpa[Ow]using f) (λi u y f a=>(t.2 i u y f a).mono A (.refl _)) j p
 cases m:aJ (.slice (W ⟨w.heap.size,0,none⟩) xs.length cap) (.sl xs c)with
 |none=>exact⟨_,D,Ext.push h.wd _ _,l.eA e m d,e⟩
 |some b=>
  have B:b=w.heap.size:=by cases c<;>simp[aJ]at m;exact m.symm
  subst B;obtain⟨s,C⟩:∃s,c=.gr s:=by cases c<;>simp[aJ]at m;exact⟨_,rfl⟩
  subst C;obtain⟨rfl,g,n⟩:=q s rfl;have⟨D',o⟩:=l.kP e m (Wp3 h.wd) (λr=>by have:=h.wd.ef _ r;omega) (ki h.wd) (by rw[wW];omega)
   ⟨λE F r a G z H=>by cases r;cases H;refine⟨v,λi K => ?_,ars,T9,fz,EI w _,by simpa using g,λi L N=>n i (by simpa[x]using L) N⟩;rw[Ow,xP];rw[O3 (by simp only[x,xr]at K;omega)]⟩ d
  exact⟨_,D',Ext.push h.wd _ _,o,e⟩
def bk.more(J:bk)(q b:Nat)(n:AQ):bk:=⟨λo=>if o=q then some b else J o,λc=>if c=b then n else J.sz c⟩
def Wp4{b:Nat}:J.more c b j2 h=if h=c then W b else J h:=rfl
def Qg{b:Nat}{n:AQ}:(J.more c b n).sz h=if h=b then n else J.sz h:=rfl
def Wd.j'(h:Wd M J X D w I){n:AQ}(g:J c=none):di J (J.more c w.heap.size n):=
 ⟨λo b d=>by
  rw[Wp4];by_cases e:o=c
  ·subst e;rw[g]at d;cases d
  ·rw[O3 e];exact d,λq k f=>by
  rw[Qg];by_cases a:q=w.heap.size
  ·subst a;have⟨_,j,l,fz,i,_⟩:=h.gg _ k f;have:=(Fa.1 i).1;omega
  ·rw[O3 a];exact f⟩
def St.nk(h:St M J X D w us U I)(z:J I.length=none)(ob:Obj)(O:O)(hO:∀y m,de M y->di J m->(∀i,y w.heap.size i=none)->Qfp y m (Ag w ob) w.heap.size O)(G:∀cs,O=.cells cs->∀c∈cs,∀v,aJ v c=none){n:AQ}(H:∀k,n=W k->∃ars T9 fz,ob=.cells ars T9 fz/\ars.size=k/\∀i,i<k->Qbg fz i=T):
  ∃y m,Ext X M J w y m (Ag w ob)/\m I.length=W w.heap.size/\St y m X D (Ag w ob) us U (I++[O])/\(∀o,o≠I.length->m o=J o)/\m.sz w.heap.size=n:=by
 have f:=h.push ob [] (λi u R=>by simp at R);have K:=h.wd.dT [];have g:=h.wd.j' (n:=n) z;have d o:J.more I.length w.heap.size n o=if o=I.length then W w.heap.size else J o:=rfl
 refine⟨TF M w.heap.size [],J.more I.length w.heap.size n,⟨K,g,λb i A=>yf (by have:=h.wd.ef b A;omega),by rw[wW];omega,λb A=>RO w _ (h.wd.ef b A),rfl,rfl,rfl⟩,by rw[d,A9a rfl],⟨⟨f.wd.mem,?_,?_,?_,f.wd.ef,?_,?_,?_⟩,f.bC.mono (.refl _) g,?_,?_⟩,λo a=>by rw[d,O3 a],by rw[Qg,A9a rfl]⟩
 ·intro o b e;rw[d]at e;by_cases a:o=I.length
  ·subst a;rw[A9a rfl]at e;cases e;exact⟨O,u0,hO _ _ K g λi=>by rw[Ow];simp⟩
  ·rw[O3 a]at e;have⟨P,l,q⟩:=h.wd.obj o b e;refine⟨P,by rw[AH (wy.1 l).1];exact l,?_⟩;exact q.push h.wd K (λb i e=>yf Y) g _ (h.wd.dv o b e)
 ·intro o b e;rw[d]at e;by_cases a:o=I.length
  ·rw[A9a a]at e;cases e;rw[wW];omega
  ·rw[O3 a]at e;exact f.wd.dv o b e
 ·intro o s b q e Q B;rw[d]at q e;by_cases a:o=I.length
  ·by_cases C:s=I.length
   ·rw[a,C]
   ·rw[A9a a]at q;rw[O3 C]at e;cases q;exact absurd e (ki h.wd s)
  ·by_cases C:s=I.length
   ·rw[O3 a]at q;rw[A9a C]at e;cases e;exact absurd q (ki h.wd o)
   ·rw[O3 a]at q;rw[O3 C]at e;have⟨_,L,_⟩:=h.wd.obj o b q;have⟨_,N,_⟩:=h.wd.obj s b e;rw[AH (wy.1 L).1]at Q;rw[AH (wy.1 N).1]at B;exact h.wd.inj o s b q e Q B
 ·intro o b e;rw[d]at e;by_cases a:o=I.length
  ·rw[A9a a]at e;cases e;intro A;have:=h.wd.ef _ A;omega
  ·rw[O3 a]at e;exact h.wd.cV o b e
 ·intro b p q;have⟨r,t,E⟩:=h.wd.dC b p q;refine⟨r,λo a => ?_,by rw[wW];omega⟩;rw[d]at a;by_cases e:o=I.length
  ·rw[A9a e]at a;cases a;omega
  ·rw[O3 e]at a;exact t o a
 ·intro b k e;rw[Qg]at e;by_cases q:b=w.heap.size
  ·subst q;rw[A9a rfl]at e;obtain⟨ars,T9,fz,rfl,r,t⟩:=H k e;exact⟨⟨I.length,by rw[d,A9a rfl]⟩,ars,T9,fz,EI w _,r,t⟩
  ·rw[O3 q]at e;have⟨⟨o,a⟩,t⟩:=f.wd.gg b k e;exact⟨⟨o,g.le o b a⟩,t⟩
 all_goals
  have F:∀p v x,At (J.more I.length w.heap.size n) (Ag w ob) us U (I++[O]) p v x->At J (Ag w ob) us U I p v x\/aJ v x=none:=by
   intro p v x j;cases p with
   |s i=>exact .inl j
   |c o i=>
    obtain⟨b,C,L,q,e,r,t,E,N,B⟩:=j;rw[d]at r;by_cases a:o=I.length
    ·subst a;simp at E;exact .inr (G e E x (Ah B) v)
    ·rw[O3 a]at r;have s:o<I.length:=by have⟨P,l,_⟩:=h.wd.obj o b r;exact(wy.1 l).1
     rw[AH s]at E;exact .inl ⟨b,C,L,q,e,r,t,E,N,B⟩
 ·intro p v x b j e;rcases F p v x j with j|q
  ·exact f.own p v x b j e
  ·rw[q]at e;cases e
 ·intro p v x j;rcases F p v x j with j|e
  ·exact f.gr p v x j
  ·exact .du e
def St.newObj(h:St M J X D w us U I)(b:J I.length=none)(ars:wk)(T9:TypeId)(fz:Nat×Nat)(cs:uZ)(l:aq M J (ars.toList.take cs.length) cs)(d:∀i,i<ars.size->Qbg fz i=T)(e:∀c∈cs,c.one)(f:∀c∈cs,∀v,aJ v c=none):
  ∃g a,Ext X M J w g a (Ag w (.cells ars T9 fz))/\a I.length=W w.heap.size/\St g a X D (Ag w (.cells ars T9 fz)) us U (I++[.cells cs])/\(∀o,o≠I.length->a o=J o)/\a.sz w.heap.size=W ars.size:=by
 have s:cs.length<=ars.size:=by have:=l.1;simp at this;omega
 exact h.nk b (.cells ars T9 fz) (.cells cs) (λg a m j n=>⟨ars,T9,fz,EI w _,l.mono m j,λi t=>d i Y,n,e⟩) (λp q=>by cases q;exact f) (λk r=>by cases r;exact⟨ars,T9,fz,rfl,rfl,d⟩)
def Wd.h'(h:Wd M J X D w I){o:Nat}(c:I.length<=o):J o=none:=by
 cases a:J o with
 |none=>rfl
 |some b=>have⟨O,hO,_⟩:=h.obj o b a;have:=(wy.1 hO).1;omega
end
variable{k4:Type}
def Qkr{l:List k4}{u:k4}(h:l[c]?=W u):l.set c u=l:=by obtain⟨b,rfl⟩:=wy.1 h;exact Ua b
theorem AX:∀(cs:uZ) (off:Nat) (ds:uZ),(RK cs off ds).length=cs.length
 |cs,_,[]=>by unfold RK;rfl
 |[],_,_::_=>by simp[RK]
 |_::cs,0,x::a=>by simp[RK,AX cs 0 a]
 |c::cs,n+1,x::a=>by simp[RK,AX cs n (x::a)]
theorem Ph:∀(cs:uZ) (off:Nat) (ds:uZ) (j:Nat),off+ds.length<=cs.length->
  (RK cs off ds)[j]?=if off<=j/\j<off+ds.length then ds[j-off]? else cs[j]?
 |cs,off,[],j,_=>by rw[O3 (by simp only[xJ];omega)];unfold RK;rfl
 |[],off,x::a,j,h=>by simp at h
 |c::cs,0,x::a,j,h=>by
  simp only[RK];cases j with
  |zero=>simp
  |succ j=>simp only[M8];rw[Ph cs 0 a j (by simp at h ⊢; exact h)];simp only[wV,true_and,xr,vT,OY,Nat.add_lt_add_iff_right,M8]
 |c::cs,n+1,x::a,j,h=>by
  simp only[RK];cases j with
  |zero=>simp
  |succ j=>
   simp only[M8];rw[Ph cs n (x::a) j (by simp at h ⊢; omega)];simp only[Nat.add_le_add_iff_right,Nat.add_sub_add_right];by_cases b:n<=j/\j<n+(x::a).length
   ·rw[A9a b,A9a Y]
   ·rw[O3 b,O3 Y]
variable{k0:O}
section
variable{M:vn}{J:bk}{X:Nat->Prop}{D:cY}{w:World}{us:vB}{U:uZ}{I:hN}
def DL{B:O}(b:I[c]?=W k0)(q:(I.set c B)[h]?≠W .gone)(hO:k0≠.gone:=by simp):I[h]?≠W .gone:=by
 by_cases a:c=h
 ·subst a;rw[b];simpa using hO
 ·rwa[CQ a]at q
def Ext.setRow{b:Nat}(d:¬X b)(ws:wk)(T9:TypeId)(fz:Nat×Nat):Ext X M J w M J (setRow w b ws T9 fz):=
 ⟨.refl _,.refl _,λ_ _ _=>rfl,by rw[setRow_size];exact vE _,λc f=>by
  have a:b≠c:=λe=>by subst e;exact d f
  rw[setRow_heap,O3 a],rfl,rfl,rfl⟩
def Qfp.setRow{b c:Nat}{O:O}{ws:wk}{T9:TypeId}{fz:Nat×Nat}(h:Qfp M J w c O)(a:b≠c):Qfp M J (setRow w b ws T9 fz) c O:=by
 cases O with
 |cells j=>obtain⟨d,f,e,g,i⟩:=h;exact⟨d,f,e,by rw[setRow_heap,O3 a];exact g,i⟩
 |mp g=>obtain⟨f,k,d,e⟩:=h;exact⟨f,k,by rw[setRow_heap,O3 a];exact d,e⟩
 |si r f=>obtain⟨s,d,e⟩:=h;exact⟨s,by rw[setRow_heap,O3 a];exact d,e⟩
 |gone=>trivial
def Wd.i'(h:Wd M J X D w I){b:Nat}{ws:wk}{T9:TypeId}{fz:Nat×Nat}(j:w.heap[b]?=W (.cells ws T9 fz))(d:m.size=ws.size)(c n:Nat)(p:J.sz c=W n):
  (∃o,J o=W c)/\∃ars f a,(Ev.setRow w b m T9 fz).heap[c]?=W (.cells ars f a)/\ars.size=n/\∀i,i<n->Qbg a i=T:=by
 have⟨q,ars,f,a,g,k,l⟩:=h.gg c n p;refine⟨q,?_⟩;by_cases e:b=c
 ·subst e;rw[j]at g;cases g;exact⟨m,T9,fz,by rw[setRow_heap,A9a rfl,A9a (Fa.1 j).1],by rw[d];exact k,l⟩
 ·exact⟨ars,f,a,by rw[setRow_heap,O3 e];exact g,k,l⟩
def dL.setRow{v:Value}{x:V}{b:Nat}{ws:wk}{T9:TypeId}{fz:Nat×Nat}(h:dL M w v x)(k:∀c,aJ v x=W c->b≠c):dL M (setRow w b ws T9 fz) v x:=by refine⟨λl m i a d e j => ?_⟩;have⟨n,o,f,p,g,q,r⟩:=h.ok l m i a d e j;exact⟨n,o,f,p,g,by rw[setRow_heap,O3 (k a.block (by rw[i,j];rfl))];exact q,r⟩
def St.setObj(h:St M J X D w us U I){o b off:Nat}(a:J o=W b)(ds:I[o]?=W (.cells e)){ws:wk}{T9:TypeId}{fz:Nat×Nat}(Q:w.heap[b]?=W (.cells ws T9 fz))(q:aq M J l y)(hl:off+y.length<=e.length)(G:∀c∈y,c.one)(R:∀c∈y,∀v,aJ v c=none):
  St M J X D (setRow w b (bA ws off l) T9 fz) us U (I.set o (.cells (RK e off y)))/\Ext X M J w M J (setRow w b (bA ws off l) T9 fz):=by
 have hX:=h.wd.cV o b a;have H:=h.wd.dv o b a;have K:o<I.length:=(wy.1 ds).1;have⟨O,hO,S⟩:=h.wd.obj o b a;rw[ds]at hO;cases hO;obtain⟨a0,T',L,h1,h2,h3,h4,h5⟩:=S;rw[Q]at h1;cases h1;have a1:e.length<=ws.size:=by have:=h2.1;simp at this;omega
 have N:l.length=y.length:=q.1;have r:∀j,(bA ws off l)[j]?=if off<=j/\j<off+l.length then l[j-off]? else ws[j]?:=λj=>BH l ws off j Y
 have d:∀j,(RK e off y)[j]?=if off<=j/\j<off+y.length then y[j-off]? else e[j]?:=λj=>Ph e off y j hl
 have z:aq M J ((bA ws off l).toList.take (RK e off y).length) (RK e off y):=by
  refine⟨by simp[Hp,AX];omega,λi u c n f => ?_⟩;rw[xP]at n;split at n
  ·rename_i s;rw[Hg,r i]at n;rw[d i,<-N]at f;by_cases vs:off<=i/\i<off+l.length
   ·rw[A9a vs]at n f;exact q.2 _ u c n f
   ·rw[O3 vs]at n f;refine h2.2 i u c ?_ f;rw[xP,A9a (by rw[AX]at s;exact s)];simpa using n
  ·cases n
 have P:∀p v x,At J (Ev.setRow w b (bA ws off l) T9 fz) us U (I.set o (.cells (RK e off y))) p v x->At J w us U I p v x\/aJ v x=none:=by
  intro p v x m;cases p with
  |s i=>exact .inl m
  |c t i=>
   obtain⟨b',s,T',L,V,C,E,A,F,n⟩:=m;by_cases g:o=t
   ·subst g;rw[a]at C;cases C;rw[setRow_heap,A9a rfl,A9a H]at E;cases E;rw[Aa K]at A;cases A;rw[r i]at F;rw[d i,<-N]at n;by_cases vs:off<=i/\i<off+l.length
    ·rw[A9a vs]at n;exact .inr (R x (Ah n) v)
    ·rw[O3 vs]at F n;exact .inl ⟨b,ws,_,_,e,a,Q,ds,F,n⟩
   ·rw[CQ g]at A;have B:b≠b':=λcs=>g (h.wd.inj o t b a (cs▸C) (by rw[ds];simp) (by rw[A];simp));rw[setRow_heap,O3 B]at E;exact .inl ⟨b',s,T',L,V,C,E,A,F,n⟩
 refine⟨⟨⟨λc i u hm => ?_,λt c k => ?_,λt c k=>by rw[setRow_size];exact h.wd.dv t c k,λq j c C E A F=>h.wd.inj q j c C E (DL ds A) (DL ds F),λc f=>by rw[setRow_size];exact h.wd.ef c f,h.wd.cV,
  λc p s=>by rw[setRow_size];exact h.wd.dC c p s,λc n V=>h.wd.i' Q (Hp _ _ _) c n V⟩,h.bC,λp v x c m f => ?_,λp v x m => ?_⟩,Ext.setRow hX _ _ _⟩
 ·have n:b≠c:=λcs=>by subst cs;rw[h4]at hm;cases hm
  have:=h.wd.mem c i u hm;simp only[World.cell?,setRow_heap,O3 n];simpa[World.cell?]using this
 ·by_cases g:o=t
  ·subst g;rw[a]at k;cases k;refine⟨_,Aa K,bA ws off l,T9,fz,by rw[setRow_heap,A9a rfl,A9a H],z,λi a=>h3 i (by rw[AX]at a;exact a),h4,λc f => ?_⟩;have⟨i,a⟩:=Qt.1 f;rw[d i]at a;split at a
   ·exact G c (Ah a)
   ·exact h5 c (Ah a)
  ·have⟨V,n,s⟩:=h.wd.obj t c k;refine⟨V,by rw[CQ g];exact n,?_⟩;by_cases hg:V=.gone
   ·subst hg;trivial
   ·have B:b≠c:=λcs=>g (h.wd.inj o t b a (cs▸k) (by rw[ds];simp) (by rw[n];simpa using hg));exact s.setRow B
 ·rcases P p v x m with m|n
  ·exact h.own p v x c m f
  ·rw[n]at f;cases f
 ·rcases P p v x m with m|n
  ·exact(h.gr p v x m).setRow λc f=>λcs=>by subst cs;exact(h.wd.dC _ _ (h.own p v x _ m f)).2.1 o a
  ·exact .du n
def St.ia(cs:St M J X D w us U I){o:Nat}(f:I[o]?=W (.cells e))(L:e[h]?=W d)(E:i.one)(F:∀v,aB M J v d->aB M J v i)(G:∀v,aJ v i=none):
  St M J X D w us U (I.set o (.cells (e.set h i))):=by
 have g:o<I.length:=(wy.1 f).1;have H:h<e.length:=(wy.1 L).1;have k:∀p v z,At J w us U (I.set o (.cells (e.set h i))) p v z->At J w us U I p v z\/aJ v z=none:=by
  intro p v z x;cases p with
  |s j=>exact .inl x
  |c n j=>
   obtain⟨b,r,t,fz,s,A,B,y,C,l⟩:=x;by_cases a:o=n
   ·subst a;rw[Aa g]at y;cases y;by_cases m:h=j
    ·subst m;rw[Aa H]at l;cases l;exact .inr (G _)
    ·rw[CQ m]at l;exact .inl ⟨b,r,t,fz,e,A,B,f,C,l⟩
   ·rw[CQ a]at y;exact .inl ⟨b,r,t,fz,s,A,B,y,C,l⟩
 refine⟨⟨cs.wd.mem,λn b P => ?_,cs.wd.dv,λq Q c A B y C=>cs.wd.inj q Q c A B (DL f y) (DL f C),cs.wd.ef,cs.wd.cV,cs.wd.dC,cs.wd.gg⟩,cs.bC,λp v z b x K => ?_,λp v z x => ?_⟩
 ·have⟨O,hO,s⟩:=cs.wd.obj n b P;by_cases a:o=n
  ·subst a;rw[f]at hO;cases hO;obtain⟨r,t,fz,R,N,S,y,h5⟩:=s;refine⟨_,Aa g,r,t,fz,R,?_,λj f=>S j (by simpa using f),y,λc l => ?_⟩
   ·rw[GR];have⟨u,y,m⟩:=N.get L;have:=N.set (F _ m) h
    rwa[Qkr y]at this
   ·rcases Xcz l with l|rfl
    ·exact h5 c l
    ·exact E
  ·exact⟨O,by rw[CQ a];exact hO,s⟩
 ·rcases k p v z x with x|l
  ·exact cs.own p v z b x K
  ·rw[l]at K;cases K
 ·rcases k p v z x with x|l
  ·exact cs.gr p v z x
  ·exact .du l
def St.ib(o:St M J X D w us U I)(b:I[c]?=W (.cells e))(x:e[h]?=W d)(a:d.ng.one):
  St M J X D w us U (I.set c (.cells (e.set h d.ng))):=o.ia b x a (λ_ cs=>cs.ng) (λ_=>w7 _ _)
end
section
variable{M:vn}{J:bk}{X:Nat->Prop}{D:cY}{w:World}{us:vB}{U:uZ}{I:hN}
structure jv (M:vn) (J:bk) (X:Nat->Prop) (D:cY) (w:World) (b:Nat):Prop where
 k:D b=none
 x:¬X b
 i:∀o,J o≠some b
 lt:b<w.heap.size
def St.release(h:St M J X D w us U I)(b:Nat)(g:∀p v x,At J w us U I p v x->aJ v x≠W b):St M J X (λc=>if c=b then none else D c) w us U I:=
 ⟨⟨h.wd.mem,h.wd.obj,h.wd.dv,h.wd.inj,h.wd.ef,h.wd.cV,λc p e=>by
  by_cases a:c=b
  ·simp only[a,A9c]at e;cases e
  ·simp only[a,A9d]at e;exact h.wd.dC c p e,h.wd.gg⟩,h.bC,λp v x c f a=>by
  by_cases d:c=b
  ·subst d;exact absurd a (g p v x f)
  ·simp only[d,A9d];exact h.own p v x c f a,h.gr⟩
def St.gh(h:St M J X D w us U I){b:Nat}{v:Value}{x:V}(k:us[c]?=W v)(e:U[c]?=W x)(l:aJ v x=W b):
  ∃D',St M J X D' w us (U.set c x.ng) I/\jv M J X D' w b/\dL M w v x:=by
 have a:At J w us U I (.s c) v x:=⟨k,e⟩
 have d:=h.own _ v x b a l;have f:=h.dy c;have m:U.getD c .undef=x:=by simp[List.getD,e]
 rw[m]at f;have n:c<U.length:=(wy.1 e).1;refine⟨_,f.release b λp u y i g => ?_,⟨u0,(h.wd.dC b _ d).1,(h.wd.dC b _ d).2.1,(h.wd.dC b _ d).2.2⟩,h.gr _ _ _ a⟩;have:=f.own p u y b i g;rw[d]at this;cases this;obtain⟨o,j⟩:=i;rw[Aa n]at j;cases j;rw[w7]at g;cases g
def St.jw(T9:St M J X D w us U I){b:Nat}(t:J c=W F){fz:Nat×Nat}(z:w.heap[F]?=W (.cells m g fz))(i:I[c]?=W (.cells e))(A:m[h]?=W f)(o:e[h]?=W d)(cs:aJ f d=W b):
  ∃D',St M J X D' w us U (I.set c (.cells (e.set h d.ng)))/\jv M J X D' w b/\dL M w f d:=by
 have a:At J w us U I (.c c h) f d:=⟨F,m,g,fz,e,t,z,i,A,o⟩
 have x:=T9.own _ f d b a cs;have v:d.ng.one:=by rw[V.dx];cases d<;>first|rfl|simp[aJ]at cs
 have n:=T9.ib i o v;have j:c<I.length:=(wy.1 i).1;have k:h<e.length:=(wy.1 o).1;refine⟨_,n.release b λp u y q l => ?_,⟨u0,(T9.wd.dC b _ x).1,(T9.wd.dC b _ x).2.1,(T9.wd.dC b _ x).2.2⟩,T9.gr _ _ _ a⟩;have:=n.own p u y b q l;rw[x]at this;cases this;obtain⟨ws,B,G,C,E,H,K,r,L,s⟩:=q;rw[Aa j]at r;cases r;rw[Aa k]at s;cases s;rw[w7]at l;cases l
def St.jx(h:St M J X D w us U I){v:Value}{x:V}(c:aB M J v x){b:Nat}(e:aJ v x=W b)(a:jv M J X D w b)(f:dL M w v x)(d:Nat):
  ∃D',St M J X D' w (us.set d v) (U.set d x) I:=h.kP c e a.k a.x a.i a.lt f d
def St.kQ(h:St M J X D w us U I){o i:Nat}{v:Value}{x:V}(K:J o=W c){ws:wk}{T9:TypeId}{fz:Nat×Nat}(F:w.heap[c]?=W (.cells ws T9 fz))(r:I[o]?=W (.cells e))(N:ws[i]?=W v)(P:i<e.length)(R:aB M J v x)(L:x.one){b:Nat}(S:aJ v x=W b)(G:jv M J X D w b)(hg:dL M w v x):
  ∃D',St M J X D' w us U (I.set o (.cells (e.set i x))):=by
 have t:o<I.length:=(wy.1 r).1;have z:∀p u y,At J w us U (I.set o (.cells (e.set i x))) p u y->(p≠.c o i/\At J w us U I p u y)\/(p=.c o i/\u=v/\y=x):=by
  intro p u y d;cases p with
  |s j=>exact .inl ⟨u0,d⟩
  |c H j=>
   obtain⟨f,A,Q,B,s,C,E,m,n,l⟩:=d;by_cases a:o=H
   ·subst a;rw[K]at C;cases C;rw[F]at E;cases E;rw[Aa t]at m;cases m;by_cases g:i=j
    ·subst g;rw[Aa P]at l;cases l;rw[N]at n;cases n;exact .inr ⟨rfl,rfl,rfl⟩
    ·rw[CQ g]at l;exact .inl ⟨by simpa using λcs=>g cs.symm,⟨_,_,_,_,e,K,F,r,n,l⟩⟩
   ·rw[CQ a]at m;exact .inl ⟨by simpa using λcs=>absurd cs.symm a,⟨f,A,Q,B,s,C,E,m,n,l⟩⟩
 refine⟨λf=>if f=b then W (.c o i)else D f,⟨h.wd.mem,λH x k => ?_,h.wd.dv,λq q' c C E m n=>h.wd.inj q q' c C E (DL r m) (DL r n),h.wd.ef,h.wd.cV,?_,h.wd.gg⟩,h.bC,?_,?_⟩
 ·have⟨O,hO,g⟩:=h.wd.obj H x k;by_cases a:o=H
  ·subst a;rw[K]at k;cases k;rw[r]at hO;cases hO;obtain⟨A,Q,B,s,h2,h3,h4,h5⟩:=g;rw[F]at s;cases s;refine⟨_,Aa t,ws,T9,fz,F,?_,λj k=>h3 j (by simpa using k),h4,λc l => ?_⟩
   ·rw[GR];have:=h2.set R i
    rwa[Qkr (show(ws.toList.take e.length)[i]?=W v by rw[xP,A9a P];simpa using N)]at this
   ·rcases Xcz l with l|rfl
    ·exact h5 c l
    ·exact L
  ·exact⟨O,by rw[CQ a];exact hO,g⟩
 ·intro f p l;by_cases g:f=b
  ·subst g;exact⟨G.x,G.i,G.lt⟩
  ·simp only[g,A9d]at l;exact h.wd.dC f p l
 ·intro p u y f d g;rcases z p u y d with ⟨hp,d⟩|⟨rfl,rfl,rfl⟩
  ·have l:=h.own p u y f d g;have s:f≠b:=λcs=>by subst cs;rw[G.k]at l;cases l
   simp only[s,A9d];exact l
  ·rw[S]at g;cases g;simp
 ·intro p u y d;rcases z p u y d with ⟨g,d⟩|⟨rfl,rfl,rfl⟩
  ·exact h.gr p u y d
  ·exact hg
def Yp(M:vn)(b s:Nat)(vs:vB):vn:=λc i=>if c=b/\s<=i/\i<s+vs.length then vs[i-s]? else M c i
def Wj7{b s:Nat}{vs:vB}(e:∀i,s<=i->M b i=none):de M (Yp M b s vs):=
 ⟨λc i u a=>by
  unfold Yp;by_cases d:c=b/\s<=i/\i<s+vs.length
  ·obtain⟨rfl,f,_⟩:=d;rw[e i f]at a;cases a
  ·rw[O3 d];exact a⟩
def St.fill(h:St M J X D w us U I){b s:Nat}(z:jv M J X D w b){fz:Nat×Nat}(K:w.heap[b]?=W (.cells m g fz)){vs:vB}(P:∀i,s<=i->M b i=none)(Q:s+vs.length<=m.size):
  St (Yp M b s vs) J X D (setRow w b (bA m s vs) g fz) us U I/\Ext X M J w (Yp M b s vs) J (setRow w b (bA m s vs) g fz):=by
 have f:=Wj7 (M:=M) (vs:=vs) P;have B:∀j,(bA m s vs)[j]?=if s<=j/\j<s+vs.length then vs[j-s]? else m[j]?:=λj=>BH vs m s j Q
 have d:∀c i,c≠b->Yp M b s vs c i=M c i:=λc i T9=>by unfold Yp;rw[O3 (λe=>T9 e.1)]
 have ws:∀p v x,At J (setRow w b (bA m s vs) g fz) us U I p v x->At J w us U I p v x:=by
  intro p v x q;cases p with
  |s i=>exact q
  |c o i=>
   obtain⟨r,a,C,l,k,F,G,H⟩:=q;have n:b≠r:=λe=>by subst e;exact z.i o F
   rw[setRow_heap,O3 n]at G;exact⟨r,a,C,l,k,F,G,H⟩
 have t:∀p v x c,At J w us U I p v x->aJ v x=W c->b≠c:=λp v x c q T9 e=>by subst e;have:=h.own p v x _ q T9;rw[z.k]at this;cases this
 refine⟨⟨⟨λc i u y => ?_,λo c A => ?_,λo c A=>by rw[setRow_size];exact h.wd.dv o c A,h.wd.inj,λc T9=>by rw[setRow_size];exact h.wd.ef c T9,h.wd.cV,
  λc p E=>by rw[setRow_size];exact h.wd.dC c p E,λc n k=>h.wd.i' K (Hp _ _ _) c n k⟩,h.bC.mono f (.refl _),λp v x c q T9=>h.own p v x c (ws p v x q) T9,λp v x q => ?_⟩,
  ⟨f,.refl _,λc i T9=>d c i (λe=>z.x (e▸T9)),by rw[setRow_size];exact vE _,λc T9=>by
   have a:b≠c:=λe=>by subst e;exact z.x T9
   rw[setRow_heap,O3 a],rfl,rfl,rfl⟩⟩
 ·by_cases k:c=b
  ·subst k;rw[Hr (by rw[setRow_heap,A9a rfl,A9a z.lt]:(setRow w c (bA m s vs) g fz).heap[c]?=W (.cells (bA m s vs) g fz)),B i];unfold Yp at y;by_cases a:s<=i/\i<s+vs.length
   ·rw[A9a ⟨rfl,a⟩]at y;rw[A9a a];exact y
   ·rw[O3 (λe=>a e.2)]at y;rw[O3 a];have:=h.wd.mem c i u y
    rwa[Hr K]at this
  ·rw[d c i k]at y;have:=h.wd.mem c i u y;simp only[World.cell?,setRow_heap,O3 (Ne.symm k)];simpa[World.cell?]using this
 ·have⟨O,hO,n⟩:=h.wd.obj o c A;have a:c≠b:=λe=>z.i o (e▸A);refine⟨O,hO,?_⟩;cases O with
  |cells N=>obtain⟨k,C,l,r,F,G,H,L⟩:=n;exact⟨k,C,l,by rw[setRow_heap,O3 (Ne.symm a)];exact r,F.mono f (.refl _),G,λi=>by rw[d c i a];exact H i,L⟩
  |mp L=>obtain⟨H,k,G,r⟩:=n;exact⟨H,k,by rw[setRow_heap,O3 (Ne.symm a)];exact G,r.1,λi e p F E=>⟨(r.2 i e p F E).1.mono f (.refl _),(r.2 i e p F E).2.mono f (.refl _)⟩⟩
  |si r G=>obtain⟨s,k,F⟩:=n;exact⟨s,by rw[setRow_heap,O3 (Ne.symm a)];exact k,F⟩
  |gone=>trivial
 ·have k:=ws p v x q;refine⟨λc e L a F G N => ?_⟩;have H:aJ v x=W a.block:=by rw[L,N];rfl
  have n:=t p v x _ k H;have⟨R,S,r,C,l,V,b⟩:=(h.gr p v x k).ok c e L a F G N;exact⟨R,λi A=>by rw[d _ i (Ne.symm n)];exact S i A,r,C,l,by rw[setRow_heap,O3 n];exact V,b⟩
end
def Wy:Value->V->Bool
 | .bool a,.bool b=>a==b
 | .int k a,.int j b=>decide (k=j)&&decide (a=b)
 | .string s,.str l=>decide (s.data.toList=l)
 | .pointer none,.c_=>true
 | .slice none n m,.ad=>n==0&&m==0
 | .map none,.cg=>true
 | .nilIface,.bc=>true
 | .nilFunc,.dt=>true
 |_,_=>false
def Cx:vB->uZ->Bool
 |[],[]=>true
 |v::a,x::b=>Wy v x&&Cx a b
 |_,_=>false
def Qna:Value->V->Bool
 | .agg a,.agg b=>Cx a.toList b
 | .tuple a,.undef=>a.toList.isEmpty
 |v,x=>Wy v x
def Qar:Operand->Arg->Bool
 | .tmp t,.t n=>t==n
 | .const v,.c x=>Qna v x
 | .global g,.g n=>g==n
 | .func f,.f g=>f==g
 |_,_=>false
def VQ:List Operand->List Arg->Bool
 |[],[]=>true
 |x::a,y::b=>Qar x y&&VQ a b
 |_,_=>false
def cP(P:Program)(t:TypeId):AQ:=(P.info? t).map (·.size)
def mu:TypeDesc->Bool
 | .struct _ | .array _ _=>true
 |_=>false
def d'(P:Program)(t:TypeId):Option Bool:=(P.underlying t).map mu
def pJ(P:Program)(t:TypeId)(ag:Bool)(sz:Nat):Bool:=d' P t==some ag&&cP P t==some sz&&(ag||sz==1)
variable{k i0:Bool}{n v:Operand}{o B:Arg}{L:Operand->Value}{e5:Arg->V}{g0:IntKind}{i2:GV}{i3:Int}{i5:bU}{k1:Act}
section
variable{M:vn}{J:bk}
def EZ(h:Wy f d):aB M J f d/\d.one/\d.ng=d/\f.oneCell:=by
 unfold Wy at h;split at h
 ·simp at h;subst h;exact⟨.bool _,rfl,rfl,rfl⟩
 ·simp at h;obtain⟨rfl,rfl⟩:=h;exact⟨.int _ _,rfl,rfl,rfl⟩
 ·simp at h;exact⟨.str _ _ h,rfl,rfl,rfl⟩
 ·exact⟨.c_,rfl,rfl,rfl⟩
 ·simp at h;obtain⟨rfl,rfl⟩:=h;exact⟨.ad,rfl,rfl,rfl⟩
 ·exact⟨.cg,rfl,rfl,rfl⟩
 ·exact⟨.bc,rfl,rfl,rfl⟩
 ·exact⟨.dt,rfl,rfl,rfl⟩
 ·cases h
theorem zS:∀ {vs:vB} {xs:uZ},Cx vs xs->aq M J vs xs/\(∀x∈xs,x.one/\x.ng=x)/\∀v∈vs,v.oneCell
 |[],[],_=>⟨.nil,u0,u0⟩
 |v::vs,x::xs,h=>by
  simp only[Cx,vc]at h;obtain⟨b,c,d,e⟩:=EZ h.1;obtain⟨f,g,i⟩:=zS h.2;exact⟨aq.cons b f,λy a=>by
   rcases vZ.1 a with rfl|a
   ·exact⟨c,d⟩
   ·exact g y a,λy a=>by
   rcases vZ.1 a with rfl|a
   ·exact e
   ·exact i y a⟩
 |[],_::_,h=>by simp[Cx]at h
 |_::_,[],h=>by simp[Cx]at h
def Uv(h:Qna f d):aB M J f d/\d.ng=d:=by
 unfold Qna at h;split at h
 ·exact⟨aB.cc.2 (zS h).1,rfl⟩
 ·rename_i a;have:a=#[]:=by simpa using h
  subst this;exact⟨.undef,rfl⟩
 ·have:=EZ (M:=M) (J:=J) h;exact⟨this.1,this.2.2.1⟩
structure dJ (G:GV) (M:vn) (J:bk):Prop where
 ok:∀g,aB M bO (.pointer (some ⟨g,0,none⟩)) (G g)
 ex:∀p∈G.ex,M p.1 p.2.1=some p.2.2
 sh:∀p∈G.sh,∃n,M p.1 p.2=some (.int .i64 n)
def dJ.mono{M c:vn}{J d:bk}(h:dJ i2 M J)(a:de M c)(f:di J d):dJ i2 c d:=⟨λg=>(h.ok g).mono a (.refl _),λp b=>a.le _ _ _ (h.ex p b),λp b=>(h.sh p b).imp λn e=>a.le _ _ _ e⟩
def Qks(h:aq M J l e)(n:Nat):aB M J (l.getD n undef) (e.getD n .undef):=by
 by_cases a:n<e.length
 ·have b:n<l.length:=by rw[h.1];exact a
  simp only[List.getD,vO a,vO b,Cr];exact h.2 n _ _ (vO b) (vO a)
 ·have b:¬n<l.length:=by rw[h.1];exact a
  simp only[List.getD,B0 (AT.1 a),B0 (AT.1 b),JK];exact .undef
def Qi8(b:aq M J k1.tmps.toList e)(d:dJ i2 M J)(h:Qar n o):aB M J (k1.eval n) (cD i2 e o):=by
 unfold Qar at h;split at h
 ·rename_i t U;have:t=U:=by simpa using h
  subst this;have:=Qks b t;simpa[Act.eval,cD,OR,List.getD]using this
 ·exact(Uv h).1
 ·rename_i g U;have:g=U:=by simpa using h
  subst this;exact(d.ok g).mono (.refl _) (Wj6 _)
 ·rename_i f g;have:f=g:=by simpa using h
  subst this;exact .fn f #[] #[] [] [] rfl rfl (λi v c h=>by simp at h) (λi v c h=>by simp at h)
 ·cases h
structure fN (M:vn) (J:bk) (r:Operand->Value) (A:Arg->V):Prop where
 ok:∀x y,Qar x y=true->aB M J (r x) (A y)
def fN.args(h:fN M J L e5):∀ {xs:List Operand} {a:List Arg},VQ xs a->aq M J (xs.map L) (a.map e5)
 |[],[],_=>.nil
 |x::xs,y::a,b=>by simp only[VQ,vc]at b;exact aq.cons (h.ok x y b.1) (h.args b.2)
 |[],_::_,b=>by simp[VQ]at b
 |_::_,[],b=>by simp[VQ]at b
def fN.bl(b:aq M J k1.tmps.toList e)(c:dJ i2 M J):fN M J k1.eval (arg i2 e):=
 ⟨λx y h=>(Qi8 b c h).ng⟩
def aB.cA{b:Bool}(h:aB M J f (.bool b)):f=.bool b:=by cases h;rfl
def aB.ba(h:aB M J f (.int g0 i3)):f=.int g0 i3:=by cases h;rfl
def aB.bw{s:u2}(h:aB M J f (.str s)):∃b:ByteArray,f=.string b/\b.data.toList=s:=by cases h;exact⟨_,rfl,‹_›⟩
def aB.cZ{v:Value}{o:Nat}(h:aB M J v (.ptr o c)):∃b,v=.pointer (W ⟨b,c,none⟩)/\J o=some b:=by cases h;exact⟨_,rfl,‹_›⟩
def aB.eh(h:aB M J f (.ai e c)):
  ∃b base us,f=.pointer (W ⟨b,base+c,none⟩)/\aq M J us e/\∀(i:Nat) u,us[i]?=W u->M b (base+i)=some u:=by
 cases h with
 |ai _ _ b base us a v d=>exact⟨b,base,us,rfl,⟨a,d⟩,v⟩
def aB.ea{xs:uZ}(h:aB M J f (.sl xs i5)):
  (∃b off cap sz us,f=.slice (W ⟨b,off,none⟩) xs.length cap/\(∀x∈xs,x.cells.length=sz)/\aq M J us (xs.flatMap V.cells)/\(∀(i:Nat) u,us[i]?=W u->M b (off+i)=W u)/\xs.length<=cap/\(i5=.fx->cap=xs.length)) \/
   ∃a,f=.slice (W a) 0 0/\xs=[]/\∀s,i5≠.gr s:=by
 cases h with
 |sl _ _ b off cap sz us c g j k d e=>exact .inl ⟨b,off,cap,sz,us,rfl,c,⟨g,k⟩,j,d,e⟩
 |jt a _ d=>exact .inr ⟨a,rfl,rfl,d⟩
def aB.eb{v:Value}{off len sz:Nat}(h:aB M J v (.hs c off len sz k)):∃b cap,v=.slice (W ⟨b,off,none⟩) len cap/\J c=W b/\len<=cap:=by cases h;exact⟨_,_,rfl,‹_›,‹_›⟩
end
variable{S:TypeDesc}{g9:TypeInfo}
section
variable{P:Program}{w:World}
def run_underlying{t:TypeId}(h:P.underlying t=W S):(underlying t).run P w=.ok S w:=by simp[underlying,program,vl,Sem.run,Result.andThen,h]
def Gy{t:TypeId}(h:P.info? t=W g9):(typeInfo t).run P w=.ok g9 w:=by simp[typeInfo,program,vl,Sem.run,Result.andThen,h]
def Qb4{t:TypeId}(h:cP P t=W c):(sizeOf t).run P w=.ok c w:=by unfold cP at h;rw[xB]at h;obtain⟨i,a,rfl⟩:=h;simp only[sizeOf,vl,Gy a,Result.andThen];rfl
def DW{t:TypeId}{b:Bool}(h:d' P t=W b):(isAgg t).run P w=.ok b w:=by unfold d' at h;rw[xB]at h;obtain⟨d,a,rfl⟩:=h;simp only[isAgg,vl,run_underlying a,Result.andThen];cases d<;>rfl
end
def JT(w:World)(b off:Nat)(us:vB):Prop:=∀(i:Nat) u,us[i]?=some u->w.cell? ⟨b,off+i,none⟩=some u
variable{N g6:AW}{R e6:Option Value}
section
variable{P:Program}{M:vn}{J:bk}{X:Nat->Prop}{D:cY}{w:World}{I:hN}
def JT.drop{b:Nat}{us:vB}(h:JT w b c us)(n:Nat):JT w b (c+n) (us.drop n):=λi u a=>by
 rw[DT]at a;have:=h (n+i) u a
 rwa[<-I6]at this
def JT.take{b off:Nat}{us:vB}(h:JT w b off us)(n:Nat):JT w b off (us.take n):=λi u a=>by
 rw[xP]at a;split at a
 ·exact h i u a
 ·cases a
def Wd.cells(h:Wd M J X D w I){b off:Nat}{us:vB}(a:∀(i:Nat) u,us[i]?=W u->M b (off+i)=W u):JT w b off us:=λi u c=>h.mem b _ u (a i u c)
def Wd.ic(h:Wd M J X D w I){b:Nat}(d:J c=W b)(a:hN.get I c=W e):∃us,aq M J us e/\JT w b 0 us:=by
 unfold hN.get at a;have⟨O,hO,cs⟩:=h.obj c b d;rw[hO]at a;cases O with
 |cells f=>
  simp at a;subst a;obtain⟨k,l,fz,g,j,_⟩:=cs;refine⟨_,j,λi u o => ?_⟩;rw[Hr g,xr];rw[xP]at o;split at o
  ·simpa using o
  ·cases o
 |mp o=>cases a
 |si r o=>cases a
 |gone=>cases a
def Ql{t:TypeId}{b:Nat}(i:pJ P t k c)(sz:aq M J l e)(j:JT w b h l)(a:part k c e F=W d):∃u,(loadVar t ⟨b,h+F,none⟩).run P w=.ok u w/\aB M J u d:=by
 simp only[pJ,vc,w4]at i;obtain⟨⟨cs,f⟩,x⟩:=i;unfold part at a;cases k with
 |true=>
  simp only[A9c]at a;split at a
  ·rename_i g;cases a;have off:((l.drop F).take c).length=c:=by have:=sz.1;simp;omega
   have us:=M2 (P:=P) (w:=w) b (h+F) ((l.drop F).take c) ((j.drop F).take c);rw[off]at us;refine⟨.agg ((l.drop F).take c).toArray,?_,aB.cc.2 (by simpa using((sz.drop F).take c).ng)⟩;unfold loadVar;simp only[vl,DW cs,Qb4 f,Result.andThen,A9c,us];rfl
  ·cases a
 |false=>
  simp only[vD,A9d]at a;split at a
  ·rw[xB]at a;obtain⟨us,g,rfl⟩:=a;have⟨u,ag,off⟩:=sz.get g;refine⟨u,?_,off.ng⟩;unfold loadVar;simp only[vl,DW cs,Result.andThen,vD,A9d];exact Qm9 (j F u ag)
  ·cases a
def Wj8(h:Wd M J X D w I){t:TypeId}(e:pJ P t k c)(sz:aB M J f d)(p:eL I k c d=W i):
  ∃u,(Instr.loadAt t f).run P w=.ok u w/\aB M J u i:=by
 unfold eL at p;cases d with
 |ptr o g=>obtain⟨b,rfl,ag⟩:=sz.cZ;simp only[u7,vh]at p;obtain⟨n,v,j⟩:=p;have⟨q,x,l⟩:=h.ic ag v;have⟨u,a,m⟩:=Ql e x l j;refine⟨u,?_,m⟩;rw[xr]at a;unfold Instr.loadAt Instr.sureAddr;rw[vl,vF];exact a
 |ai l g=>obtain⟨b,v,m,rfl,ag,x⟩:=sz.eh;have⟨u,a,j⟩:=Ql e ag (h.cells x) p;refine⟨u,?_,j⟩;unfold Instr.loadAt Instr.sureAddr;rw[vl,vF];exact a
 |_=>simp at p
def Qy3{t:TypeId}(g:pJ P t k c)(vs:aq M J m.toList e)(a:part k c e h=W d):
  ∃u,(Go.part t m h).run P w=.ok u w/\aB M J u d:=by
 simp only[pJ,vc,w4]at g;obtain⟨⟨b,off⟩,i⟩:=g;unfold part at a;cases k with
 |true=>
  simp only[A9c]at a;split at a
  ·rename_i ag;cases a;refine⟨.agg (m.extract h (h+c)),?_,aB.cc.2 ?_⟩
   ·unfold Go.part;simp only[vl,DW b,Qb4 off,Result.andThen,A9c];rfl
   ·have:=((vs.drop h).take c).ng;rw[Uc,Qs];simpa using this
  ·cases a
 |false=>
  simp only[vD,A9d]at a;split at a
  ·rw[xB]at a;obtain⟨ag,sz,rfl⟩:=a;have⟨u,j,f⟩:=vs.get sz;refine⟨u,?_,f.ng⟩;unfold Go.part;simp only[vl,DW b,Result.andThen,vD,A9d];rw[show m[h]?=W u by simpa using j];rfl
  ·cases a
def OH:(asIntOf (.int g0 i3)).run P w=.ok (g0,i3) w:=rfl
def Ja(j:index d c=W h):∃k q,d=.int k q/\0<=q/\q<c/\h=q.toNat:=by
 unfold index at j;split at j
 ·split at j
  ·rename_i a;cases j;exact⟨_,_,rfl,a.1,a.2,rfl⟩
  ·cases j
 ·cases j
def Qlu(a:vr d c=W h):∃k q,d=.int k q/\0<=q/\q<=c/\h=q.toNat:=by
 unfold vr at a;split at a
 ·split at a
  ·rename_i b;cases a;exact⟨_,_,rfl,b.1,b.2,rfl⟩
  ·cases a
 ·cases a
def xt{b:Nat}{a:BoundsCode}(x:aB M J f d)(h:vr d b=W c):(Instr.sliceBound f b a).run P w=.ok c w:=by obtain⟨k,q,rfl,v,e,rfl⟩:=Qlu h;cases x.ba;unfold Instr.sliceBound;simp only[vl,OH,Result.andThen];rw[A9a ⟨v,e⟩];rfl
def ie(M:vn)(J:bk):Option Value->AW->Prop
 |none,none=>True
 |some v,some x=>aB M J v x
 |_,_=>False
def Jq{b:Nat}(a:vr d c=W h)(l:c<=b):vr d b=some h:=by obtain⟨k,q,rfl,x,e,rfl⟩:=Qlu a;show(if 0<=q/\q<=(b:Int)then W q.toNat else none)=W q.toNat;rw[A9a ⟨x,by omega⟩]
def DO(a:vr d c=W h):h<=c:=by obtain⟨k,q,rfl,b,l,rfl⟩:=Qlu a;omega
def EF{isSlice:Bool}{len:Nat}{mx:Option Value}{xmx:AW}(b:len<=c)(e:ie M J R N)(g:ie M J e6 g6)(p:ie M J mx xmx)(q:xmx.isSome->g6.isSome)(a:vI len N g6 xmx=W (h,F,j2)):
  (Instr.sliceBounds isSlice len c R e6 mx).run P w=.ok (h,F,j2.getD c) w/\h<=F/\F<=len/\(∀k,j2=W k->F<=k/\k<=len):=by
 unfold vI at a;cases xmx with
 |none=>
  cases mx with
  |some _=>exact p.elim
  |none=>
   simp only[u7,va,JK]at a;cases g6 with
   |none=>
    cases e6 with
    |some _=>exact g.elim
    |none=>
     simp only[va]at a;cases N with
     |none=>
      cases R with
      |some _=>exact e.elim
      |none=>simp at a;obtain⟨rfl,rfl,rfl⟩:=a;exact⟨rfl,wV _,vE _,u0⟩
     |some o=>
      cases R with
      |none=>exact e.elim
      |some r=>simp only[vh,AK]at a;obtain⟨s,i,n⟩:=a;simp at n;obtain⟨rfl,rfl,rfl⟩:=n;refine⟨?_,DO i,vE _,u0⟩;unfold Instr.sliceBounds;simp only[vl,vF,Result.andThen,xt e i];rfl
   |some v=>
    cases e6 with
    |none=>exact g.elim
    |some x=>
     simp only[vh]at a;obtain⟨y,i,a⟩:=a;have o:=DO i;cases N with
     |none=>
      cases R with
      |some _=>exact e.elim
      |none=>simp at a;obtain⟨rfl,rfl,rfl⟩:=a;refine⟨?_,wV _,o,u0⟩;unfold Instr.sliceBounds;simp only[vl,vF,Result.andThen,xt g (Jq i b)];rfl
     |some s=>
      cases R with
      |none=>exact e.elim
      |some t=>simp only[vh,AK]at a;obtain⟨u,n,r⟩:=a;simp at r;obtain⟨rfl,rfl,rfl⟩:=r;refine⟨?_,DO n,o,u0⟩;unfold Instr.sliceBounds;simp only[vl,vF,Result.andThen,xt g (Jq i b),xt e n];rfl
 |some C=>
  cases mx with
  |none=>exact p.elim
  |some D=>
   cases g6 with
   |none=>simp at q
   |some z=>
    cases e6 with
    |none=>exact g.elim
    |some A=>
     cases N with
     |none=>
      cases R with
      |some _=>exact e.elim
      |none=>simp only[u7,vh,xB,va,AK]at a;obtain⟨v,⟨x,n,rfl⟩,u,i,s⟩:=a;simp at s;obtain⟨rfl,rfl,rfl⟩:=s;simp only[Cr]at i;have o:=DO i;have r:=DO n;refine⟨?_,wV _,by omega,λk t=>by cases t;exact⟨o,r⟩⟩;unfold Instr.sliceBounds;simp only[vl,vF,Result.andThen,xt p (Jq n b),xt g i];rfl
     |some v=>
      cases R with
      |none=>exact e.elim
      |some x=>simp only[u7,vh,xB,AK]at a;obtain⟨E,⟨cap,o,rfl⟩,B,i,y,n,t⟩:=a;simp at t;obtain⟨rfl,rfl,rfl⟩:=t;simp only[Cr]at i;have r:=DO i;have s:=DO o;refine⟨?_,DO n,by omega,λk u=>by cases u;exact⟨r,s⟩⟩;unfold Instr.sliceBounds;simp only[vl,vF,Result.andThen,xt p (Jq o b),xt g i,xt e n];rfl
end
section
variable{P:Program}{M:vn}{J:bk}{X:Nat->Prop}{D:cY}{w:World}{I:hN}
def MT(v:aB M J f d)(p:(∃o a,d=.ptr o a)\/∃cs a,d=.ai cs a):
  ∃b a,f=.pointer (W ⟨b,a,none⟩)/\∀k,aB M J (.pointer (W ⟨b,a+k,none⟩)) (match d with | .ptr o x=>.ptr o (x+k) | .ai cs x=>.ai cs (x+k)|y=>y):=by
 rcases p with ⟨o,a,rfl⟩|⟨cs,a,rfl⟩
 ·obtain⟨b,rfl,c⟩:=v.cZ;exact⟨b,a,rfl,λk=>.ptr o (a+k) b c⟩
 ·obtain⟨b,c,g,rfl,e,h⟩:=v.eh;exact⟨b,c+a,rfl,λk=>by rw[I6];exact .ai cs (a+k) b c g e.1 h e.2⟩
def CM(P:Program)(s:TypeId)(f off:Nat):Option TypeId:=
 match P.underlying s with
 |some (.struct b)=>match b[f]? with
  |some a=>if a.offset=off then some a.type else none
  |none=>none
 |_=>none
def Qkt{s:TypeId}{t:TypeId}(f:CM P s c h=W t):∃b a,P.underlying s=W (.struct b)/\b[c]?=W a/\a.offset=h/\a.type=t:=by
 unfold CM at f;split at f
 ·split at f
  ·split at f
   ·cases f;exact⟨_,_,‹_›,‹_›,‹_›,rfl⟩
   ·cases f
  ·cases f
 ·cases f
def U3{s:TypeId}{t:TypeId}(sz:CM P s c h=W t)(j:cP P t=W F)(x:F≠0)(k:aB M J f d)(p:eF h d=W i):
  ∃u,(Instr.fieldAt s f c).run P w=.ok u w/\aB M J u i:=by
 unfold eF at p;obtain⟨r,e,l,m,rfl,rfl⟩:=Qkt sz;have g:(∃o a,d=.ptr o a)\/∃off a,d=.ai off a:=by
  split at p
  ·exact .inl ⟨_,_,rfl⟩
  ·exact .inr ⟨_,_,rfl⟩
  ·cases p
 obtain⟨b,a,rfl,n⟩:=MT k g;refine⟨.pointer (W ⟨b,a+e.offset,none⟩),?_,?_⟩
 ·unfold Instr.fieldAt Instr.sureAddr fieldPlace;simp only[vl,run_underlying l,Result.andThen,m,vF,Qb4 j,x,A9d,wv]
 ·have:=n e.offset;rcases g with ⟨o,q,rfl⟩|⟨off,q,rfl⟩
  ·cases p;exact this
  ·cases p;exact this
def Wd2{s:TypeId}{t:TypeId}(ag:CM P s c h=some t)(v:pJ P t k F)(e:aB M J f d)(b:P7 k h F d=some i):∃u,(Instr.field s f c).run P w=.ok u w/\aB M J u i:=by
 unfold P7 at b;obtain⟨n,o,g,p,rfl,rfl⟩:=Qkt ag;cases d with
 |agg sz=>
  cases e with
  |agg j _ x l=>obtain⟨u,a,m⟩:=Qy3 v (aB.cc.1 (.agg j sz x l)) b;refine⟨u,?_,m⟩;unfold Instr.field;simp only[vl,run_underlying g,Result.andThen,p,asAgg,vF];exact a
 |_=>cases b
def y_{xs:uZ}{sz:Nat}(a:∀x∈xs,x.cells.length=sz):(xs.flatMap V.cells).length=xs.length*sz:=by
 induction xs with
 |nil=>simp
 |cons x xs b=>simp only[AR,vW,vT];rw[a x u0,b (λy c=>a y (by simp[c])),I8,QC,Uo]
def Qtr(a:∀x∈e,x.cells.length=c)(n:Nat):(e.drop n).flatMap V.cells=(e.flatMap V.cells).drop (n*c):=by
 induction n generalizing e with
 |zero=>simp
 |succ n b=>
  cases e with
  |nil=>simp
  |cons x e=>simp only[List.drop_succ_cons,AR];rw[b (λy sz=>a y (by simp[sz])),GW,Uo,<-JL,List.drop_left' (a x u0)]
def Wd3(a:∀x∈e,x.cells.length=c)(n:Nat):(e.take n).flatMap V.cells=(e.flatMap V.cells).take (n*c):=by
 induction n generalizing e with
 |zero=>simp
 |succ n b=>
  cases e with
  |nil=>simp
  |cons x e=>have sz:=a x u0;simp only[List.take_succ_cons,AR];rw[b (λy d=>a y (by simp[d])),GW,Uo,<-sz,List.take_length_add_append]
def WC(b:∀x∈e,x.cells.length=c)(a:e[h]?=W d):((e.flatMap V.cells).drop (h*c)).take c=d.cells:=by rw[<-Qtr b,KP (wy.1 a).1,AR];have sz:=(wy.1 a).2;rw[sz,List.take_left' (b d (Ah a))]
def Wd4(h:Wd M J X D w I){t:TypeId}(z:P.underlying t=W (.slice g))(A:cP P g=W c)(B:aB M J f d)(C:aB M J u i)(a:eI c i d=W H):∃p,(Instr.indexAt t f u).run P w=.ok p w/\aB M J p H:=by
 unfold eI at a;cases d with
 |sl O e=>
  simp only[u7,vh]at a;obtain⟨j,F,el,sz,a⟩:=a;split at a
  ·rename_i l;cases a;obtain⟨k,q,rfl,G,v,rfl⟩:=Ja F;cases C.ba;rcases B.ea with ⟨b,n,K,y,Q,rfl,hs,L,N,E,_⟩|⟨_,_,o,_⟩
   case inr=>subst o;simp at sz
   have s:y=c:=by rw[<-hs el (Ah sz)];exact l
   subst s;refine⟨.pointer (W ⟨b,n+q.toNat*y,none⟩),?_,?_⟩
   ·unfold Instr.indexAt;simp only[vl,OH,run_underlying z,Result.andThen,vF];rw[A9a ⟨G,v⟩];simp only[vl,Qb4 A,Result.andThen,vF,wv]
   ·have x:=((L.drop (q.toNat*y)).take y)
    rw[WC hs sz]at x;refine .ai el.cells 0 b (n+q.toNat*y) _ x.1 (λm p r => ?_) x.2;rw[xP]at r;split at r
    ·rw[DT]at r;have:=N _ p r
     rwa[<-I6]at this
    ·cases r
  ·cases a
 |hs o e n s r=>
  simp only[u7,vh]at a;obtain⟨j,sz,a⟩:=a;split at a
  ·rename_i hs;cases a;obtain⟨k,q,rfl,x,l,rfl⟩:=Ja sz;cases C.ba;obtain⟨b,m,rfl,y,E⟩:=B.eb;refine⟨.pointer (W ⟨b,e+q.toNat*c,none⟩),?_,.ptr o _ b y⟩;unfold Instr.indexAt;simp only[vl,OH,run_underlying z,Result.andThen,vF];rw[A9a ⟨x,l⟩];simp only[vl,Qb4 A,Result.andThen,vF,wv]
  ·cases a
 |_=>cases a
def Wcj{t:TypeId}(v:P.underlying t=W (.array c g))(l:cP P g=W h)(m:aB M J f d)(r:aB M J u i)(e:B4 c h i d=W H):∃x,(Instr.indexAt t f u).run P w=.ok x w/\aB M J x H:=by
 unfold B4 at e;simp only[u7,vh]at e;obtain⟨j,s,e⟩:=e;obtain⟨k,q,rfl,y,z,rfl⟩:=Ja s;cases r.ba;have sz:(∃o a,d=.ptr o a)\/∃n a,d=.ai n a:=by
  split at e
  ·exact .inl ⟨_,_,rfl⟩
  ·exact .inr ⟨_,_,rfl⟩
  ·cases e
 obtain⟨b,a,rfl,A⟩:=MT m sz;refine⟨.pointer (W ⟨b,a+q.toNat*h,none⟩),?_,?_⟩
 ·unfold Instr.indexAt Instr.sureAddr;simp only[vl,OH,run_underlying v,Result.andThen,vF];rw[A9a ⟨y,z⟩];simp only[vl,Qb4 l,Result.andThen,vF,wv]
 ·have:=A (q.toNat*h);rcases sz with ⟨o,B,rfl⟩|⟨n,B,rfl⟩
  ·cases e;exact this
  ·cases e;exact this
def Wp5{t:TypeId}(g:P.underlying t=some .string)(l:aB M J f d)(m:aB M J u i)(c:Wx i d=some H):∃x,(Instr.index t f u).run P w=.ok x w/\aB M J x H:=by
 unfold Wx at c;cases d with
 |str s=>
  simp only[u7,vh]at c;obtain⟨j,n,b,e,c⟩:=c;cases c;obtain⟨k,q,rfl,o,z,rfl⟩:=Ja n;cases m.ba;obtain⟨v,rfl,r⟩:=l.bw;refine⟨.int .u8 b.toNat,?_,.int _ _⟩;unfold Instr.index;simp only[vl,OH,run_underlying g,Result.andThen];have y:v[q.toNat]?=some b:=by subst r;have a:=(wy.1 e).1;simp only[DR]at a;rw[Hg]at e;show(if h:q.toNat<v.size then some v[q.toNat]else none)=some b;rw[dif_pos (show q.toNat<v.size from a)];rw[<-e,Qr a];rfl
  rw[A9a o,y];rfl
 |_=>cases c
def Wj9{t:TypeId}(sz:P.underlying t=W (.array c g))(e:pJ P g k h)(p:aB M J f d)(v:aB M J u i)(a:UX c k h i d=W H):∃x,(Instr.index t f u).run P w=.ok x w/\aB M J x H:=by
 unfold UX at a;simp only[u7,vh]at a;obtain⟨j,l,a⟩:=a;obtain⟨n,q,rfl,m,o,rfl⟩:=Ja l;cases v.ba;cases d with
 |agg r=>
  cases p with
  |agg s _ y z=>
   have⟨x,b,A⟩:=Qy3 (P:=P) (w:=w) e (aB.cc.1 (.agg s r y z)) a;refine⟨x,?_,A⟩;have B:cP P g=some h:=by simp only[pJ,vc,w4]at e;exact e.1.2
   unfold Instr.index;simp only[vl,OH,run_underlying sz,Result.andThen];rw[A9a ⟨m,o⟩];simp only[vl,Qb4 B,Result.andThen];exact b
 |_=>cases a
def Wka(g:aB M J f d)(a:eX c d=W i):
  ∃u,(Instr.extract f c).run P w=.ok u w/\aB M J u i:=by
 unfold eX at a;cases d with
 |aR h=>
  cases g with
  |aR p _ j k=>
   have b:aq M J p.toList h:=⟨by simpa using j,λc u x v l=>k c u x (by simpa using v) l⟩
   have⟨u,v,e⟩:=b.get a;refine⟨u,?_,e⟩;unfold Instr.extract;simp only[show p[c]?=W u by simpa using v];rfl
 |_=>cases a
def Wkb{t:TypeId}{b:AW}(n:P.underlying t=W .string)(o:aB M J f d)(q:ie M J R b)(r:ie M J e6 N)(a:AP d b N=W i):∃u,(Instr.sliceAt t f R e6 none).run P w=.ok u w/\aB M J u i:=by
 cases d with
 |str s=>
  unfold AP at a;simp only[u7,vh]at a;obtain⟨⟨l,y,m⟩,h,a⟩:=a;cases a;obtain⟨p,rfl,j⟩:=o.bw;have g:s.length=p.size:=by rw[<-j];exact DR
  rw[g]at h;have⟨e,z,k,_⟩:=EF (P:=P) (w:=w) (isSlice:=T) (mx:=none) (xmx:=none) (vE _) q r trivial u0 h;refine⟨.string (p.extract l y),?_,.str _ _ ?_⟩
  ·unfold Instr.sliceAt Instr.slice;simp only[vl,run_underlying n,Result.andThen,Option.isSome_none,vD,A9d,vF,e]
  ·subst j;rw[ByteArray.data_extract,Uc,Qs]
 |_=>cases a
def Wp6{t:TypeId}{mx:Option Value}{xmx:AW}(ht:P.underlying t=some (.slice g))(hz:cP P g=some c)(hv:aB M J f d)(h1:ie M J R N)(h2:ie M J e6 g6)(h3:ie M J mx xmx)(z:xmx.isSome->g6.isSome)(h:yy c d N g6 xmx=some i):
  ∃u,(Instr.sliceAt t f R e6 mx).run P w=.ok u w/\aB M J u i:=by
 have start:∀a A x l hi k,(Instr.sliceBounds true A x R e6 mx).run P w=.ok (l,hi,k) w->
   (Instr.sliceAt t (.slice a A x) R e6 mx).run P w=.ok (.slice (if k=l then a else a.map (·.add (l*c))) (hi-l) (k-l)) w:=by
  intro a A x l hi k e;unfold Instr.sliceAt Instr.slice;simp only[vl,run_underlying ht,Result.andThen,e,Qb4 hz,vF]
 unfold yy at h;cases d with
 |ad=>
  simp only[u7,vh]at h;obtain⟨⟨l,hi,m⟩,L,h⟩:=h;cases h;cases hv;obtain⟨e,E,j,C⟩:=EF (P:=P) (w:=w) (isSlice:=true) (vE 0) h1 h2 h3 z L;refine⟨_,start none 0 0 l hi _ e,?_⟩;have h0:hi=0:=by omega
  have F:l=0:=by omega
  have G:m.getD 0=0:=by
   cases m with
   |none=>rfl
   |some k=>have:=(C k rfl).2;simp;omega
  subst h0 F;rw[G];exact .ad
 |sl H v=>
  simp only[u7,vh]at h;obtain⟨⟨l,hi,m⟩,L,h⟩:=h;split at h
  ·rename_i O;cases h;rcases hv.ea with ⟨b,B,x,a6,us,rfl,a7,hr,a2,Q,_⟩|⟨a0,rfl,n,_⟩
   case inr=>
    subst n;obtain⟨e,E,j,C⟩:=EF (P:=P) (w:=w) (isSlice:=true) (vE 0) h1 h2 h3 z L;have h0:hi=0:=by simpa using j
    have F:l=0:=by omega
    have G:m.getD 0=0:=by
     cases m with
     |none=>rfl
     |some k=>have:=(C k rfl).2;simp;omega
    refine⟨_,start _ _ 0 l hi _ e,?_⟩;subst h0 F;rw[G];exact .jt _ _ (λs=>by split<;>simp)
   have hs:∀y∈H,y.cells.length=c:=λy p=>by simpa using AI.1 O y p
   obtain⟨e,E,j,C⟩:=EF (P:=P) (w:=w) (isSlice:=true) Q h1 h2 h3 z L;have hk:hi<=m.getD x/\m.getD x<=x:=by
    cases m with
    |none=>exact⟨yZ,u0⟩
    |some k=>exact⟨(C k rfl).1,by have:=(C k rfl).2;simp;omega⟩
   refine⟨_,start _ _ x l hi _ e,?_⟩;have q:((H.drop l).take (hi-l)).length=hi-l:=yZ;have a3:∀y∈(H.drop l).take (hi-l),y.cells.length=c:=λy p=>hs y (List.mem_of_mem_drop (List.mem_of_mem_take p));have I:((H.drop l).take (hi-l)).flatMap V.cells=((H.flatMap V.cells).drop (l*c)).take ((hi-l)*c):=by rw[Wd3 (λy p=>hs y (List.mem_of_mem_drop p)),Qtr hs]
   have K:=((hr.drop (l*c)).take ((hi-l)*c))
   rw[<-I]at K;by_cases r:m.getD x=l
   ·
    have S:hi-l=0:=by omega
    rw[A9a r];have n:(H.drop l).take (hi-l)=[]:=by rw[S];rfl
    have:=aB.sl (M:=M) (J:=J) [] (if m=some hi then .fx else .no) b B (m.getD x-l) 0 [] u0 rfl u0 u0 (wV _) (λ_=>by simp;omega);rw[n,S];exact this
   ·rw[O3 r];simp only[A0,wv];have:=aB.sl (M:=M) ((H.drop l).take (hi-l)) (if m=some hi then .fx else .no) b (B+l*c) (m.getD x-l) c _ a3 K.1 (λlo u U => ?_) K.2 (by rw[q];omega) (λX => ?_)
    ·rw[q]at this;exact this
    ·rw[xP]at U;split at U
     ·rw[DT]at U;have:=a2 _ u U
      rwa[<-I6]at this
     ·cases U
    ·rw[q];split at X
     ·rename_i a4;subst a4;rfl
     ·cases X
  ·cases h
 |hs o B A s ag=>
  simp only[u7,vh]at h;obtain⟨⟨l,hi,m⟩,L,h⟩:=h;split at h
  ·rename_i hs;cases h;obtain⟨b,x,rfl,a5,hc⟩:=hv.eb;obtain⟨e,E,j,C⟩:=EF (w:=w) (isSlice:=true) hc h1 h2 h3 z L;have hk:hi<=m.getD x:=by
    cases m with
    |none=>simp;omega
    |some k=>exact(C k rfl).1
   refine⟨_,start _ _ x l hi _ e,?_⟩;by_cases a1:l=hi
   ·subst a1;rw[A9a rfl,EU];by_cases r:m.getD x=l
    ·rw[A9a r];exact aB.sl [] .no b B _ 0 [] u0 rfl u0 u0 (wV _) (λg=>by cases g)
    ·rw[O3 r];simp only[A0,wv];exact aB.sl (M:=M) (J:=J) [] .no b _ _ 0 [] u0 rfl u0 u0 (wV _) (λg=>by cases g)
   ·rw[O3 a1,O3 Y];simp only[A0,wv];exact .hs o _ _ c ag b _ a5 Y
  ·cases h
 |_=>cases h
end
def np:Operand->Bool
 | .const _=>true
 |_=>false
def Qku(P:Program)(ks:TypeId->Option (List CK)):List Field->Nat->Option (List CK)
 |[],_=>some []
 |f::b,a=>
  if f.name ≠ "_" /\ f.offset=a then
   match ks f.type with
   |some k=>if cP P f.type=some k.length then
     match Qku P ks b (a+k.length)with
     |some r=>some (k++r)
     |none=>none
    else none
   |none=>none
  else none
def Dy(P:Program):Nat->TypeId->Option (List CK)
 |0,_=>none
 |n+1,t=>
  match P.underlying t with
  |some .bool=>some [.b]
  |some (.int _)=>some [.i]
  |some .string=>some [.s]
  |some (.struct a)=>if P.stoodInHeld t then none else Qku P (Dy P n) a.toList 0
  |_=>none
def Wd5:TypeDesc->Option iB
 | .bool=>some .bool
 | .pointer _=>some .ptr
 | .slice _=>some .row
 | .interface _=>some .bE
 | .func .. => some .fn
 | .map .. => some .mp
 |_=>none
def Qwk(P:Program)(k:iB)(t:TypeId)(x y:Operand):Bool:=
 match k with
 | .no=>true
 | .agg a=>decide (d' P t=some true)&&decide (Dy P 20 t=some a) && !P.eqGuardType P.depth t
 |_=>decide ((P.underlying t).bind Wd5=some k)&&(decide (k≠.bE)||np x||np y)
def Wu1(P:Program)(a:BinOp)(k:iB)(t:TypeId)(x y:Operand):Bool:=
 match a with
 | .eql | .neq=>Qwk P k t x y
 |_=>true
variable{z:BinOp}{K:iB}
section
variable{P:Program}{M:vn}{J:bk}{X:Nat->Prop}{D:cY}{w:World}{I:hN}
def RF{t:TypeId}{b:Value}(d:¬(f=.nilIface/\b=.nilIface))(e:∀u x,¬(f=.agg u/\b=.agg x)):
  (eqGuard z t n v f b).run P w=.ok () w:=by
 unfold eqGuard;cases z<;>simp only[]<;>(try rfl)
 all_goals
  cases f<;>(try rfl)<;>cases b<;>(try rfl)
  ·exact absurd ⟨rfl,rfl⟩ d
  ·exact absurd ⟨rfl,rfl⟩ (e _ _)
def Wu2{c:UnOp}(b:aB M J f d)(a:fk c d=W i):∃u,(Op.unary c f).run P w=.ok u w/\aB M J u i:=by
 unfold fk at a;split at a
 ·cases a;cases b.ba;exact⟨_,rfl,.int _ _⟩
 ·cases a;cases b.ba;exact⟨_,rfl,.int _ _⟩
 ·cases a;cases b.cA;exact⟨_,rfl,.bool _⟩
 ·cases a
def Qif(s:ByteArray):s.toList=s.data.toList:=ByteArray.toList_eq s
theorem O9:∀(a b:u2),Op.bytesLess a b=bytesLess a b
 |_,[]=>by cases ‹u2›<;>rfl
 |[],_::_=>rfl
 |a::x,b::y=>by simp only[Op.bytesLess,bytesLess,O9 x y]
def Qo(a b:u2):(a==b)=decide (a=b):=by rw[Bool.eq_iff_iff];simp
def Wp7{c y:ByteArray}(a:eB z .no (.str c.data.toList) (.str y.data.toList)=W d):
  ∃u,(Op.stringOp z c y).run P w=.ok u w/\aB M J u d:=by
 have f:∀s:ByteArray,s.data.toList.length=s.size:=λs=>DR;unfold Op.stringOp;simp only[Qif,O9,Qo];cases z<;>simp only[eB]at a<;>(try cases a)
 ·split at a
  ·rename_i b;cases a;refine⟨.string (c++y),?_,.str _ _ (by rw[ByteArray.data_append,KS])⟩;rw[O3]
   ·rfl
   ·rw[f,f]at b;unfold EY at b;show ¬(((c.size+y.size:Nat):Int)>9223372036854775807);omega
  ·cases a
 all_goals exact⟨_,rfl,.bool _⟩
def Wp8{t:TypeId}{j:IntKind}{b:Int}(c:eB z K (.int g0 i3) (.int j b)=W d):
  ∃u,(binOp z t (.int g0 i3) (.int j b)).run P w=.ok u w/\aB M J u d:=by
 unfold eB at c;simp only at c;cases z<;>simp only[]at c
 case shl=>
  split at c
  ·cases c
  ·rename_i a;cases c;refine⟨_,?_,.int _ _⟩;simp only[binOp,Op.shift,a,A9d];rfl
 case shr=>
  split at c
  ·cases c
  ·rename_i a;cases c;refine⟨_,?_,.int _ _⟩;simp only[binOp,Op.shift,a,A9d];rfl
 case quo=>
  split at c
  ·rename_i f;subst f;split at c
   ·cases c
   ·rename_i a;cases c;refine⟨_,?_,.int _ _⟩;simp only[binOp,Op.intDiv,ne_eq,not_true_eq_false,A9d,a];rfl
  ·cases c
 case rem=>
  split at c
  ·rename_i f;subst f;split at c
   ·cases c
   ·rename_i a;cases c;refine⟨_,?_,.int _ _⟩;simp only[binOp,Op.intDiv,ne_eq,not_true_eq_false,A9d,a];rfl
  ·cases c
 all_goals
  split at c
  ·rename_i f;subst f;cases c;refine⟨_,?_,by first|exact .int _ _|exact .bool _⟩;simp only[binOp,Op.intArith,Op.intBits,Op.intCmp,ne_eq,not_true_eq_false,A9d];rfl
  ·cases c
def Wp9{t:TypeId}{b:Bool}(x:(P.underlying t).bind Wd5=W K)(e:aB M J f d)(j:aB M J u i)(a:mg K d i=W b):
  (Op.equal t f u).run P w=.ok b w:=by
 rw[vh]at x;obtain⟨k,l,g⟩:=x
 suffices h:∀d0,(Op.equalIn (d0+1) t f u).run P w=.ok b w from h 9999
 intro d0;unfold mg at a;split at a<;>(try (cases k<;>cases g;done))<;>(try (cases a;done))<;>cases a<;>cases e<;>cases j<;>cases k<;>(try (cases g;done))<;>
  (simp only[Op.equalIn,vl,run_underlying l,Result.andThen];rfl)
def lD(ag:Bool)(us:vB)(v:Value):Prop:=if ag then v=.agg us.toArray else us=[v]
def Qn2{t:TypeId}(a:d' P t=W k)(b:cP P t=W c)(n:k=T->c=1)(e:h+c<=l.length):
  ∃v,(Go.part t l.toArray h).run P w=.ok v w/\lD k ((l.drop h).take c) v:=by
 cases k with
 |true=>
  refine⟨.agg (l.toArray.extract h (h+c)),?_,?_⟩
  ·unfold Go.part;simp only[vl,DW a,Qb4 b,Result.andThen,A9c];rfl
  ·unfold lD;rw[A9a rfl];congr 1;apply AU;rw[Uc,Qs];simp
 |false=>
  have n:=n rfl;subst n;have d:h<l.length:=by omega
  refine⟨l[h],?_,?_⟩
  ·unfold Go.part;simp only[vl,DW a,Result.andThen,vD,A9d];rw[show l.toArray[h]?=W l[h] by simp[d]];rfl
  ·unfold lD;rw[O3 u0,KP];rfl
theorem TY:∀ {ks:List CK} {cs ds:uZ} {b:Bool},D4 ks cs ds=W b->cs.length=ks.length/\ds.length=ks.length
 |[],[],[],_,_=>⟨rfl,rfl⟩
 |k::ks,c::cs,d::ds,b,h=>by simp only[D4,u7,vh]at h;obtain⟨_,_,e,a,_⟩:=h;have:=TY a;simp[this.1,this.2]
 |[],_::_,_,_,h=>by simp[D4]at h
 |[],[],_::_,_,h=>by simp[D4]at h
 |_::_,[],_,_,h=>by simp[D4]at h
 |_::_,_::_,[],_,h=>by simp[D4]at h
theorem Qjz:∀ {k r:List CK} {cs ds:uZ} {b:Bool},D4 (k++r) cs ds=W b->
  ∃e b2,D4 k (cs.take k.length) (ds.take k.length)=W e/\D4 r (cs.drop k.length) (ds.drop k.length)=W b2/\b=(e&&b2)
 |[],r,cs,ds,b,h=>⟨true,b,by simp[D4],by simpa using h,u0⟩
 |x::k,r,c::cs,d::ds,b,h=>by simp only[AJ,D4,u7,vh]at h;obtain⟨a,i,m,f,g⟩:=h;obtain⟨e,b2,j,l,rfl⟩:=Qjz f;refine⟨a&&e,b2,by simp[D4,i,j],by simpa using l,?_⟩;simp at g;rw[<-g,Bool.and_assoc]
 |_::_,_,[],_,_,h=>by simp[D4]at h
 |_::_,_,_::_,[],_,h=>by simp[D4]at h
theorem O_{ks:TypeId->Option (List CK)}{d:Nat}(A:∀(t:TypeId) (k:List CK) (ag:Bool) (us a:vB) (cs ds:uZ) (v u:Value) (b:Bool),ks t=W k->d' P t=W ag->(ag=T->k.length=1)->lD ag us v->lD ag a u->aq M J us cs->aq M J a ds->D4 k cs ds=W b->
   (Op.equalIn d t v u).run P w=.ok b w)(m:∀t k,ks t=W k->∃ag,d' P t=W ag/\(ag=T->k.length=1)):
  ∀(x:List Field) (off:Nat) (r:List CK) (us a:vB) (cs ds:uZ) (b:Bool),Qku P ks x off=W r->aq M J us cs->aq M J a ds->off<=us.length->off<=a.length->
   D4 r (cs.drop off) (ds.drop off)=W b->(Op.eqFields d us.toArray a.toArray x).run P w=.ok b w
 |[],off,r,us,a,cs,ds,b,e,j,g,_,_,c=>by simp only[Qku]at e;cases e;have f:=TY c;have h:cs.drop off=[]:=CP.1 f.1;have i:ds.drop off=[]:=CP.1 f.2;rw[h,i]at c;simp only[D4]at c;cases c;rfl
 |f::x,off,r,us,a,cs,ds,b,e,y,g,L,C,H=>by
  simp only[Qku]at e;split at e
  ·rename_i h;obtain⟨i,n⟩:=h;split at e
   ·rename_i k D;split at e
    ·rename_i o;split at e
     ·rename_i N p;cases e;have⟨ag,j,c⟩:=m _ _ D;obtain⟨E,b2,F,G,rfl⟩:=Qjz H;have B:=TY F;have q:off+k.length<=us.length:=by have O:=y.1;have:=B.1;rw[GQ,zj]at this;omega
      have s:off+k.length<=a.length:=by have O:=g.1;have:=B.2;rw[GQ,zj]at this;omega
      have⟨v,Q,t⟩:=Qn2 (P:=P) (w:=w) j o c q;have⟨u,z,l⟩:=Qn2 (P:=P) (w:=w) j o c s;have I:=A f.type k ag _ _ _ _ v u E D j c t l ((y.drop off).take k.length) ((g.drop off).take k.length) F;have K:=O_ A m x (off+k.length) N us a cs ds b2 p y g q s (by rw[JL,JL]at G;exact G);unfold Op.eqFields;rw[A9a i];subst n;simp only[vl,Q,z,I,Result.andThen];cases E
      ·rfl
      ·simp only[OX,vD,A9d,K,Ab]
     ·cases e
    ·cases e
   ·cases e
  ·cases e
def Wd6{b:Bool}(h:Hw .b d i=W b):∃a c,d=.bool a/\i=.bool c/\b=(a==c):=by cases d<;>(try (cases h;done));cases i<;>(try (cases h;done));cases h;exact⟨_,_,rfl,rfl,rfl⟩
def Qts{b:Bool}(h:Hw .i d i=W b):∃k a c,d=.int k a/\i=.int k c/\b=(a==c):=by
 cases d<;>(try (cases h;done));cases i<;>(try (cases h;done));simp only[Hw]at h;split at h
 ·rename_i x;subst x;cases h;exact⟨_,_,_,rfl,rfl,rfl⟩
 ·cases h
def Qtt{b:Bool}(h:Hw .s d i=W b):∃a c,d=.str a/\i=.str c/\b=decide (a=c):=by cases d<;>(try (cases h;done));cases i<;>(try (cases h;done));cases h;exact⟨_,_,rfl,rfl,rfl⟩
def OK:∀(n:Nat) (t:TypeId) (k:List CK),Dy P n t=W k->∃ag,d' P t=W ag/\(ag=T->k.length=1)
 |0,t,k,h=>by simp[Dy]at h
 |n+1,t,k,h=>by
  unfold Dy at h;unfold d';split at h<;>(try (cases h;done))
  ·rename_i a;cases h;exact⟨T,by rw[a];rfl,λ_=>rfl⟩
  ·rename_i a;cases h;exact⟨T,by rw[a];rfl,λ_=>rfl⟩
  ·rename_i a;cases h;exact⟨T,by rw[a];rfl,λ_=>rfl⟩
  ·rename_i a;exact⟨true,by rw[a];rfl,λh=>by cases h⟩
theorem Qy5:∀(n:Nat) (d:Nat) (t:TypeId) (k:List CK) (ag:Bool) (us f:vB) (cs ds:uZ) (v l:Value) (b:Bool),Dy P n t=W k->d' P t=W ag->(ag=T->k.length=1)->
  lD ag us v->lD ag f l->aq M J us cs->aq M J f ds->D4 k cs ds=W b->(Op.equalIn (n+d) t v l).run P w=.ok b w
 |0,_,t,k,_,_,_,_,_,_,_,_,h,_,_,_,_,_,_,_=>by simp[Dy]at h
 |n+1,d,t,k,ag,us,f,cs,ds,v,l,b,h,e,z,m,g,A,o,q=>by
  have one:∀ {c:CK},k=[c]->ag=T->∃x y,us=[v]/\f=[l]/\aB M J v x/\aB M J l y/\Hw c x y=some b:=by intro c r i;subst r i;unfold lD at m g;rw[O3 u0]at m g;subst m g;have⟨p,s⟩:=TY q;obtain⟨x,rfl⟩:=T8.1 p;obtain⟨y,rfl⟩:=T8.1 s;refine⟨x,y,rfl,rfl,A.head,o.head,?_⟩;simp only[D4,u7,vh]at q;obtain⟨a,B,C,u,j⟩:=q;cases u;simp at j;rw[B,j]
  rw[show n+1+d=(n+d)+1 from by omega];unfold Dy at h;split at h<;>(try (cases h;done))
  ·rename_i p;cases h;have⟨x,y,_,_,s,u,j⟩:=one rfl (by unfold d' at e;rw[p]at e;cases e;rfl);obtain⟨a,c,rfl,rfl,rfl⟩:=Wd6 j;cases s.cA;cases u.cA;simp only[Op.equalIn,vl,run_underlying p,Result.andThen];rfl
  ·rename_i B p;cases h;have⟨x,y,_,_,s,u,j⟩:=one rfl (by unfold d' at e;rw[p]at e;cases e;rfl);obtain⟨k,a,c,rfl,rfl,rfl⟩:=Qts j;cases s.ba;cases u.ba;simp only[Op.equalIn,vl,run_underlying p,Result.andThen,A9c];rfl
  ·rename_i p;cases h;have⟨x,y,_,_,s,u,j⟩:=one rfl (by unfold d' at e;rw[p]at e;cases e;rfl);obtain⟨_,_,rfl,rfl,rfl⟩:=Qtt j;obtain⟨B,rfl,rfl⟩:=s.bw;obtain⟨C,rfl,rfl⟩:=u.bw;rw[run_equalIn_string w _ t B C p,Qif,Qif,Qo]
  ·rename_i B s;split at h
   ·cases h
   ·rename_i u;have i:ag:=by unfold d' at e;rw[s]at e;cases e;rfl
    subst i;unfold lD at m g;rw[A9a rfl]at m g;subst m g;have p:P.fieldsOf t=B:=by unfold Program.fieldsOf;rw[s]
    rw[run_equalIn_struct w (n+d) t us.toArray f.toArray (by rw[p];exact s) (by simpa using u),p];exact O_ (λt k ag us f cs ds v l b=>Qy5 n d t k ag us f cs ds v l b) (λt k r=>OK n t k r) B.toList 0 k us f cs ds b h A o (wV _) (wV _) (by simpa using q)
def WL{t:TypeId}{b:Operand}(h:(np n||np b)):(eqGuard z t n b .nilIface .nilIface).run P w=.ok () w:=by cases n<;>cases b<;>(try (simp[np]at h;done))<;>cases z<;>rfl
def Wqa:Value->Value->Bool
 | .int _ _,.int _ _ | .float _ _,.float _ _ | .complex _ _ _,.complex _ _ _ | .string _,.string _=>false
 |_,_=>true
def Wd7{t:TypeId}{b:Value}(h:Wqa f b):binOp .eql t f b=(do pure (.bool (<-Op.equal t f b))):=by cases f<;>cases b<;>first|rfl|cases h
def Wd8{t:TypeId}{b:Value}(h:Wqa f b):binOp .neq t f b=(do pure (.bool (!(<-Op.equal t f b)))):=by cases f<;>cases b<;>first|rfl|cases h
def Wqb{t:TypeId}(hc:Wu1 P z K t n v)(q:aB M J f d)(m:aB M J u i)(k:eB z K d i=some H):
  ∃x,((do eqGuard z t n v f u;binOp z t f u:Sem Value)).run P w=.ok x w/\aB M J x H:=by
 by_cases hi:(∃K a,d=.int K a)/\∃j b,i=.int j b
 ·obtain⟨⟨kk,a,rfl⟩,j,b,rfl⟩:=hi;cases q.ba;cases m.ba;obtain⟨x,y,F⟩:=Wp8 (P:=P) (M:=M) (J:=J) (w:=w) (t:=t) k;refine⟨x,?_,F⟩;rw[vl,RF (λh=>by cases h.1) (λ_ _ h=>by cases h.1)];exact y
 by_cases hs:(∃a,d=.str a)/\∃b,i=.str b
 ·obtain⟨⟨a,rfl⟩,b,rfl⟩:=hs;obtain⟨G,rfl,rfl⟩:=q.bw;obtain⟨p,rfl,rfl⟩:=m.bw;have I:eB z .no (.str G.data.toList) (.str p.data.toList)=some H:=by rw[<-k];cases z<;>rfl
  obtain⟨x,y,F⟩:=Wp7 (P:=P) (M:=M) (J:=J) (w:=w) I;refine⟨x,?_,F⟩;rw[vl,RF (λh=>by cases h.1) (λ_ _ h=>by cases h.1)];have:binOp z t (.string G) (.string p)=Op.stringOp z G p:=by cases z<;>rfl
  simp only[Result.andThen,this];exact y
 have o:∃b,mg K d i=some b/\((z=.eql/\H=.bool b)\/(z=.neq/\H=.bool (!b))):=by
  have:eB z K d i=match z with
    | .eql=>(mg K d i).map V.bool
    | .neq=>(mg K d i).map λb=>.bool (!b)
    |_=>none:=by
   unfold eB;split
   ·exact absurd ⟨⟨_,_,rfl⟩,_,_,rfl⟩ hi
   ·exact absurd ⟨⟨_,rfl⟩,_,rfl⟩ hs
   ·cases z<;>rfl
  rw[this]at k;cases z<;>(try (cases k;done))
  ·simp only[xB]at k;obtain⟨b,m,rfl⟩:=k;exact⟨b,m,.inl ⟨rfl,rfl⟩⟩
  ·simp only[xB]at k;obtain⟨b,m,rfl⟩:=k;exact⟨b,m,.inr ⟨rfl,rfl⟩⟩
 obtain⟨b,c,s⟩:=o;have A:(eqGuard z t n v f u).run P w=.ok () w->(Op.equal t f u).run P w=.ok b w->Wqa f u->
   ∃x,((do eqGuard z t n v f u;binOp z t f u:Sem Value)).run P w=.ok x w/\aB M J x H:=by
  intro D E B;rcases s with ⟨rfl,rfl⟩|⟨rfl,rfl⟩
  ·refine⟨.bool b,?_,.bool _⟩;rw[vl,D];simp only[Result.andThen,Wd7 B,vl,E];rfl
  ·refine⟨.bool (!b),?_,.bool _⟩;rw[vl,D];simp only[Result.andThen,Wd8 B,vl,E];rfl
 have g:Qwk P K t n v:=by rcases s with ⟨rfl,_⟩|⟨rfl,_⟩<;>exact hc
 unfold Qwk at g;by_cases r:∃ks,K=.agg ks
 ·obtain⟨ks,rfl⟩:=r;simp only[vc,A9f,Qv]at g;obtain⟨⟨D,E⟩,h3⟩:=g;cases d<;>(try (cases c;done));cases i<;>(try (cases c;done));rename_i L N;have C:D4 ks L N=some b:=c;cases q with
  |agg O _ hl hr=>
   cases m with
   |agg Q _ R S=>refine A (run_eqGuard_agg w z t n v O Q h3) ?_ rfl;exact Qy5 20 9980 t ks true O.toList Q.toList L N _ _ b E D (λe=>by cases e) rfl rfl (aB.cc.1 (.agg O L hl hr)) (aB.cc.1 (.agg Q N R S)) C
 ·have hk:(P.underlying t).bind Wd5=some K/\(K=.bE->(np n||np v)):=by
   cases K
   case no=>cases c
   case agg ks=>exact absurd ⟨ks,rfl⟩ r
   all_goals
    simp only[vc,A9f]at g;refine⟨g.1,λe => ?_⟩
    first
     |(cases e;done)
     |simpa using g.2
  have y:=Wp9 (w:=w) hk.1 q m c;refine A ?_ y ?_
  ·by_cases B:f=.nilIface/\u=.nilIface
   ·obtain⟨rfl,rfl⟩:=B;have U:K=.bE:=by
     cases q with
     |any _=>cases K<;>cases c
     |bc=>cases K<;>first|rfl|(cases i<;>cases c)
    exact WL (hk.2 U)
   ·refine RF B λx l X => ?_;obtain⟨rfl,rfl⟩:=X;cases q with
    |any _=>cases K<;>cases c
    |agg _ _ _ _=>cases K<;>first|exact r ⟨_,rfl⟩|(cases i<;>cases c)
  ·unfold mg at c;split at c<;>(try (cases c;done))<;>cases q<;>cases m<;>rfl
end
variable{A:hN}
section
variable{P:Program}{M:vn}{J:bk}{X:Nat->Prop}{D:cY}{w:World}{I:hN}
def Wd9{src:TypeId}(y:P.underlying src=W S)(e:P.underlying g=W (.int g0))(x:aB M J f d)(b:eC I (.toInt g0) d=W i):∃u,(convert src g f).run P w=.ok u w/\aB M J u i:=by cases d<;>(try (cases b;done));cases b;cases x.ba;refine⟨_,?_,.int _ _⟩;unfold convert;simp only[vl,run_underlying y,run_underlying e,Result.andThen];rfl
def Wkc{src:TypeId}(c:P.underlying src=W .string)(v:P.underlying g=W .string)(e:aB M J f d)(b:eC I .same d=W i):∃u,(convert src g f).run P w=.ok u w/\aB M J u i:=by cases d<;>(try (cases b;done));cases b;obtain⟨s,rfl,rfl⟩:=e.bw;refine⟨_,?_,.str s _ rfl⟩;unfold convert;simp only[vl,run_underlying c,run_underlying v,Result.andThen];rfl
def Wcl{src:TypeId}(c:P.underlying src=W (.int g0))(a:P.underlying g=W .string)(e:aB M J f d)(b:eC I .jT d=W i):∃u,(convert src g f).run P w=.ok u w/\aB M J u i:=by cases d<;>(try (cases b;done));cases b;cases e.ba;refine⟨_,?_,.str _ _ rfl⟩;unfold convert;simp only[vl,run_underlying c,run_underlying a,Result.andThen];rfl
theorem Qn3:∀(a:u_) (r:ByteArray),(a.foldl (λr n=>r.push (UInt8.ofNat n.toNat)) r).data.toList=r.data.toList++a.map λn=>UInt8.ofNat n.toNat
 |[],r=>by simp
 |n::a,r=>by simp only[Uk,xc];rw[Qn3 a];simp[ByteArray.push]
theorem Pd:∀ {xs:uZ} {bs:u2},bytesOf xs=W bs->∃a:u_,xs=a.map (V.int .u8)/\bs=a.map λn=>UInt8.ofNat n.toNat
 |[],bs,h=>by cases h;exact⟨[],rfl,rfl⟩
 |x::xs,bs,h=>by cases x<;>(try (cases h;done));rename_i k n;cases k<;>(try (cases h;done));simp only[bytesOf,u7,vh]at h;obtain⟨b,c,d⟩:=h;obtain⟨a,rfl,rfl⟩:=Pd c;cases d;exact⟨n::a,rfl,rfl⟩
theorem iV:∀ {us:vB} {a:u_},aq M J us (a.map (V.int .u8))->us=a.map (Value.int .u8)
 |[],[],_=>rfl
 |u::us,n::a,h=>by have b:=h.head.ba;rw[b,iV h.tail];rfl
 |[],_::_,h=>by have:=h.1;simp at this
 |_::_,[],h=>by have:=h.1;simp at this
theorem Qtu:∀(a:u_),(a.map (V.int .u8)).flatMap V.cells=a.map (V.int .u8)
 |[]=>rfl
 |n::a=>by simp only[xc,AR,Qtu a];rfl
def Wd.nq(h:Wd M J X D w I){b:Nat}(d:J c=W b)(a:hN.get I c=W e):∀o∈e,o.one:=by
 unfold hN.get at a;have⟨O,hO,cs⟩:=h.obj c b d;rw[hO]at a;cases O with
 |cells f=>simp at a;subst a;exact cs.choose_spec.choose_spec.choose_spec.2.2.2.2
 |mp f=>cases a
 |si r f=>cases a
 |gone=>cases a
def V0(h:d.one):d.cells=[d]:=by cases d<;>first|rfl|cases h
def Wcm(b:∀ag∈e,ag.one)(a:Ev.part k c e h=W d):d.cells=((e.drop h).take c).map V.ng/\d.cells.length=c:=by
 unfold Ev.part at a;cases k with
 |true=>
  simp only[A9c]at a;split at a
  ·cases a;exact⟨rfl,by simp[V.cells];omega⟩
  ·cases a
 |false=>
  simp only[vD,A9d]at a;split at a
  ·rename_i cs;subst cs;rw[xB]at a;obtain⟨ag,sz,rfl⟩:=a;rw[KP (wy.1 sz).1,(wy.1 sz).2];have f:=b ag (Ah sz);rw[V0 (by rw[V.dx];exact f)];exact⟨rfl,rfl⟩
  ·cases a
theorem JU{ag:Bool}{sz:Nat}{cs:uZ}(a:∀c∈cs,c.one):∀(n off:Nat) (b:uZ),vk ag sz cs n off=W b->
  b.length=n/\b.flatMap V.cells=((cs.drop off).take (n*sz)).map V.ng/\∀y∈b,y.cells.length=sz
 |0,off,b,h=>by cases h;simp
 |n+1,off,b,h=>by
  simp only[vk,u7,vh]at h;obtain⟨x,i,j,d,k⟩:=h;cases k;have⟨l,m,o⟩:=JU a n _ j d;have⟨e,f⟩:=Wcm a i;refine⟨by simp[l],?_,λy g => ?_⟩
  ·simp only[AR,m];rw[e,<-yW,GW,Uo (n*sz) sz,List.take_add,JL]
  ·rcases vZ.1 g with rfl|g
   ·exact f
   ·exact o y g
def Qtv(h:Wd M J X D w I)(j:aB M J f d)(x:Nq I d=W e):
  ((∃a,f=.slice a 0 0)/\e=[])\/∃b off cap us,f=.slice (W ⟨b,off,none⟩) e.length cap/\aq M J us (e.flatMap V.cells)/\JT w b off us:=by
 cases d<;>(try (cases x;done))
 case ad=>cases x;cases j;exact .inl ⟨⟨_,rfl⟩,rfl⟩
 case sl xs c=>
  cases x;rcases j.ea with ⟨b,off,cap,sz,us,rfl,_,k,v,_,_⟩|⟨a,rfl,rfl,_⟩
  case inr=>exact .inl ⟨⟨_,rfl⟩,rfl⟩
  exact .inr ⟨b,off,cap,us,rfl,k,h.cells v⟩
 case hs o off len sz ag=>
  simp only[Nq,u7,vh]at x;obtain⟨q,g,l⟩:=x;obtain⟨b,cap,rfl,m,r⟩:=j.eb;have⟨us,k,v⟩:=h.ic m g;have i:=h.nq m g;have⟨n,p,_⟩:=JU i len off e l;refine .inr ⟨b,off,cap,(us.drop off).take (len*sz),by rw[n],?_,?_⟩
  ·rw[p];exact((k.drop off).take _).ng
  ·have:=(v.drop off).take (len*sz)
   rwa[xr]at this
def Qgp{b off n cap:Nat}(a:l.length=n*h)(c:JT w b off l)(len:Nat):
  (Builtin.firstCells h n (.slice (W ⟨b,off,none⟩) len cap)).run P w=.ok l.toArray w:=by
 unfold Builtin.firstCells;simp only;rw[<-a];exact M2 b off l c
def UE(h:Wd M J X D w I){src:TypeId}(hs:P.underlying src=W (.slice p))(n:P.underlying p=W (.int .u8))(v:P.underlying g=W .string)(s:aB M J f d)(y:eC I .bh d=W i):∃u,(convert src g f).run P w=.ok u w/\aB M J u i:=by
 have a:∀xs x,Nq I d=W xs->bytesOf xs=W x->i=.str x->∃u,(convert src g f).run P w=.ok u w/\aB M J u i:=by
  intro xs x e j t;subst t;obtain⟨k,rfl,rfl⟩:=Pd j;rcases Qtv h s e with ⟨⟨q,rfl⟩,l⟩|⟨b,off,z,B,rfl,r,A⟩
  ·have:k=[]:=by simpa using l
   subst this;refine⟨.string .empty,?_,.str _ _ rfl⟩;rw[run_convert_bytes_string w src g p q 0 0 hs n v];cases q<;>rfl
  ·rw[Qtu]at r;have m:=iV r;subst m;refine⟨_,?_,.str _ _ (Qn3 k ByteArray.empty)⟩;rw[run_convert_bytes_string w src g p _ _ _ hs n v];refine run_bytesToString w _ _ _ k ?_;have:=M2 (P:=P) b off _ A
   rwa[show(k.map (Value.int .u8)).length=(k.map (V.int .u8)).length from by simp]at this
 cases d<;>(try (cases y;done))
 case ad=>cases y;exact a [] [] rfl rfl rfl
 case sl xs c=>simp only[eC,xB]at y;obtain⟨x,j,rfl⟩:=y;exact a xs x rfl j rfl
 case hs o off len sz ag=>simp only[eC,u7,vh,xB]at y;obtain⟨xs,b,x,j,rfl⟩:=y;exact a xs x b j rfl
def Wkd(h:eC A .cL d=W i):eC A .bh d=some i:=by cases d<;>first|exact h|cases h
def Wke{t ty:TypeId}(c:P.underlying t=W .string)(v:aB M J f d)(b:ZM d=W i):
  ∃u,(Builtin.len_ #[t] ty #[f]).run P w=.ok u w/\aB M J u i:=by
 cases d<;>(try (cases b;done));cases b;obtain⟨a,rfl,rfl⟩:=v.bw;refine⟨goInt a.size,?_,?_⟩
 ·unfold Builtin.len_;simp only[KQ,Gs,vl,run_underlying c,Result.andThen];rfl
 ·have:((a.data.toList.length:Nat):Int)=a.size:=by rw[DR];rfl
  rw[this];exact .int _ _
def Wqc{t ty:TypeId}(h:P.underlying t=W (.slice g))(e:aB M J f d)(x:Qai d=W i):∃u,(Builtin.len_ #[t] ty #[f]).run P w=.ok u w/\aB M J u i:=by
 have v:∀a n c,(Builtin.len_ #[t] ty #[.slice a n c]).run P w=.ok (goInt n) w:=by intro a n c;unfold Builtin.len_;simp only[KQ,Gs,vl,run_underlying h,Result.andThen];rfl
 cases d<;>(try (cases x;done))<;>cases x
 ·cases e;exact⟨goInt 0,v _ _ _,.int _ _⟩
 ·rcases e.ea with ⟨b,c,y,j,k,rfl,_⟩|⟨a,rfl,rfl,_⟩<;>exact⟨_,v _ _ _,.int _ _⟩
 ·obtain⟨b,c,rfl,_⟩:=e.eb;exact⟨_,v _ _ _,.int _ _⟩
theorem Woc{mx:Bool}:∀ {vs:vB} {xs:uZ} {v:Value} {x y:V},aB M J v x->(Et x).isSome->aq M J vs xs->OI mx x xs=W y->
  ∃u,(vs.foldlM (if mx then Builtin.max2 else Builtin.min2) v).run P w=.ok u w/\aB M J u y
 |[],[],v,x,y,b,c,_,a=>by simp only[OI]at a;cases a;exact⟨v,rfl,b⟩
 |u::m,z::n,v,x,y,h,i,g,c=>by
  cases x<;>(try (cases c;done))<;>(try (simp[Et]at i;done));rename_i k a;cases z<;>(try (cases c;done));rename_i j b;simp only[OI]at c;split at c
  ·rename_i f;subst f;cases h.ba;have l:=g.head.ba;subst l;have⟨r,d,e⟩:=Woc (.int k _) rfl g.tail c;refine⟨r,?_,e⟩;rw[List.foldlM_cons,vl];cases mx<;>exact d
  ·cases c
 |[],_::_,_,_,_,_,_,h,_=>by have:=h.1;simp at this
 |_::_,[],_,_,_,_,_,h,_=>by have:=h.1;simp at this
def Wkf(v:Wd M J X D w I){t:TypeId}(Q:P.underlying t=W (.array c g))(n:cP P g=W h)(x:aB M J f d)(S:ie M J R N)(U:ie M J e6 g6)(ag:BU c h k d N g6=W i):
  ∃u,(Instr.sliceAt t f R e6 none).run P w=.ok u w/\aB M J u i:=by
 unfold BU at ag;simp only[u7,vh]at ag;obtain⟨⟨l,r,m⟩,z,ag⟩:=ag;have⟨p,s,O,hm⟩:=EF (P:=P) (w:=w) (isSlice:=T) (mx:=none) (xmx:=none) (vE c) S U trivial u0 z;have C:m=none:=by
  cases m with
  |none=>rfl
  |some B=>exfalso;unfold vI at z;simp only[u7,va,JK]at z;cases g6<;>cases N<;>simp[vh]at z
 subst C;simp only[JK]at p;have start:∀a,f=.pointer (W a)->(Instr.sliceAt t f R e6 none).run P w=.ok (.slice (W (if c=l then a else a.add (l*h))) (r-l) (c-l)) w:=by intro a A;subst A;unfold Instr.sliceAt Instr.sureAddr;simp only[vl,run_underlying Q,Result.andThen,vF,p,Qb4 n]
 cases d<;>(try (cases ag;done))
 case ptr o off=>
  cases ag;obtain⟨b,rfl,A⟩:=x.cZ;refine⟨_,start _ rfl,?_⟩;by_cases a:l=r
  ·subst a;rw[A9a rfl,EU];by_cases q:c=l
   ·rw[A9a q];exact aB.sl (M:=M) (J:=J) [] .no b off _ 0 [] u0 rfl u0 u0 (wV _) (λg=>by cases g)
   ·rw[O3 q,wv];exact aB.sl (M:=M) (J:=J) [] .no b _ _ 0 [] u0 rfl u0 u0 (wV _) (λg=>by cases g)
  ·rw[O3 a,O3 Y,wv];exact .hs o _ _ h k b _ A Y
 case ai cs off=>
  simp only[vh]at ag;obtain⟨E,F,ag⟩:=ag;split at ag
  ·rename_i G;cases ag;have s:∀A∈cs,A.one:=λA p=>by simpa using AI.1 G A p
   have⟨H,B,K⟩:=JU s (r-l) (off+l*h) E F;obtain⟨b,a,us,rfl,hr,L⟩:=x.eh;refine⟨_,start _ rfl,?_⟩;have o:=(((hr.drop (off+l*h)).take ((r-l)*h)).ng)
   rw[<-B]at o;by_cases q:c=l
   ·have y:r-l=0:=by omega
    rw[A9a q];have e:E=[]:=CP.1 Y;subst e;rw[y];exact aB.sl [] .no b (a+off) _ 0 [] u0 rfl u0 u0 (wV _) (λg=>by cases g)
   ·rw[O3 q,wv,<-H];refine aB.sl E .no b _ _ h _ K o.1 (λe u y => ?_) o.2 Y (λg=>by cases g);rw[xP]at y;split at y
    ·rw[DT]at y;have:=L _ u y
     rwa[show a+(off+l*h+e)=a+off+l*h+e from by omega]at this
    ·cases y
  ·cases ag
end
theorem Qp(off:Nat):∀(vs:vB) (k:Nat) (a:wk),(vs.zipIdx k).foldl (λcs (x:Value×Nat)=>cs.setIfInBounds (off+x.2) x.1) a=bA a (off+k) vs
 |[],_,_=>rfl
 |v::vs,k,a=>by simp only[List.zipIdx_cons,Uk,bA];rw[Qp off vs (k+1)];rfl
def Qtw(place:Nat->Option (Nat×Nat))(a:wk)(i:Nat)(v:Value)(b:List (Nat×Value)){off:Nat}(d:place i=W (off,c))(e:v.cells.size=c)(f:off+c<=a.size):
  Instr.fill place a ((i,v)::b)=Instr.fill place (bA a off v.cells.toList) b:=by
 have g:v.cells.zipIdx.foldl (λh (x:Value×Nat)=>h.setIfInBounds (off+x.2) x.1) a=bA a off v.cells.toList:=by rw[<-Array.foldl_toList,Array.toList_zipIdx];exact Qp off v.cells.toList 0 a
 simp only[Instr.fill,d];rw[O3 (by simp[e];omega)];exact A9e (λsz=>Instr.fill place sz b) g
def Jx(place:Nat->Option (Nat×Nat)):List (Nat×Operand)->List (Nat×Nat×Arg)->Bool
 |[],[]=>true
 |(i,x)::b,(a,c,y)::d=>decide (place i=some (a,c))&&Qar x y&&Jx place b d
 |_,_=>false
def zU:List (Nat×Operand)->List (Nat×Arg)->Bool
 |[],[]=>true
 |(i,x)::a,(j,y)::b=>i==j&&Qar x y&&zU a b
 |_,_=>false
def Qy6(P:Program)(t:TypeId):Option (Nat->Option (Nat×Nat)):=
 match P.underlying t with
 |some (.array _ e)=>(P.info? e).map λc=>λi=>some (i*c.size,c.size)
 |some (.struct a)=>(a.toList.mapM (λf=>(P.info? f.type).map λi=>(f.offset,i.size))).map λb=>λi=>b.toArray[i]?
 |_=>none
def Pe(P:Program)(t:TypeId):Option Value:=(P.info? t).bind (·.zero)
def WN(P:Program)(t:TypeId)(z:uZ)(ps:List (Nat×Operand))(qs:List (Nat×Nat×Arg)):Bool:=
 match Pe P t,Qy6 P t with
 |some a,some place=>Cx a.cells.toList z&&Jx place ps qs
 |_,_=>false
variable{e3:Array (Nat×Operand)}
section
variable{P:Program}{M:vn}{J:bk}{X:Nat->Prop}{D:cY}{w:World}{I:hN}
def zW(h:yd e):∀c∈e,c.one:=λc a=>by simpa using AI.1 h c a
def Qy7{vs:vB}{off:Nat}(g:aq M J l e)(h:aq M J vs y)(cs:off+y.length<=e.length):
  aq M J (bA l.toArray off vs).toList (RK e off y):=by
 have j:=g.1;have f:=h.1;refine⟨by rw[DR,Hp,AX];simpa using j,λi u c a b => ?_⟩;rw[Hg,BH vs l.toArray off i yZ]at a;rw[Ph e off y i cs,<-f]at b;by_cases d:off<=i/\i<off+vs.length
 ·rw[A9a d]at a b;exact h.2 _ u c a b
 ·rw[O3 d]at a b;exact g.2 i u c (by simpa using a) b
theorem Te{r:Operand->Value}{A:Arg->V}(k:fN M J r A){place:Nat->Option (Nat×Nat)}:∀ {ps:List (Nat×Operand)} {qs:List (Nat×Nat×Arg)} {us:vB} {z f:uZ},
  Jx place ps qs->aq M J us z->EW z (qs.map λq=>(q.1,q.2.1,A q.2.2))=W f->
  ∃a,Instr.fill place us.toArray (ps.map λp=>(p.1,r p.2))=W a.toArray/\aq M J a f
 |[],[],us,z,f,_,c,b=>by simp only[Xbx,EW]at b;cases b;exact⟨us,rfl,c⟩
 |(i,x)::ps,(off,n,y)::qs,us,z,f,m,l,g=>by
  simp only[Jx,vc,A9f]at m;obtain⟨⟨o,s⟩,t⟩:=m;simp only[xc,EW]at g;split at g
  ·rename_i b;obtain⟨d,u,h⟩:=b;have e:=(k.ok x y s).cells (zW h);have j:(r x).cells.size=n:=by have:=e.1;simp at this;rw[this];exact d
   have B:=l.1;have c:=Qy7 l e.ng (off:=off) yZ;have⟨a,v,w⟩:=Te k t c g;refine⟨a,?_,w⟩;simp only[xc];rw[Qtw place us.toArray i (r x) _ o j yZ];simpa using v
  ·cases g
 |[],_::_,_,_,_,b,_,_=>by simp[Jx]at b
 |_::_,[],_,_,_,b,_,_=>by simp[Jx]at b
def V3(l:fN M J L e5){t:TypeId}{qs:List (Nat×Nat×Arg)}(c:WN P t e e3.toList qs)(j:(EW e (qs.map λ(o,s,y)=>(o,s,e5 y))).map V.agg=W d):∃u,(Instr.build t (e3.map λ(i,y)=>(i,L y))).run P w=.ok u w/\aB M J u d:=by
 rw[xB]at j;obtain⟨v,m,rfl⟩:=j;unfold WN at c;split at c
 ·rename_i B place b a;simp only[vc]at c;have⟨f,k,q⟩:=Te l c.2 (zS c.1).1 m;refine⟨.agg f.toArray,run_build w t _ _ ?_,aB.cc.2 q⟩;unfold Pe at b;rw[vh]at b;obtain⟨C,hit,b⟩:=b;have g:(e3.map λ(i,y)=>(i,L y)).toList=e3.toList.map λp=>(p.1,L p.2):=u0;unfold Qy6 at a;unfold Program.built;rw[g,hit];split at a
  ·rename_i n z h;rw[h];rw[xB]at a;obtain⟨D,ps,rfl⟩:=a;simp only[b,ps];exact k
  ·rename_i ps n;rw[n];rw[xB]at a;obtain⟨z,h,rfl⟩:=a;simp only[b,h];exact k
  ·cases a
 ·cases c
def Wkg(g:∀x∈e,x.cells.length=c)(k:d.cells.length=c)(o:h<e.length):(e.set h d).flatMap V.cells=RK (e.flatMap V.cells) (h*c) d.cells:=by
 have y:∀x∈e.set h d,x.cells.length=c:=λx i=>by
  rcases Xcz i with xs|rfl
  ·exact g x xs
  ·exact k
 have p:=y_ g;have l:h*c+c<=e.length*c:=by rw[<-GW];exact DY _ o
 apply Hk;intro j;rw[Ph _ _ _ j (by rw[k,p];exact l),k];by_cases sz:c=0
 ·subst sz;have m:(e.set h d).flatMap V.cells=[]:=CP.1 (by rw[y_ y];simp);have n:e.flatMap V.cells=[]:=CP.1 (by rw[p];simp);rw[m,n,O3 Y]
 have b:∀(i:uZ),(∀x∈i,x.cells.length=c)->(i.flatMap V.cells)[j]?=(i[j/c]?).bind λx=>x.cells[j%c]?:=by
  intro i q;by_cases xs:j/c<i.length
  ·have r:=vO xs;have:=WC q r;have f:=Nat.mod_lt j (Xj sz);rw[r,va,<-this,xP,A9a f,DT];congr 1;rw[I7];exact(Qx j c).symm
  ·rw[B0 (AT.1 xs),Option.bind_none,B0];rw[y_ q];have m:=AT.1 xs;have n:=Nat.div_mul_le_self j c;exact zr (DY _ m) n
 rw[b _ y,b _ g];by_cases a:h*c<=j/\j<h*c+c
 ·rw[A9a a];have i:j/c=h:=by
   apply Nat.div_eq_of_lt_le
   ·exact a.1
   ·rw[GW];exact a.2
  have f:j%c=j-h*c:=by have:=Qx j c;rw[i,I7]at this;omega
  rw[i,Aa o,va,f]
 ·rw[O3 a];have xs:j/c≠h:=by intro i;apply a;subst i;have:=Qx j c;have f:=Nat.mod_lt j (Xj sz);rw[I7]at this;omega
  rw[CQ (Ne.symm xs)]
theorem Qqb{r:Operand->Value}{A:Arg->V}(w:fN M J r A){sz:Nat}:∀ {ps:List (Nat×Operand)} {qs:List (Nat×Arg)} {us:vB} {z g:uZ},
  zU ps qs->(∀x∈z,x.cells.length=sz)->aq M J us (z.flatMap V.cells)->NA sz z (qs.map λq=>(q.1,A q.2))=W g->
  ∃b,Instr.fill (λi=>W (i*sz,sz)) us.toArray (ps.map λp=>(p.1,r p.2))=W b.toArray/\aq M J b (g.flatMap V.cells)/\g.length=z.length/\∀x∈g,x.cells.length=sz
 |[],[],us,z,g,_,c,d,a=>by simp only[Xbx,NA]at a;cases a;exact⟨us,rfl,d,rfl,c⟩
 |(i,x)::ps,(j,y)::qs,us,z,g,C,m,B,n=>by
  simp only[zU,vc,w4]at C;obtain⟨⟨rfl,o⟩,D⟩:=C;simp only[xc,NA]at n;split at n
  ·rename_i e;obtain⟨d,k,s⟩:=e;have c:=(w.ok x y o).cells (zW s);have t:(r x).cells.size=sz:=by have:=c.1;simp at this;rw[this];exact d
   have E:=B.1;rw[y_ m]at E;have u:i*sz+sz<=z.length*sz:=by rw[<-GW];exact DY _ k
   have v:(A y).ng.cells=(A y).cells\/∃q,(A y).cells=[q]/\(A y).ng.cells=[q.ng]:=by cases A y<;>first|exact .inl rfl|exact .inr ⟨_,rfl,rfl⟩
   have l:aq M J (r x).cells.toList (A y).ng.cells:=by
    rcases v with h|⟨q,F,o⟩
    ·rw[h];exact c
    ·rw[o];rw[F]at c;exact c.ng
   have f:(A y).ng.cells.length=sz:=by rw[V.gf];exact d
   have a:=Qy7 B l (off:=i*sz) (by rw[f,y_ m];exact u);rw[<-Wkg m f k]at a;have⟨b,G,H,I,K⟩:=Qqb w D (λq F=>by
    rcases Xcz F with h|rfl
    ·exact m q h
    ·exact f) a n
   refine⟨b,?_,H,by simpa using I,K⟩;simp only[xc];rw[Qtw _ us.toArray i (r x) _ rfl t yZ];simpa using G
  ·cases n
 |[],_::_,_,_,_,a,_,_,_=>by simp[zU]at a
 |_::_,[],_,_,_,a,_,_,_=>by simp[zU]at a
def Wcn{n:Nat}(g:aq M J l d.cells)(z:l.length≠0):
  aq M J ((Array.range (n*l.length)).map (l.toArray[· % l.length]!)).toList ((List.replicate n d).flatMap V.cells):=by
 have b:∀x∈List.replicate n d,x.cells.length=l.length:=λx m=>by rw[Hf m];exact g.1.symm
 refine⟨by simp[y_ b],λi u c h j => ?_⟩;have k:i<n*l.length:=by have:=(wy.1 j).1;rw[y_ b]at this;simpa using this
 have a:=Nat.mod_lt i (Xj z);have e:u=l[i%l.length]:=by simp[k]at h;rw[<-h];simp[a]
 have o:i/l.length<n:=Nat.div_lt_of_lt_mul (by rw[I7];exact k);have p:(List.replicate n d)[i/l.length]?=some d:=by simp[o]
 have q:=WC b p;have f:d.cells[i%l.length]?=some c:=by rw[<-q,xP,A9a a,DT];rw[<-j];congr 1;rw[I7];exact Qx i l.length
 exact g.2 _ u c (by rw[e];exact vO a) f
end
def fR(us:vB)(d:AQ)(v:Value):vB:=
 match d with
 |some d=>us.set d v
 |none=>us
def ZN(a:Act)(d:AQ)(v:Value):(a.put d v).tmps.toList=fR a.tmps.toList d v:=by cases d<;>simp[Act.put,fR]
variable{h9:List (Nat×Arg)}
section
variable{P:Program}{M:vn}{J:bk}{X:Nat->Prop}{D:cY}{w:World}{us:vB}{U:uZ}{I:hN}
def St.be(h:St M J X D w us U I){v:Value}{x:V}(a:aB M J v x)(b:aJ v x=none)(d:AQ):St M J X D w (fR us d v) (put U d x) I:=by
 cases d with
 |none=>exact h
 |some d=>exact h.eA a b d
def St.jW(h:St M J X D w us U I)(c:aB M J f d)(e:∀b,aJ f d=W b->jv M J X D w b/\dL M w f d)(v:AQ):∃D',St M J X D' w (fR us v f) (put U v d) I:=by
 cases v with
 |none=>exact⟨D,h⟩
 |some v=>
  cases a:aJ f d with
  |none=>exact⟨D,h.eA c a v⟩
  |some b=>exact h.jx c a (e b a).1 (e b a).2 v
def St.putRow(h:St M J X D w us U I)(ars:wk)(T9:TypeId)(fz:Nat×Nat)(xs:uZ)(c:bU)(cap sz:Nat)(j:aq M J (ars.toList.take (xs.flatMap V.cells).length) (xs.flatMap V.cells))(k:∀y∈xs,y.cells.length=sz)(a:xs.length<=cap)(f:c=.fx->cap=xs.length)(g:∀s,c=.gr s->s=sz/\cap*sz<=ars.size/\∀i,(xs.flatMap V.cells).length<=i->i<ars.size->Qbg fz i=T)(d:AQ):
  ∃b D',Ext X M J w b J (Ag w (.cells ars T9 fz))/\St b J X D' (Ag w (.cells ars T9 fz)) (fR us d (.slice (W ⟨w.heap.size,0,none⟩) xs.length cap)) (put U d (.sl xs c)) I:=by
 cases d with
 |some d=>have⟨b,D',e,l,_⟩:=h.newRow ars T9 fz xs c cap sz j k a f g d;exact⟨b,D',e,l⟩
 |none=>
  refine⟨TF M w.heap.size (ars.toList.take (xs.flatMap V.cells).length),D,Ext.push h.wd _ _,h.push _ _ (λi u e=>⟨ars,T9,fz,rfl,?_⟩)⟩;rw[xP]at e;split at e
  ·simpa using e
  ·cases e
def C8(h:ZS k c e):(∀y∈e,y.cells.length=c)/\(∀y∈e,∀sz∈y.cells,sz.one)/\∀y∈e,eg k y:=by
 unfold ZS at h;refine⟨λy b => ?_,λy b => ?_,λy b => ?_⟩<;>have:=AI.1 h y b<;>simp only[vc,A9f]at this
 ·exact this.1.1
 ·exact zW this.1.2
 ·exact this.2
def Uq{b:uZ}(h:ZS k c b):∀sz∈b.flatMap V.cells,sz.one:=λsz d=>by have⟨y,e,a⟩:=Fc.1 d;exact(C8 h).2.1 y e sz a
def IM(P:Program)(e:TypeId)(z:V):Bool:=
 match Pe P e with
 |some a=>Cx a.cells.toList z.cells
 |none=>false
def ZO(P:Program)(t:TypeId)(ag:Bool)(sz:Nat):Option TypeId:=
 match P.underlying t with
 |some (.slice e)=>if pJ P e ag sz then some e else none
 |_=>none
def y7{t:TypeId}(h:ZO P t k c=W g):P.underlying t=W (.slice g)/\pJ P g k c:=by
 unfold ZO at h;split at h
 ·split at h
  ·cases h;exact⟨‹_›,‹_›⟩
  ·cases h
 ·cases h
def DH(h:cP P g=W c):∃i,P.info? g=W i/\i.size=c:=by unfold cP at h;rw[xB]at h;exact h
def Ox(h:pJ P g k c):cP P g=some c:=by simp only[pJ,vc,w4]at h;exact h.1.2
def Qnb{sz n:Nat}(f:IM P g d)(z:cP P g=W sz)(h:d.cells.length=sz)(c:sz≠0):
  ∃i a,P.info? g=W i/\i.size=sz/\i.zero=W a/\a.cells.size=sz/\aq M J ((Array.range (n*sz)).map (a.cells[· % a.cells.size]!)).toList ((List.replicate n d).flatMap V.cells):=by
 unfold IM at f;split at f
 ·rename_i a b;unfold Pe at b;rw[vh]at b;obtain⟨i,m,j⟩:=b;have⟨p,e,k⟩:=DH z;rw[m]at e;cases e;have o:=(zS (M:=M) (J:=J) f).1;have l:a.cells.size=sz:=by have:=o.1;rw[DR]at this;rw[this];exact h
  refine⟨i,a,m,k,j,l,?_⟩;have:=Wcn (n:=n) o (by rw[DR,l];exact c);simpa[l]using this
 ·cases f
def Qn4(h:St M J X D w us U I)(qs:fN M J L e5){t:TypeId}{len:Nat}(N:ZO P t k c=some g)(O:len=0\/IM P g d/\d.cells.length=c)(f:c≠0)(u:len*c<=16777216)(j:zU e3.toList h9)(ag:NA c (List.replicate len d) (h9.map λ(i,y)=>(i,e5 y))=some e):
  ∃ars,(Instr.buildSlice t len (e3.map λ(i,y)=>(i,L y))).run P w=.ok (.slice (some ⟨w.heap.size,0,none⟩) len len) (Ag w (.cells ars g (0,0)))/\
   aq M J ars.toList (e.flatMap V.cells)/\e.length=len/\∀y∈e,y.cells.length=c:=by
 obtain⟨G,v⟩:=y7 N;have z:=Ox v;have m:(e3.map λ(i,y)=>(i,L y)).toList=e3.toList.map λp=>(p.1,L p.2):=u0;by_cases A:len=0
 ·subst A;obtain⟨i,H,xs⟩:=DH z;have n:e3.toList=[]/\h9=[]:=by
   cases h9 with
   |nil=>
    cases B:e3.toList with
    |nil=>exact⟨rfl,rfl⟩
    |cons a b=>rw[B]at j;simp[zU]at j
   |cons q h9=>simp only[JJ,xc,NA]at ag;rw[O3 u0]at ag;cases ag
  obtain⟨C,rfl⟩:=n;simp only[JJ,Xbx,NA]at ag;cases ag;refine⟨#[],?_,by exact aq.nil,rfl,u0⟩;unfold Instr.buildSlice;simp only[vl,run_underlying G,Qb4 z,Result.andThen,QB];rw[O3 (by decide)];simp[vl,vF,Result.andThen,m,C,Instr.fill,newRow,newObj,Sem.run,Ag,Array.range_zero']
 ·obtain⟨E,o⟩:=O.resolve_left A;obtain⟨i,Q,H,xs,F,R,l⟩:=Qnb E z o f;obtain⟨s,K,S,hl,hs⟩:=Qqb qs j (λx ag=>by rw[Hf ag];exact o) l ag;refine⟨s.toArray,?_,by simpa using S,by simpa using hl,hs⟩;have:=run_buildSlice w t g len (e3.map λ(i,y)=>(i,L y)) s.toArray i Q G H F (by rw[xs];omega) (by rw[xs];exact Nat.mul_ne_zero A f) (by rw[xs,m];rw[Array.toArray_toList]at K;exact K)
  exact this
end
def tg(h:f.oneCell):f.oneCell':=by cases f<;>first|rfl|cases h
section
variable{P:Program}{M:vn}{J:bk}{X:Nat->Prop}{D:cY}{w:World}{us:vB}{U:uZ}{I:hN}
def K0(P:Program)(str:Bool)(a:TypeId)(sz:Nat):Bool:=
 match P.underlying a with
 |some (.slice _)=>!str
 |some .string=>str&&sz==1
 |_=>false
def I_(s:ByteArray):aq M J (byteCells s) (u4 s.data.toList):=by unfold byteCells u4;refine⟨u0,λi u c d e => ?_⟩;simp only[ym,xB]at d e;obtain⟨b,f,rfl⟩:=d;obtain⟨g,a,rfl⟩:=e;rw[f]at a;cases a;exact .int _ _
def UL:(u4 i6).flatMap V.cells=u4 i6:=by
 induction i6 with
 |nil=>rfl
 |cons b i6 a=>unfold u4 at*; simp only[xc,AR,a];rfl
def W3(h:aq M J l e)(a:∀c∈e,c.one):∀u∈l,u.oneCell:=λu b=>by have⟨i,d⟩:=Qt.1 b;have⟨c,cs,f⟩:=h.get' d;exact f.one (a c (Ah cs))
def UO(h:Wd M J X D w I){str:Bool}(v:K0 P str g c)(p:aB M J f d)(ag:Nv str I d=W e)(o:ZS k c e):
  ∃vs,Src P c g f e.length vs w/\aq M J vs (e.flatMap V.cells):=by
 unfold K0 at v;unfold Nv at ag;have i:=y_ (C8 o).1;split at v
 ·rename_i sz l;have y:str=T:=by simpa using v
  subst y;simp only[vD,A9d]at ag;rcases Qtv h p ag with ⟨⟨q,rfl⟩,rfl⟩|⟨b,r,s,vs,rfl,m,t⟩
  ·cases q with
   |none=>exact⟨[],Src.ofNil w l 0,aq.nil⟩
   |some a=>exact⟨[],Src.ofSlice w l _ _ _ [] u0 (λj u n=>by simp at n) (λu l=>by simp at l),aq.nil⟩
  ·refine⟨vs,Src.ofSlice w l _ _ _ vs (by rw[m.1,i]) (λj u a => ?_) (λu l=>tg (W3 m (Uq o) u l)),m⟩;rw[wv];exact t j u a
 ·rename_i a;simp only[vc,w4]at v;obtain⟨rfl,rfl⟩:=v;simp only[A9c]at ag;cases d<;>(try (cases ag;done));cases ag;obtain⟨s,rfl,rfl⟩:=p.bw;refine⟨byteCells s,?_,?_⟩
  ·have:=Src.ofString w a s;have b:(u4 s.data.toList).length=s.size:=by unfold u4;rw[wq,DR];rfl
   rw[b];exact this
  ·rw[UL];exact I_ s
 ·cases v
def UQ{t ty:TypeId}(k:P.underlying t=W (.slice p))(o:P.info? p=W g9){b off a:Nat}{c:vB}(e:Src P g9.size g f F c w)(d:a+F<=h){T9:TypeId}{fz:Nat×Nat}(n:w.heap[b]?=W (.cells m T9 fz))(q:off+a*g9.size+c.length<=m.size)(r:∀j,off+a*g9.size<=j->j<m.size->Qbg fz j=T):
  (Builtin.append_ #[t,g] ty #[.slice (W ⟨b,off,none⟩) a h,f]).run P w=.ok (.slice (W ⟨b,off,none⟩) (a+F) h) (setRow w b (bA m (off+a*g9.size) c) T9 fz):=by
 have x:∀u∈c,u.oneCell:=λu s=>by have:=e.one u s;cases u<;>first|rfl|cases this
 have ws:=yV (P:=P) b (off+a*g9.size) T9 fz c w m 0 n (by simpa using q) (λj v y=>r j (by simpa using v) (by simp at y;omega)) x;simp only[KY]at ws;rcases e.kind with ⟨z,l⟩|l<;>simp[Builtin.append_,Go.run_underlying k,Go.run_underlying l,sizeOf,typeInfo,o,e.len,d,e.cells,wv,ws]
def take_left(a b:List k4):(a++b).take a.length=a:=Ul
def HK(J:bk)(w w':World):Prop:=∀o b,J o=some b->w'.heap[b]?=w.heap[b]?
def HK.refl(J:bk)(w:World):HK J w w:=λ_ _ _=>rfl
def Wd.ig(h:Wd M J X D w I)(o:Obj)(n:Nat):HK J w (Ag {w with drawn:=n} o):=λo b a=>RO _ _ (h.dv o b a)
def Wd.bR(h:Wd M J X D w I)(o:Obj):HK J w (Ag w o):=λo b a=>RO _ _ (h.dv o b a)
def Qnc(h:St M J X D w us U I){t ty:TypeId}{bytes:Nat}(ht:ZO P t k c=W p)(hz:∃sz,Pe P p=W sz/\sz.cells.size=c)(a:(P.info? p).map (·.bytes)=W bytes)(v:c≠0){base:Option Addr}{sCap:Nat}{xs:uZ}{olds vs:vB}(l:∀w':World,w'.heap=w.heap->(Builtin.firstCells c xs.length (.slice base xs.length sCap)).run P w'=.ok olds.toArray w')(B:aq M J olds (xs.flatMap V.cells))(C:∀x∈xs,x.cells.length=c)(m:Src P c g f e.length vs w)(E:aq M J vs (e.flatMap V.cells))(F:∀y∈e,y.cells.length=c)(s:sCap<xs.length+e.length)(G:(xs.length+e.length)*bytes<=Qaq)(v:xs.length+e.length<=9223372036854775807)(d:AQ):
  ∃u w' z D',(Builtin.append_ #[t,g] ty #[.slice base xs.length sCap,f]).run P w=.ok u w'/\Ext X M J w z J w'/\HK J w w'/\St z J X D' w' (fR us d u) (put U d (.sl (xs++e) (.gr c))) I:=by
 have⟨hu,H⟩:=y7 ht;have⟨i,K,L⟩:=DH (Ox H);obtain⟨sz,v,N⟩:=hz;have O:i.zero=some sz:=by unfold Pe at v;rw[K]at v;exact v
 have Q:i.bytes=bytes:=by rw[K]at a;simpa using a
 subst L Q;have n:Builtin.nextslicecap (xs.length+e.length) sCap*i.bytes<=281474976710656:=growslice_fits s G;have o:=run_append_grow_src (P:=P) w t g ty p i sz hu K O base xs.length sCap olds (l w.drew rfl) f e.length vs m s Y n;have A:=grownCap_ge w (xs.length+e.length) sCap p;have R:=size_zeroCells sz.cells (grownCap w (xs.length+e.length) sCap p-(xs.length+e.length));have hd:=h.drew;have b:aq M J (olds++vs) ((xs++e).flatMap V.cells):=by rw[Ue];exact B.append E
 have ag:∀y∈xs++e,y.cells.length=i.size:=λy j=>by
  rcases xf.1 j with h|h
  ·exact C y h
  ·exact F y h
 have S:=y_ ag;have q:(olds++vs).length=((xs++e).flatMap V.cells).length:=b.1;have⟨z,D',he,r⟩:=hd.putRow ((olds++vs).toArray++Builtin.zeroCells sz.cells (grownCap w (xs.length+e.length) sCap p-(xs.length+e.length))) p (0,0) (xs++e) (.gr i.size) (grownCap w (xs.length+e.length) sCap p) i.size
  (by
   rw[KS,<-q];rw[show((olds++vs).toArray).toList=olds++vs from rfl,take_left];exact b) ag (by simpa using A) (λp=>by cases p) (λs j=>by
   cases j;refine⟨rfl,?_,λj _ _ => ?_⟩
   ·rw[Uh,R,N,Qw,q,S,vW,<-I8];exact DY _ Y
   ·unfold Qbg;simp) d
 refine⟨_,_,z,D',o,(Ext.drew X M J w).trans he,h.wd.ig _ _,?_⟩;have b:(xs++e).length=xs.length+e.length:=vW;rw[b]at r;exact r
end
section
variable{P:Program}{M:vn}{J:bk}{X:Nat->Prop}{D:cY}{w:World}{us:vB}{U:uZ}{I:hN}
def O8{t ty:TypeId}(j:P.underlying t=W (.slice p))(k:P.info? p=W g9){base:Option Addr}{b sCap:Nat}(d:Src P g9.size g f 0 [] w)(c:b<=sCap):
  (Builtin.append_ #[t,g] ty #[.slice base b sCap,f]).run P w=.ok (.slice base b sCap) w:=by
 have i:∀a:Addr,(storeCells a []).run P w=.ok () w:=λa=>rfl;cases base<;>rcases d.kind with ⟨l,h⟩|h<;>simp[Builtin.append_,Go.run_underlying j,Go.run_underlying h,sizeOf,typeInfo,k,d.len,c,d.cells,i]
def DK(P:Program)(str ag:Bool)(sz bytes:Nat)(t a:TypeId):Bool:=
 match ZO P t ag sz with
 |some e=>decide ((Pe P e).map (·.cells.size)=some sz)&&decide ((P.info? e).map (·.bytes)=some bytes)&&decide (sz≠0)&&decide (bytes≠0)&&K0 P str a sz
 |none=>false
def Qhl{str:Bool}{sz bytes:Nat}{t c:TypeId}(h:DK P str k sz bytes t c):
  ∃e i,ZO P t k sz=W e/\P.underlying t=W (.slice e)/\P.info? e=W i/\i.size=sz/\(∃d,Pe P e=W d/\d.cells.size=sz)/\(P.info? e).map (·.bytes)=W bytes/\sz≠0/\bytes≠0/\K0 P str c sz:=by
 unfold DK at h;split at h
 ·rename_i e f;simp only[vc,A9f]at h;obtain⟨⟨⟨⟨g,j⟩,ag⟩,l⟩,m⟩:=h;have⟨n,a⟩:=y7 f;have⟨i,o,b⟩:=DH (Ox a);rw[xB]at g;exact⟨e,i,f,n,o,b,g,j,ag,l,m⟩
 ·cases h
def K1{b:Nat}(h:c*b<=Qaq)(a:b≠0):c<=9223372036854775807:=by have:c*1<=c*b:=Hi _ (Nat.one_le_iff_ne_zero.2 a);unfold Qaq at h;omega
def Qy9{bytes:Nat}{xs b:uZ}(h:RE k c bytes (.sl xs i5) b=W d)(ag:b≠[]):
  ZS k c b/\(i5=.fx\/i5=.gr c)/\(∀q∈xs,q.cells.length=c)/\(xs.length+b.length)*bytes<=Qaq/\d=.sl (xs++b) (.gr c):=by
 unfold RE at h;split at h
 ·rename_i e;cases b with
  |nil=>exact absurd rfl ag
  |cons g i=>
   simp only at h;split at h
   ·rename_i a;cases h;exact⟨e,a.1,λq f=>by simpa using AI.1 a.2.1 q f,a.2.2,rfl⟩
   ·cases h
 ·cases h
def Wco{bytes:Nat}(h:RE k c bytes .ad e=W d)(b:e≠[]):
  ZS k c e/\e.length*bytes<=Qaq/\d=.sl e (.gr c):=by
 unfold RE at h;split at h
 ·rename_i sz;simp only[b,A9d]at h;split at h
  ·rename_i ag;cases h;exact⟨sz,ag,rfl⟩
  ·cases h
 ·cases h
def Qn5{bytes:Nat}(h:RE k c bytes d e=some i):d=.ad\/∃xs z,d=.sl xs z:=by
 unfold RE at h;split at h
 ·cases d<;>first|exact .inl rfl|exact .inr ⟨_,_,rfl⟩|cases h
 ·cases h
def Wec(h:St M J X D w us U I){t ty:TypeId}{str:Bool}{bytes:Nat}(K:DK P str k c bytes t g){O:Value}(Q:aB M J f d)(R:aB M J O i)(S:Nv str I i=W e)(j:e≠[])(B:∀xs s,d≠.sl xs (.gr s))(C:RE k c bytes d e=W H)(L:AQ):
  ∃u w' s D',(Builtin.append_ #[t,g] ty #[f,O]).run P w=.ok u w'/\Ext X M J w s J w'/\HK J w w'/\St s J X D' w' (fR us L u) (put U L H) I:=by
 have⟨sz,y,z,hu,t,s,E,l,m,n,A⟩:=Qhl K;have ag:0<e.length:=Xg.2 j;rcases Qn5 C with rfl|⟨xs,N,rfl⟩
 ·obtain⟨a,b,rfl⟩:=Wco C j;have⟨r,q,o⟩:=UO h.wd A R S a;have p:=(C8 a).1;cases Q;have:=Qnc (ty:=ty) h z E l m (base:=none) (sCap:=0) (xs:=[]) (olds:=[]) (λw' _=>rfl) aq.nil u0 q o p (by simp;exact ag) (by simpa using b) (by simpa using K1 b n) L;simpa using this
 ·obtain⟨p,F,v,a,rfl⟩:=Qy9 C j;have⟨j,hS,q⟩:=UO h.wd A R S p;have r:=(C8 p).1;have G:N=.fx:=F.resolve_right (λsz=>B xs c (by rw[sz]));rcases Q.ea with ⟨b,x,cap,a1,a2,rfl,_,hr,hm,o,hf⟩|⟨a0,rfl,rfl,_⟩
  case inr=>exact Qnc (ty:=ty) h z E l m (base:=W a0) (sCap:=0) (xs:=[]) (olds:=[]) (λw' _=>by unfold Builtin.firstCells;simp only[xJ,QB];rfl) aq.nil u0 hS q r (by simp;exact ag) (by simpa using a) (by simpa using K1 a n) L
  have N:=hf G;have o:=h.wd.cells hm;exact Qnc (ty:=ty) h z E l m (base:=W ⟨b,x,none⟩) (λw' K=>by refine Qgp (cap:=cap) (by rw[hr.1,y_ v]) (λy u hu => ?_) xs.length;have:=o y u hu;simpa[World.cell?,K]using this) hr v hS q r Y a (K1 a n) L
def Wed{str:Bool}{sz:Nat}{b:uZ}(h:Src P sz g f b.length l w)(c:b=[]):Src P sz g f 0 [] w:=by subst c;have d:=h.newsLen;have:=CP.1 (by simpa using d);subst this;exact h
def Qza(h:Wd M J X D w I){t ty:TypeId}{str:Bool}{bytes:Nat}(r:DK P str k c bytes t g)(q:aB M J f d)(s:aB M J u i)(x:Nv str I i=W [])(a:RE k c bytes d []=W H):(Builtin.append_ #[t,g] ty #[f,u]).run P w=.ok f w/\H=d:=by
 have⟨e,o,v,l,m,n,N,A,B,C,sz⟩:=Qhl r;have p:ZS k c []:=rfl;have⟨O,E,F⟩:=UO h sz s x p;have ag:=Wed (str:=str) E rfl;subst n;unfold RE at a;rw[A9a p]at a;cases d<;>(try (cases a;done))
 case ad=>simp at a;cases q;exact⟨O8 l m ag (vE _),a.symm⟩
 case sl xs y=>
  simp at a;rcases q.ea with ⟨b,G,z,K,L,rfl,_,Q,R,j,S⟩|⟨U,rfl,rfl,_⟩
  ·exact⟨O8 l m ag j,a.symm⟩
  ·exact⟨O8 l m ag (vE _),a.symm⟩
def Wu3(h:St M J X D w us U I){t ty:TypeId}{str:Bool}{bytes:Nat}(hc:DK P str k c bytes t g){n s:Nat}(hv:us[n]?=W f)(E:U[n]?=W (.sl e (.gr s)))(hy:aB M J u d)(hs:Nv str I d=W y)(S:y≠[])(he:RE k c bytes (.sl e (.gr s)) y=W i)(vy:AQ):
  ∃xs w' M' D',(Builtin.append_ #[t,g] ty #[f,u]).run P w=.ok xs w'/\Ext X M J w M' J w'/\HK J w w'/\St M' J X D' w' (fR us vy xs) (put (U.set n (.sl e .no)) vy i) I:=by
 have⟨sz,l,a0,hu,hi,a1,hz,a2,a3,a4,F⟩:=Qhl hc;obtain⟨G,a5,m,H,rfl⟩:=Qy9 he S;have a6:s=c:=by rcases a5 with h|h<;>cases h;rfl
 subst a6;have⟨vs,hS,K⟩:=UO h.wd F hy hs G;have L:=(C8 G).1;have a7:=h.bC.2 n _ _ hv E;rcases a7.ea with ⟨b,z,cap,b4,p,rfl,_,R,hm,b3,_⟩|⟨_,_,_,a8⟩
 case inr=>exact absurd rfl (a8 _)
 have x:=h.wd.cells hm;have⟨D1,h1,A,hg⟩:=h.gh hv E (rfl:aJ _ _=W b);have⟨g1,g2,ws,T9,fz,g3,g4,g5⟩:=hg.ok e s rfl _ _ _ rfl;have B:=y_ m;simp only at g2 g3 g4 g5;have N:St M J X D1 w us (U.set n (.sl e .no)) I:=h1;by_cases ag:e.length+y.length<=cap
 ·
  have a9:vs.length=y.length*s:=hS.newsLen;have v:z+e.length*s+vs.length<=ws.size:=by rw[a9,I6,<-I8];exact zr (Nat.add_le_add_left (DY _ ag) _) g4
  subst a1;have O:=UQ (P:=P) (ty:=ty) hu hi hS ag g3 v (λj C r=>g5 j (by rw[B];exact C) r);have⟨h2,tx⟩:=N.fill A g3 (s:=z+e.length*l.size) (vs:=vs) (λj hj=>g2 j (by rw[B];exact hj)) v;have vx:∀q∈e++y,q.cells.length=l.size:=λq a=>by
   rcases xf.1 a with h|h
   ·exact m q h
   ·exact L q h
  have b5:p.length=e.length*l.size:=by rw[R.1,B]
  have Q:aB (Yp M b (z+e.length*l.size) vs) J (.slice (W ⟨b,z,none⟩) (e++y).length cap) (.sl (e++y) (.gr l.size)):=by
   have q:aq (Yp M b (z+e.length*l.size) vs) J (p++vs) ((e++y).flatMap V.cells):=by rw[Ue];exact(R.mono tx.m tx.i).append (K.mono tx.m tx.i)
   refine .sl (e++y) (.gr l.size) b z cap l.size (p++vs) vx q.1 (λj xs a => ?_) q.2 (by rw[vW];exact ag) (λsz=>by cases sz);rw[JI]at a;split at a
   ·exact tx.m.le _ _ _ (hm j xs a)
   ·rename_i b;unfold Yp;have b:=(wy.1 a).1;rw[A9a ⟨rfl,by omega,by omega⟩];rw[show z+j-(z+e.length*l.size)=j-p.length from by omega];exact a
  have⟨D',h3⟩:=h2.jW Q (λb' a=>by
   cases a;refine⟨⟨A.k,A.x,A.i,by rw[setRow_size];exact A.lt⟩,⟨λag y q a h b b0 => ?_⟩⟩;cases q;cases b0;refine⟨vx,λj hj => ?_,bA ws (z+e.length*l.size) vs,T9,fz,by rw[setRow_heap,A9a rfl,A9a A.lt],by rw[Hp];exact g4,λj C r=>g5 j ?_ (by rw[Hp]at r;exact r)⟩
   ·unfold Yp;have q:=y_ vx;rw[vW,I8]at q;simp only at hj;rw[O3 Y];exact g2 j Y
   ·have q:=y_ vx;rw[vW,I8]at q;simp only at C;omega) vy
  rw[vW]at h3;exact⟨_,_,_,D',O,tx,λo b' b1=>by rw[setRow_heap,O3 (λsz=>by subst sz;exact A.i o b1)],h3⟩
 ·exact Qnc N a0 hz a2 a3 (λw' a=>by refine Qgp (cap:=cap) (by rw[R.1,y_ m]) (λl xs hu => ?_) e.length;have:=x l xs hu;simpa[World.cell?,a]using this) R m hS K L Y H (K1 H a4) vy
end
def DB(P:Program):List FieldStep->TypeId->Option (TypeId×Nat)
 |[],t=>some (t,0)
 |[s],_=>
  match s.deref,P.underlying s.struct with
  |false,some (.struct a)=>
   match a[s.index]? with
   |some f=>if d' P f.type=some true then some (f.type,f.offset)else none
   |none=>none
  |_,_=>none
 |_,_=>none
def Mf(P:Program)(t:TypeId):Option Bool:=(P.underlying t).map λd=>match d with | .pointer _=>true|_=>false
def Qwl(P:Program)(a:String)(t:TypeId)(ag:Bool):Bool:=
 match P.info? t with
 |some i=>match i.methods.find? (·.name==a)with
  |some m=>match m.func,DB P m.path.toList t with
   |some (_,true),some _=>ag||m.path.toList.isEmpty
   |some (_,false),some (b,_)=>(Mf P b==some false)&&(ag||m.path.toList.isEmpty)
   |_,_=>false
  |none=>false
 |none=>false
def Qn7(P:Program)(a:String)(t:TypeId)(f:FuncId)(w:Option (Nat×Nat)):Bool:=
 match P.info? t with
 |some i=>match i.methods.find? (·.name==a)with
  |some m=>match m.func,w with
   |some (g,b),none=>f==g&&m.path.toList.isEmpty&&Mf P t==some b
   |some (g,b),some (c,e)=>f==g && !b && !m.path.toList.isEmpty&&(match DB P m.path.toList t with
    |some (d,o)=>o==c&&cP P d==some e&&Mf P d==some false
    |none=>false)
   |none,_=>false
  |none=>false
 |none=>false
def Rx(P:Program)(a:CK)(t:TypeId):Bool:=
 match a,P.underlying t with
 | .s,some .string | .i,some (.int _) | .b,some .bool=>true
 |_,_=>false
def kR:CK->TypeDesc->Bool
 | .s,.string | .i,.int _ | .b,.bool=>true
 |_,_=>false
variable{e7:CK}{e8:String}{i4:FuncId}{i7:List MapEntry}{j0:MapEntry}{j1:V×V}
section
variable{P:Program}{M:vn}{J:bk}{X:Nat->Prop}{D:cY}{w:World}{I:hN}
def Qqe{t:TypeId}(h:Rx P e7 t):∃d,P.underlying t=W d/\kR e7 d:=by unfold Rx at h;split at h<;>first|(rename_i b;exact⟨_,b,rfl⟩)|cases h
def Qn8{s t:ByteArray}:(s==t)=decide (s.data.toList=t.data.toList):=by
 rw[show(s==t)=(s.data==t.data)from by cases s;cases t;rfl];by_cases h:s.data=t.data
 ·rw[h,xG rfl];exact beq_self_eq_true _
 ·rw[A9i (λe=>h (AU e))];exact beq_false_of_ne h
def Qnd(e:kR e7 S){y:V}(g:aB M J f d)(j:aB M J u y){b:Bool}(h:Hw e7 d y=W b):Instr.sameNow S f u=some b:=by
 cases e7 with
 |b=>cases S<;>(try (cases e;done));cases d<;>(try (cases h;done));cases y<;>(try (cases h;done));cases h;rw[g.cA,j.cA];rfl
 |i=>cases S<;>(try (cases e;done));obtain⟨k,a,c,rfl,rfl,rfl⟩:=Qts h;rw[g.ba,j.ba];unfold Instr.sameNow;simp
 |s=>cases S<;>(try (cases e;done));obtain⟨a,c,rfl,rfl,rfl⟩:=Qtt h;obtain⟨s,rfl,rfl⟩:=g.bw;obtain⟨i,rfl,rfl⟩:=j.bw;unfold Instr.sameNow;simp only[Qn8]
def Uu.head{b:List (V×V)}(h:Uu M J (j0::i7) (j1::b)):aB M J j0.key j1.1/\aB M J j0.val j1.2:=h.2 0 j0 j1 rfl rfl
def Uu.tail{b:List (V×V)}(h:Uu M J (j0::i7) (j1::b)):Uu M J i7 b:=
 ⟨by simpa using h.1,λi c d f g=>h.2 (i+1) c d (by simpa using f) (by simpa using g)⟩
theorem Wee{l:CK}{d:TypeDesc}(b:kR l d){c:Value}{m:V}(f:aB M J c m):∀ {a:List MapEntry} {g:List (V×V)},Uu M J a g->∀(i:Nat) {r:AW},iU l m g=W r->
  (r=none/\Instr.findNow d c a i=W none)\/∃x j,∃e:MapEntry,r=W x/\aB M J e.val x/\Instr.findNow d c a i=W (W (j,e.val))
 |[],[],_,i,r,h=>by cases h;exact .inl ⟨rfl,rfl⟩
 |e::a,[],h,_,_,_=>by have:=h.1;simp at this
 |[],_::_,h,_,_,_=>by have:=h.1;simp at this
 |e::a,(q,x)::g,n,i,r,h=>by
  have⟨o,p⟩:=n.head;unfold iU at h;split at h
  ·rename_i k;cases h;refine .inr ⟨x,i,e,rfl,p,?_⟩;unfold Instr.findNow;rw[Qnd b f o k]
  ·rename_i k;unfold Instr.findNow;rw[Qnd b f o k];exact Wee b f n.tail (i+1) h
  ·cases h
theorem Wod{p:CK}{d:TypeDesc}(k:kR p d){f:Value}{g:V}(l:aB M J f g){y:V}:∀ {b:List MapEntry} {c a:List (V×V)},Uu M J b c->∀(i:Nat),jV p g y c=W a->
  (Instr.findNow d f b i=W none/\a=c++[(g,y)])\/∃j,∃e:MapEntry,b[j]?=W e/\Instr.findNow d f b i=W (W (i+j,e.val))/\Instr.sameNow d f e.key=W true/\a=c.set j (g,y)
 |[],[],a,_,i,h=>by cases h;exact .inl ⟨rfl,rfl⟩
 |e::b,[],_,h,_,_=>by have:=h.1;simp at this
 |[],_::_,_,h,_,_=>by have:=h.1;simp at this
 |e::b,(w,x)::c,a,q,i,h=>by
  have⟨r,z⟩:=q.head;unfold jV at h;split at h
  ·rename_i m;cases h;have n:=Qnd k l r m;refine .inr ⟨0,e,rfl,?_,n,rfl⟩;unfold Instr.findNow;rw[n];rfl
  ·rename_i m;rw[xB]at h;obtain⟨A,s,rfl⟩:=h;unfold Instr.findNow;rw[Qnd k l r m];rcases Wod k l q.tail (i+1) s with ⟨n,o⟩|⟨j,t,n,o,u,v⟩
   ·exact .inl ⟨n,by rw[o];rfl⟩
   ·exact .inr ⟨j+1,t,by simpa using n,by rw[o];simp;omega,u,by rw[v];rfl⟩
  ·cases h
def Qih{t:TypeId}(c:P.underlying t=W S)(e:kR e7 S)(b:Bool)(v:Value):(Instr.checkKey b 10000 t v).run P w=.ok () w:=by show(Instr.checkKey b (9999+1) t v).run P w=.ok () w;unfold Instr.checkKey;rw[vl,run_underlying c];simp only[Result.andThen];cases e7<;>cases S<;>first|(cases e;done)|rfl
def C6{t:TypeId}(b:P.underlying t=W S){r:Option (Nat×Value)}(h:Instr.findNow S f i7 0=W r):(Instr.findKey t f i7).run P w=.ok r w:=by unfold Instr.findKey;rw[vl,run_underlying b];simp only[Result.andThen,h];rfl
def Qqf{b:Array MapEntry}(r:w.heap[c]?=W (.map b h)):(getObj c).run P w=.ok (.map b h) w:=by unfold getObj;simp only[Sem.run,r]
def aB.jX(h:aB M J f (.mp c)):∃r,f=.map (W r)/\J c=some r:=by cases h;exact⟨_,rfl,‹_›⟩
def Wkh(h:Wd M J X D w I){t:TypeId}(U:P.underlying t=W (.map g p))(hk:Rx P e7 g){E:Value}(s:Pe P p=W E)(G:aB M J E d){m x:V}(hm:aB M J f m)(z:aB M J u H)(e:jr e7 I m H=W N)(hx:x=if k then .aR [N.getD d,.bool N.isSome]else N.getD d):∃C,(Instr.lookup t f u k).run P w=.ok C w/\aB M J C x:=by
 have n:(zeroValue p).run P w=.ok E w:=by unfold Pe at s;rw[vh]at s;obtain⟨i,K,s⟩:=s;unfold zeroValue;simp only[vl,Gy K,Result.andThen,s];rfl
 have A:∀(b:Bool) (v:Value) (y:V),aB M J v y->x=(if k then .aR [y,.bool b]else y)->aB M J (if k then .tuple #[v,.bool b]else v) x:=by
  intro b v y j o;subst o;cases k with
  |false=>exact j
  |true=>
   simp only[A9c];refine .aR _ _ rfl λi C c l B => ?_
   match i with
   |0=>cases l;cases B;exact j
   |1=>cases l;cases B;exact .bool b
   |i+2=>simp at B
 have⟨S,l,L⟩:=Qqe hk;have a:∀q:Array MapEntry,((N=none/\Instr.findNow S u q.toList 0=W none)\/∃y j,∃p:MapEntry,N=W y/\aB M J p.val y/\Instr.findNow S u q.toList 0=W (W (j,p.val)))->
   ∃C,(do
    Instr.checkKey q.isEmpty 10000 g u
    let (v,c) <-match <-Instr.findKey g u q.toList with
     |some (_,v)=>pure (v,true)
     |none=>pure (<-zeroValue p,T)
    pure (if k then .tuple #[v,.bool c]else v):Sem Value).run P w=.ok C w/\aB M J C x:=by
  intro q B;rcases B with ⟨o,r⟩|⟨y,j,R,o,hy,r⟩
  ·subst o;refine⟨_,?_,A T E d G hx⟩;simp only[vl,Qih l L,C6 l r,Result.andThen,n,vF]
  ·subst o;refine⟨_,?_,A true R.val y hy hx⟩;simp only[vl,Qih l L,C6 l r,Result.andThen,vF]
 unfold jr at e;cases m<;>(try (cases e;done))
 case cg=>cases e;cases hm;have⟨C,F,Q⟩:=a #[] (.inl ⟨rfl,rfl⟩);refine⟨C,?_,Q⟩;unfold Instr.lookup;rw[vl,run_underlying U];simp only[Result.andThen];exact F
 case mp o=>
  simp only at e;split at e
  ·rename_i q c;obtain⟨b,rfl,K⟩:=hm.jX;have⟨O,hO,j⟩:=h.obj o b K;rw[c]at hO;cases hO;obtain⟨b,r,c,R⟩:=j;have⟨C,F,Q⟩:=a b (Wee L z R 0 e);refine⟨C,?_,Q⟩;unfold Instr.lookup;rw[vl,run_underlying U];simp only[Result.andThen];simp only[vl,Qqf c,Result.andThen,vF]at F ⊢;exact F
  ·cases e
def C7{t:TypeId}{b:Bool}(h:Mf P t=W b):∃d,P.underlying t=W d/\(b->∃e,d=.pointer e)/\(b=T->∀e,d≠.pointer e):=by
 unfold Mf at h;rw[xB]at h;obtain⟨d,c,a⟩:=h;refine⟨d,c,?_,?_⟩
 ·rintro rfl;cases d<;>first|exact⟨_,rfl⟩|cases a
 ·rintro rfl e rfl;cases a
def Qqg{t:TypeId}(a:d' P t=W true)(b:cP P t=W c)(vs:wk)(off:Nat):(Go.part t vs off).run P w=.ok (.agg (vs.extract off (off+c))) w:=by unfold Go.part;simp only[vl,DW a,Qb4 b,Result.andThen,A9c];rfl
def qH{t:TypeId}(a:d' P t=W true):∃sz,cP P t=some sz:=by
 unfold d' Program.underlying at a;unfold cP;cases b:P.info? t with
 |none=>rw[b]at a;simp at a
 |some i=>exact⟨_,rfl⟩
def Qn9{s:FieldStep}{t b:TypeId}(h:DB P [s] t=W (b,c)):∃a f,s.deref=T/\P.underlying s.struct=W (.struct a)/\a[s.index]?=W f/\d' P f.type=W true/\f.type=b/\f.offset=c:=by
 simp only[DB]at h;split at h
 ·rename_i a off d;split at h
  ·rename_i f e;split at h
   ·rename_i g;cases h;exact⟨a,f,off,d,e,g,rfl,rfl⟩
   ·cases h
  ·cases h
 ·cases h
def Wcq{s:FieldStep}{t:TypeId}(off:DB P [s] t=W (g,c))(b:cP P g=W h)(vs:wk):(follow [s] t (.val (.agg vs))).run P w=.ok (g,.val (.agg (vs.extract c (c+h)))) w:=by obtain⟨i,f,sz,d,e,a,rfl,rfl⟩:=Qn9 off;unfold follow;simp only[vl,run_underlying d,Result.andThen,e,sz,vD,A9d,Qqg a b];rfl
def Wg{s:FieldStep}{t:TypeId}(off:DB P [s] t=W (g,c))(b:cP P g=W h)(vs:wk):(followBlind [s] t (W (.agg vs))).run P w=.ok (.ok (g,W (.agg (vs.extract c (c+h))))) w:=by obtain⟨i,f,sz,d,e,a,rfl,rfl⟩:=Qn9 off;unfold followBlind;simp only[vl,run_underlying d,Result.andThen,e,sz,vD,A9d,Qqg a b];rfl
def Qoa:∃n,P.types.size+Made.depth=n+1:=⟨P.types.size+Made.depth-1,by
 have a:0<Made.depth:=by decide
 omega⟩
def U7{t:TypeId}{q:Option (Nat×Nat)}(h:Qn7 P e8 t i4 q):∃i m b,P.info? t=W i/\i.methods.find? (·.name==e8)=W m/\m.func=W (i4,b)/\
  ((q=none/\m.path.toList=[]/\Mf P t=W b)\/∃off sz c,q=W (off,sz)/\b=T/\m.path.toList≠[]/\DB P m.path.toList t=W (c,off)/\cP P c=W sz/\Mf P c=W T):=by
 unfold Qn7 at h;split at h
 ·rename_i i j;split at h
  ·rename_i m k;split at h
   ·rename_i g b d;simp only[vc,w4]at h;obtain⟨⟨rfl,e⟩,l⟩:=h;exact⟨i,m,b,j,k,d,.inl ⟨rfl,by simpa using e,l⟩⟩
   ·rename_i g b off sz n;simp only[vc,w4,Qv]at h;obtain⟨⟨⟨rfl,p⟩,l⟩,d⟩:=h;split at d
    ·rename_i c o r;simp only[vc,w4]at d;obtain⟨⟨rfl,s⟩,u⟩:=d;refine⟨i,m,b,j,k,n,.inr ⟨o,sz,c,rfl,p,?_,r,s,u⟩⟩;intro e;rw[e]at l;cases l
    ·cases d
   ·cases h
  ·cases h
 ·cases h
def Wcr{t:TypeId}(h:Qn7 P e8 t i4 none)(v:Value):(method (P.types.size+Made.depth) t v e8).run P w=.ok (i4,v) w:=by
 have⟨i,m,g,j,k,l,o⟩:=U7 h;rcases o with ⟨-,p,b⟩|⟨_,_,_,q,_⟩
 case inr=>cases q
 have⟨d,r,s,u⟩:=C7 b;obtain⟨n,x⟩:=Qoa;have c:m.path=#[]:=by apply AU;simpa using p
 rw[x];unfold method;rw[vl,Gy j];simp only[Result.andThen,k,c];unfold follow;simp only[vl,vF,Result.andThen,l];unfold receiverAt;simp only[vl,run_underlying r,Result.andThen];cases g with
 |true=>obtain⟨e,rfl⟩:=s rfl;rfl
 |false=>have:=u rfl;cases d<;>first|rfl|exact absurd rfl (this _)
def Qwm{t:TypeId}(a:Qn7 P e8 t i4 (W (c,h)))(vs:wk):(method (P.types.size+Made.depth) t (.agg vs) e8).run P w=.ok (i4,.agg (vs.extract c (c+h))) w:=by
 have⟨i,m,B,o,p,q,u⟩:=U7 a;rcases u with ⟨sz,_⟩|⟨j,v,C,sz,rfl,e,b,x,g⟩
 ·cases sz
 cases sz;have⟨d,y,D,z⟩:=C7 g;obtain⟨n,A⟩:=Qoa;rw[A];unfold method;rw[vl,Gy o];simp only[Result.andThen,p];obtain⟨s,k⟩:∃s,m.path.toList=[s]:=by
  cases l:m.path.toList with
  |nil=>exact absurd l e
  |cons s r=>cases r with
   |nil=>exact⟨s,rfl⟩
   |cons _ _=>rw[l]at b;cases b
 rw[k]at b;rw[k,vl,Wcq b x];simp only[Result.andThen,q,vl];unfold receiverAt;simp only[vl,run_underlying y,Result.andThen];have:=z rfl;cases d<;>first|rfl|exact absurd rfl (this _)
def Jd{t:TypeId}(h:Qwl P e8 t k)(v:Value)(y:k->∃vs,v=.agg vs):(nilAhead (P.types.size+Made.depth) t v e8).run P w=.ok (some false) w:=by
 obtain⟨n,z⟩:=Qoa (P:=P);rw[z];unfold Qwl at h;split at h
 ·rename_i i A;split at h
  ·rename_i m B;unfold nilAhead;rw[vl,Gy A];simp only[Result.andThen,B];have j:∀e a,DB P m.path.toList t=some (e,a)->(k||m.path.toList.isEmpty)->∃x,(followBlind m.path.toList t (some v)).run P w=.ok (.ok (e,some x)) w:=by
    intro e a b p;cases ag:m.path.toList with
    |nil=>rw[ag]at b;cases b;exact⟨v,by unfold followBlind;rfl⟩
    |cons s r=>
     cases r with
     |cons _ _=>rw[ag]at b;cases b
     |nil=>rw[ag]at p b;obtain⟨vs,rfl⟩:=y (by simpa using p);obtain⟨H,f,C,u,I,D,E,J⟩:=Qn9 b;obtain⟨K,F⟩:=qH (t:=e) (by rw[<-E];exact D);exact⟨_,Wg b F vs⟩
   split at h
   ·rename_i g q l b;obtain⟨e,a⟩:=q;obtain⟨x,o⟩:=j e a b h;rw[vl,o];simp only[Result.andThen,l];rfl
   ·rename_i g e a l b;simp only[vc,w4]at h;obtain⟨x,o⟩:=j e a b h.2;obtain⟨d,G,C,u⟩:=C7 h.1;rw[vl,o];simp only[Result.andThen,l,vl,run_underlying G];have:=u rfl;cases d<;>first|rfl|exact absurd rfl (this _)
   ·cases h
  ·cases h
 ·cases h
end
def g_(y:Arg)(a:Bool):Bool:=
 match y,a with
 |_,false=>true
 | .t _,true=>true
 |_,_=>false
def PT:Option Operand->Option Arg->Bool
 |none,none=>true
 |some x,some y=>Qar x y
 |_,_=>false
def Wki:TypeDesc->Bool
 | .interface _=>false
 |_=>true
def Ry(P:Program)(t:TypeId):Bool:=match P.underlying t with|some .string=>true|_=>false
def Mn(P:Program)(t:TypeId):Bool:=match P.underlying t with|some (.int .u8)=>true|_=>false
def GZ{P:Program}{t:TypeId}(h:Ry P t):P.underlying t=W .string:=by unfold Ry at h;split at h<;>first|assumption|cases h
def Jb{P:Program}{t:TypeId}(h:Mn P t):P.underlying t=W (.int .u8):=by unfold Mn at h;split at h<;>first|assumption|cases h
def w9(P:Program)(o:Op)(i:Ins):Bool:=
 match i with
 | .mv y H=>match o with
  | .move x | .assign x=>Qar x y&&g_ y H
  |_=>false
 | .pick R S U=>match o with
  | .pick c a b=>Qar c R&&Qar a S&&Qar b U
  |_=>false
 | .alloc z=>match o with
  | .alloc e=>(match Pe P e with|some V=>Cx V.cells.toList z|none=>false)
  |_=>false
 | .box y=>match o with
  | .box _ x=>Qar x y
  |_=>false
 | .build z I=>match o with
  | .build t J=>WN P t z J.toList I
  |_=>false
 | .aw q h len z I _=>match o with
  | .buildSlice t w J=>(match ZO P t q h with
   |some e=>len==w&&(len==0||IM P e z&&decide (z.cells.length=h))&&decide (h≠0)&&decide (len*h<=16777216)&&zU J.toList I
   |none=>false)
  |_=>false
 | .d_ q h len z I=>match o with
  | .buildSlice t w J=>(match ZO P t q h with
   |some e=>len==w&&(len==0||IM P e z&&decide (z.cells.length=h))&&decide (h≠0)&&decide (len*h<=16777216)&&zU J.toList I
   |none=>false)
  |_=>false
 | .mark y=>match o with
  | .convert s d x=>s==d&&(match P.underlying s with|some (.slice e)=>Mn P e|_=>false)&&Qar x y&&g_ y true
  |_=>false
 | .load q h y=>match o with
  | .load t x=>pJ P t q h&&Qar x y
  |_=>false
 | .loadT y=>match o with
  | .load t x=>pJ P t false 1&&Qar x y
  |_=>false
 | .store h w y H=>match o with
  | .store t p x=>decide (cP P t=some h)&&Qar p w&&Qar x y&&g_ y H
  |_=>false
 | .dh y=>match o with
  | .nilCheck x=>Qar x y
  |_=>false
 | .bin D k u E=>match o with
  | .binOp Q t x y _=>decide (Q=D)&&Wu1 P Q k t x y&&Qar x u&&Qar y E
  |_=>false
 | .un D y=>match o with
  | .unOp Q _ x=>decide (Q=D)&&Qar x y
  |_=>false
 | .conv k y=>match o with
  | .convert s d x=>Qar x y&&(match k,P.underlying s,P.underlying d with
   | .toInt K,some _,some (.int j)=>decide (K=j)
   | .same,some .string,some .string=>true
   | .jT,some (.int _),some .string=>true
   | .bz,some .string,some (.slice e)=>Mn P e
   | .bh,some (.slice e),some .string=>Mn P e
   | .cL,some (.slice e),some .string=>Mn P e
   |_,_,_=>false)
  |_=>false
 | .ey y=>match o with
  | .convert s d x=>Qar x y&&(match P.underlying s,P.underlying d with
   |some .string,some (.slice e)=>Mn P e
   |_,_=>false)
  |_=>false
 | .ga y A v=>match o with
  | .slice t x L M F=>Ry P t&&F.isNone&&Qar x y&&PT L A&&PT M v
  |_=>false
 | .cut h y A v N=>match o with
  | .slice t x L M F=>(match P.underlying t with|some (.slice e)=>decide (cP P e=some h)|_=>false)&&Qar x y&&PT L A&&PT M v&&PT F N&&(N.isNone||v.isSome)
  |_=>false
 | .gb n h _ y A v=>match o with
  | .slice t x L M F=>(match P.underlying t with|some (.array m e)=>n==m&&decide (cP P e=some h)|_=>false)&&F.isNone&&Qar x y&&PT L A&&PT M v
  |_=>false
 | .cu G y=>match o with
  | .fieldAddr s x f=>(match CM P s f G with|some t=>(match cP P t with|some h=>decide (h≠0)|none=>false)|none=>false)&&Qar x y
  |_=>false
 | .field q G h y=>match o with
  | .field s x f=>(match CM P s f G with|some t=>pJ P t q h|none=>false)&&Qar x y
  |_=>false
 | .bT h y j=>match o with
  | .indexAddr t x i=>(match P.underlying t with|some (.slice e)=>decide (cP P e=some h)|_=>false)&&Qar x y&&Qar i j
  |_=>false
 | .fQ n h y j=>match o with
  | .indexAddr t x i=>(match P.underlying t with|some (.array m e)=>n==m&&decide (cP P e=some h)|_=>false)&&Qar x y&&Qar i j
  |_=>false
 | .idx y j=>match o with
  | .index t x i=>Ry P t&&Qar x y&&Qar i j
  |_=>false
 | .kL n q h y j=>match o with
  | .index t x i=>(match P.underlying t with|some (.array m e)=>n==m&&pJ P e q h|_=>false)&&Qar x y&&Qar i j
  |_=>false
 | .fc y=>match o with
  | .call {callee:=.builtin .len,args,argTypes}=>VQ args.toList [y]&&(match argTypes.toList with|[t]=>Ry P t|_=>false)
  |_=>false
 | .len y=>match o with
  | .call {callee:=.builtin .len,args,argTypes}=>VQ args.toList [y]&&(match argTypes.toList with|[t]=>(match P.underlying t with|some (.slice _)=>true|_=>false)|_=>false)
  |_=>false
 | .app B q h bytes u E H=>match o with
  | .call {callee:=.builtin .append,args,argTypes}=>VQ args.toList [u,E]&&g_ u H&&(match argTypes.toList with|[t,O]=>DK P B q h bytes t O|_=>false)
  |_=>false
 | .iZ v S U=>match o with
  | .makeFunc (.func f) a b=>f==v&&VQ a.toList S&&VQ b.toList U
  |_=>false
 | .kg v y=>match o with
  | .makeInterface t x=>t==v&&Qar x y&&(match P.underlying t with|some d=>Wki d|none=>false)
  |_=>false
 | .gD y j=>match o with
  | .extract x i=>i==j&&Qar x y
  |_=>false
 | .da q h bytes z v R _=>match o with
  | .makeSlice t l c=>(match ZO P t q h with
   |some e=>IM P e z&&decide (z.cells.length=h)&&decide (h≠0)&&decide (bytes≠0)&&decide ((P.info? e).map (·.bytes)=some bytes)&&Qar l v&&Qar c R
   |none=>false)
  |_=>false
 | .mm F C=>match o with
  | .call {callee:=.builtin b,args,argTypes:=_}=>(match b,F with | .max,true=>true | .min,false=>true|_,_=>false)&&VQ args.toList C
  |_=>false
 | .call f C=>match o with
  | .call {callee:=.value (.func g),args,argTypes:=_}=>f==g&&VQ args.toList C
  |_=>false
 | .dR y C=>match o with
  | .call {callee:=.value x,args,argTypes:=_}=>Qar x y&&VQ args.toList C
  |_=>false
 | .no=>true
 | .eQ k y=>match o with
  | .makeFunc (.method n) a b=>Qls k==n&&b.toList.isEmpty&&VQ a.toList [y]
  |_=>false
 | .cg k v y=>match o with
  | .nilCheck x=>Qar x y&&v.all λp=>Qwl P (Qls k) p.1 p.2
  |_=>false
 | .dS y v C=>match o with
  | .call {callee:=.invoke x n,args,argTypes:=_}=>Qar x y&&VQ args.toList C&&v.all λp=>Qn7 P n p.1 p.2.1 p.2.2
  |_=>false
 | .cw f C j=>match o with
  | .call {callee:=.value (.func g),args,argTypes:=_}=>f==g&&VQ args.toList C&&(match C[j]? with|some y=>g_ y true|none=>false)
  |_=>false
 | .kN y=>match o with
  | .range t x=>Ry P t&&Qar x y
  |_=>false
 | .kH y=>match o with
  | .next x true=>Qar x y
  |_=>false
 | .gZ=>match o with
  | .makeMap t r=>(match r with|none=>true|some (.const (.int _ _))=>(match P.underlying t with|some (.map _ _)=>true|_=>false)|_=>false)
  |_=>false
 | .uT X v K u=>match o with
  | .mapUpdate t m k x | .insert t m k x=>(match P.underlying t with|some (.map w _)=>Rx P X w|_=>false)&&Qar m v&&Qar k K&&Qar x u
  |_=>false
 | .kM X z v K A=>match o with
  | .lookup t m k C=>(match P.underlying t with|some (.map w e)=>Rx P X w&&(match Pe P e with|some V=>Qna V z|none=>false)|_=>false)&&C==A&&Qar m v&&Qar k K
  |_=>false
 | .lA B h u E=>match o with
  | .call {callee:=.builtin .copy,args,argTypes}=>VQ args.toList [u,E]&&(match argTypes.toList with
   |[t,O]=>(match P.underlying t with|some (.slice e)=>decide (cP P e=some h)&&decide (h≠0)&&K0 P B O h|_=>false)
   |_=>false)
  |_=>false
 | .lb h z u=>match o with
  | .call {callee:=.builtin .clear,args,argTypes}=>VQ args.toList [u]&&(match argTypes.toList with
   |[t]=>(match P.underlying t with|some (.slice e)=>decide (cP P e=some h)&&IM P e z&&decide (h≠0)|_=>false)
   |_=>false)
  |_=>false
 | .gE B q h bytes u E=>match o with
  | .call {callee:=.builtin .append,args,argTypes}=>VQ args.toList [u,E]&&g_ u true&&(match argTypes.toList with|[t,O]=>DK P B q h bytes t O|_=>false)
  |_=>false
 |_=>false
variable{j:Oper}{g7:List Operand}{i8:Option Operand}{k2:Array TypeId}
section
variable{P:Program}{M:vn}{J:bk}{X:Nat->Prop}{D:cY}{w:World}{U:uZ}{I:hN}{G:GV}{a:Act}
def yz(a:fN M J L e5){y:Option Arg}(h:PT i8 y):ie M J (i8.map L) (y.map e5):=by cases i8<;>cases y<;>first|trivial|exact a.ok _ _ h|cases h
def Xr(h:VQ g7 [o,B]):∃p q,g7=[p,q]/\Qar p o/\Qar q B:=by
 cases g7 with
 |nil=>simp[VQ]at h
 |cons p g7=>
  cases g7 with
  |nil=>simp[VQ]at h
  |cons q g7=>
   cases g7 with
   |nil=>simp only[VQ,vc]at h;exact⟨p,q,rfl,h.1,h.2.1⟩
   |cons _ _=>simp[VQ]at h
def Qhn(h:VQ g7 [o]):∃p,g7=[p]/\Qar p o:=by
 cases g7 with
 |nil=>simp[VQ]at h
 |cons p g7=>
  cases g7 with
  |nil=>simp only[VQ,vc]at h;exact⟨p,rfl,h.1⟩
  |cons _ _=>simp[VQ]at h
def Qzb{c:Option Tmp}{args:Array Operand}{b:Array Edge}{guard:Option (Nat×Bool)}:
  execOp L ⟨c,.call {callee:=.builtin .len,args:=args,argTypes:=k2},g,e8,b,guard⟩=(do pure (.value (<-Builtin.len_ k2 g (args.map L)))):=rfl
def Qob{c:Option Tmp}{args:Array Operand}{b:Array Edge}{guard:Option (Nat×Bool)}:
  execOp L ⟨c,.call {callee:=.builtin .append,args:=args,argTypes:=k2},g,e8,b,guard⟩=(do pure (.value (<-Builtin.append_ k2 g (args.map L)))):=rfl
def Qzc(h:Wd M J X D w I){i:Ins}(G:fN M J a.eval e5)(g:w9 P j.op i)(b7:∀y,i≠.conv .bz y)(l:Cs e5 I i=some d):
  ∃u,(execOp a.eval j).run P w=.ok (.value u) w/\aB M J u d:=by
 obtain⟨b0,K,O,b3,U,guard⟩:=j;have C:∀(s:Sem Value) {y:V},(∃u,s.run P w=.ok u w/\aB M J u y)->(execOp a.eval ⟨b0,K,O,b3,U,guard⟩=(do pure (.value (<-s))))->∃u,(execOp a.eval ⟨b0,K,O,b3,U,guard⟩).run P w=.ok (.value u) w/\aB M J u y:=by intro s y ⟨u,B,E⟩ l;refine⟨u,?_,E⟩;rw[l,vl,B];rfl
 cases i<;>(try (simp only[Cs]at l;cases l;done))
 case pick c' a' b'=>
  cases K<;>(try (cases g;done));simp only[w9,vc]at g;simp only[Cs]at l;split at l
  ·rename_i t ht;cases l;have b4:=G.ok _ _ g.1.1;rw[ht]at b4;have hb:=b4.cA;rename_i c1 a1 b1 _;refine⟨if t then a.eval a1 else a.eval b1,?_,?_⟩
   ·simp only[execOp,vl,hb,asBool,vF,Result.andThen]
   ·cases t
    ·exact G.ok _ _ g.2
    ·exact G.ok _ _ g.1.2
  ·cases l
 case build z qs=>cases K<;>(try (cases g;done));simp only[w9]at g;exact C _ (V3 G g l) rfl
 case load ag sz y=>cases K<;>(try (cases g;done));simp only[w9,vc]at g;exact C _ (Wj8 h g.1 (G.ok _ _ g.2) l) rfl
 case dh y=>
  cases K<;>(try (cases g;done));simp only[w9]at g;have L:=G.ok _ _ g;simp only[Cs]at l;unfold Qau at l;split at l
  ·rename_i hy;cases l;rw[hy]at L;obtain⟨b,a3,hi⟩:=L.cZ;refine⟨_,?_,.ptr _ _ b hi⟩;simp only[execOp,a3];rfl
  ·rename_i cs off hy;cases l;rw[hy]at L;have S:=L;obtain⟨b,c8,us,a3,_,_⟩:=L.eh;rw[a3]at S;refine⟨_,?_,S⟩;simp only[execOp,a3];rfl
  ·rename_i f p q hy;cases l;rw[hy]at L;have S:=L;generalize hg:a.eval _=vv at L S;cases L with
   |fn _ c9 bs _ _ _ _ _ _=>refine⟨_,?_,S⟩;simp only[execOp,hg];rfl
  ·cases l
 case bin op' k x' y'=>cases K<;>(try (cases g;done));simp only[w9,vc,A9f]at g;obtain⟨⟨⟨rfl,E⟩,N⟩,h4⟩:=g;exact C _ (Wqb E (G.ok _ _ N) (G.ok _ _ h4) l) rfl
 case un op' y=>cases K<;>(try (cases g;done));simp only[w9,vc,A9f]at g;obtain⟨rfl,E⟩:=g;exact C _ (Wu2 (G.ok _ _ E) l) rfl
 case conv k y=>
  cases K<;>(try (cases g;done));simp only[w9,vc]at g;obtain⟨B,E⟩:=g;have L:=G.ok _ _ B;simp only[Cs]at l;split at E<;>(try (cases E;done))
  ·rename_i hs hd;have b8:=pM E;subst b8;exact C _ (Wd9 hs hd L l) rfl
  ·rename_i hs hd;exact C _ (Wkc hs hd L l) rfl
  ·rename_i hs hd;exact C _ (Wcl hs hd L l) rfl
  ·exact absurd rfl (b7 y)
  ·rename_i hs hd;exact C _ (UE h hs (Jb E) hd L l) rfl
  ·rename_i hs hd;exact C _ (UE h hs (Jb E) hd L (Wkd l)) rfl
 case ga y lo' hi'=>
  cases K<;>(try (cases g;done));rename_i t d lo hi mx;simp only[w9,vc,A9f]at g;obtain⟨⟨⟨⟨B,E⟩,N⟩,h4⟩,h5⟩:=g;cases mx with
  |some _=>cases E
  |none=>exact C _ (Wkb (GZ B) (G.ok _ _ N) (yz G h4) (yz G h5) l) rfl
 case cut sz y lo' hi' mx'=>
  cases K<;>(try (cases g;done));rename_i t d lo hi mx;simp only[w9,vc]at g;obtain⟨⟨⟨⟨⟨B,E⟩,N⟩,h4⟩,h5⟩,h6⟩:=g;split at B
  ·rename_i e R;refine C _ (Wp6 R (pM B) (G.ok _ _ E) (yz G N) (yz G h4) (yz G h5) (λhm => ?_) l) rfl;cases mx'<;>cases hi'<;>simp_all
  ·cases B
 case gb n sz ag y lo' hi'=>
  cases K<;>(try (cases g;done));rename_i t d lo hi mx;simp only[w9,vc]at g;obtain⟨⟨⟨⟨B,E⟩,N⟩,h4⟩,h5⟩:=g;split at B
  ·rename_i m e R;simp only[vc,w4]at B;obtain⟨rfl,B⟩:=B;cases mx with
   |some _=>cases E
   |none=>exact C _ (Wkf h R (pM B) (G.ok _ _ N) (yz G h4) (yz G h5) l) rfl
  ·cases B
 case cu off y=>
  cases K<;>(try (cases g;done));simp only[w9,vc]at g;obtain⟨B,E⟩:=g;split at B
  ·rename_i t ht;split at B
   ·rename_i sz b9;exact C _ (U3 ht b9 (pM B) (G.ok _ _ E) l) rfl
   ·cases B
  ·cases B
 case field ag off sz y=>
  cases K<;>(try (cases g;done));simp only[w9,vc]at g;obtain⟨B,E⟩:=g;split at B
  ·rename_i t ht;exact C _ (Wd2 ht B (G.ok _ _ E) l) rfl
  ·cases B
 case bT sz y A=>
  cases K<;>(try (cases g;done));simp only[w9,vc]at g;obtain⟨⟨B,E⟩,N⟩:=g;split at B
  ·rename_i e R;exact C _ (Wd4 h R (pM B) (G.ok _ _ E) (G.ok _ _ N) l) rfl
  ·cases B
 case fQ n sz y A=>
  cases K<;>(try (cases g;done));simp only[w9,vc]at g;obtain⟨⟨B,E⟩,N⟩:=g;split at B
  ·rename_i m e R;simp only[vc,w4]at B;obtain⟨rfl,B⟩:=B;exact C _ (Wcj R (pM B) (G.ok _ _ E) (G.ok _ _ N) l) rfl
  ·cases B
 case idx y A=>cases K<;>(try (cases g;done));simp only[w9,vc,A9f]at g;obtain⟨⟨B,E⟩,N⟩:=g;exact C _ (Wp5 (GZ B) (G.ok _ _ E) (G.ok _ _ N) l) rfl
 case kL n ag sz y A=>
  cases K<;>(try (cases g;done));simp only[w9,vc]at g;obtain⟨⟨B,E⟩,N⟩:=g;split at B
  ·rename_i m e R;simp only[vc,w4]at B;obtain⟨rfl,B⟩:=B;exact C _ (Wj9 R B (G.ok _ _ E) (G.ok _ _ N) l) rfl
  ·cases B
 case gD y A=>cases K<;>(try (cases g;done));simp only[w9,vc,w4]at g;obtain⟨rfl,E⟩:=g;exact C _ (Wka (G.ok _ _ E) l) rfl
 case kg t' y=>
  cases K<;>(try (cases g;done));simp only[w9,vc,w4]at g;obtain⟨⟨rfl,E⟩,N⟩:=g;simp only[Cs]at l;cases l;split at N
  ·rename_i x hd;refine C _ ⟨_,?_,.bE _ _ _ (G.ok _ _ E)⟩ rfl;unfold Instr.makeInterface;simp only[vl,run_underlying hd,Result.andThen];cases x<;>first|rfl|cases N
  ·cases N
 case iZ f' a' b'=>
  cases K<;>(try (cases g;done));rename_i fn fi ca;cases fn<;>(try (cases g;done));simp only[w9,vc,w4]at g;obtain⟨⟨rfl,E⟩,N⟩:=g;simp only[Cs]at l;cases l;have r1:=G.args E;have r2:=G.args N;refine C _ ⟨_,rfl,?_⟩ rfl;refine .fn _ _ _ _ _ (by have:=r1.1;simpa using this) (by have:=r2.1;simpa using this) (λi v c L a5=>r1.2 i v c ?_ a5) (λi v c L a5=>r2.2 i v c ?_ a5)
  ·simpa using L
  ·simpa using L
 case fc y=>
  cases K<;>(try (cases g;done));rename_i c;obtain⟨H,Q,F⟩:=c;cases H<;>(try (cases g;done));rename_i b;cases b<;>(try (cases g;done));simp only[w9,vc]at g;obtain⟨B,E⟩:=g;obtain⟨p,hp,a0⟩:=Qhn B;split at E
  ·rename_i t a6;have a7:F=#[t]:=by apply AU;simpa using a6
   have a2:Q=#[p]:=by apply AU;simpa using hp
   subst a7 a2;exact C _ (Wke (ty:=O) (GZ E) (G.ok _ _ a0) l) (by rw[Qzb];simp)
  ·cases E
 case len y=>
  cases K<;>(try (cases g;done));rename_i c;obtain⟨H,Q,F⟩:=c;cases H<;>(try (cases g;done));rename_i b;cases b<;>(try (cases g;done));simp only[w9,vc]at g;obtain⟨B,E⟩:=g;obtain⟨p,hp,a0⟩:=Qhn B;split at E
  ·rename_i t a6;have a7:F=#[t]:=by apply AU;simpa using a6
   have a2:Q=#[p]:=by apply AU;simpa using hp
   subst a7 a2;split at E
   ·rename_i e R;exact C _ (Wqc (ty:=O) R (G.ok _ _ a0) l) (by rw[Qzb];simp)
   ·cases E
  ·cases E
 case mm mx ys=>
  cases K<;>(try (cases g;done));rename_i c;obtain⟨H,Q,F⟩:=c;cases H<;>(try (cases g;done));rename_i b;simp only[w9,vc]at g;obtain⟨B,E⟩:=g;have hr:=G.args E;simp only[Cs]at l;split at l
  ·rename_i x0 r c0;split at l
   ·rename_i b5;rw[c0]at hr;cases a8:Q.toList with
    |nil=>rw[a8]at hr;have:=hr.1;simp at this
    |cons p ps=>
     rw[a8]at hr;have a2:Q=(p::ps).toArray:=by apply AU;simpa using a8
     subst a2;obtain⟨u,a4,R⟩:=Woc (mx:=mx) hr.head b5 hr.tail l;cases mx<;>cases b<;>(try (cases B;done))
     ·refine C (Builtin.min_ F O ((p::ps).toArray.map a.eval)) ⟨u,?_,R⟩ rfl;simpa[Builtin.min_]using a4
     ·refine C (Builtin.max_ F O ((p::ps).toArray.map a.eval)) ⟨u,?_,R⟩ rfl;simpa[Builtin.max_]using a4
   ·cases l
  ·cases l
 case eQ k y=>
  cases K<;>(try (cases g;done));rename_i fn fi ca;cases fn<;>(try (cases g;done));simp only[w9,vc,w4]at g;obtain⟨⟨rfl,E⟩,N⟩:=g;obtain⟨p,hp,a0⟩:=Qhn N;have c2:fi=#[p]:=by apply AU;simpa using hp
  have c3:ca=#[]:=by apply AU;simpa using E
  subst c2 c3;simp only[Cs]at l;split at l
  ·rename_i t y0 hy;cases l;have L:=G.ok _ _ a0;rw[hy]at L;exact C (Instr.makeFunc (.method (Qls k)) (#[p].map a.eval) (#[].map a.eval)) ⟨.func (.method (Qls k)) #[a.eval p] #[],by simp[Instr.makeFunc,vF],.eQ _ _ _ L⟩ rfl
  ·cases l
 case cg k ts y=>
  cases K<;>(try (cases g;done));simp only[w9,vc,AI]at g;obtain⟨B,E⟩:=g;have L:=G.ok _ _ B;simp only[Cs]at l;unfold O4 at l;split at l
  ·rename_i A t y0 hy;split at l
   ·rename_i t' ag hf;split at l
    ·rename_i a9;obtain⟨rfl,c4⟩:=a9;cases l;rw[hy]at L;generalize hg:a.eval _=vv at L;cases L with
     |eQ _ v _ S=>
      cases S with
      |bE _ v0 _ b6=>
       have ht:t'=t:=by simpa using List.find?_some hf
       subst ht;have c5:=E _ (Xb hf);have c6:=Jd (P:=P) (w:=w) c5 v0 (λha=>by
        have:=c4 ha;cases y0<;>(try (cases this;done));cases b6 with
        |agg vs _ _ _=>exact⟨vs,rfl⟩)
       refine⟨.func (.method (Qls A)) #[.iface t' v0] #[],?_,.eQ _ _ _ (.bE _ _ _ b6)⟩;simp only[execOp,hg];simp only[KQ,Gs,vl,program];simp[vl,Sem.run,Result.andThen,c6,vF]
    ·cases l
   ·cases l
  ·cases l
 case kM kk z m' k' ok'=>
  cases K<;>(try (cases g;done));rename_i t m k ok;simp only[w9,vc,w4]at g;obtain⟨⟨⟨B,rfl⟩,N⟩,h4⟩:=g;split at B
  ·rename_i kt e R;simp only[vc]at B;obtain⟨h5,h6⟩:=B;split at h6
   ·rename_i zv hz;simp only[Cs,u7,vh]at l;obtain⟨r,hr,l⟩:=l;split at l
    ·rename_i d0;refine C _ (Wkh h R h5 hz (Uv h6).1 (G.ok _ _ N) (G.ok _ _ h4) hr ?_) rfl;split at l<;>(rename_i c7;cases l;simp[c7])
    ·cases l
   ·cases h6
  ·cases B
end
def gi(I:hN)(o i:Nat):Prop:=∃a x,I[o]?=some (.cells a)/\a[i]?=some x/\x.dg=true
structure Kp (J:bk) (w:World) (I:hN) (J':bk) (w':World) (I':hN):Prop where
 len:I.length<=I'.length
 mh:∀o,o<I.length->J' o=J o
 lk:∀o b i,J o=some b->gi I' o i->gi I o i/\w'.cell? ⟨b,i,none⟩=w.cell? ⟨b,i,none⟩
def nr:Op->Bool
 | .store .. | .mapUpdate .. | .insert .. | .next .. => true
 | .call {callee:=.builtin .copy,.. } | .call {callee:=.builtin .clear,.. } | .call {callee:=.builtin .append,.. }=>true
 |_=>false
def wc(P:Program)(a:Act)(o:Oper)(M:vn)(J:bk)(X:Nat->Prop)(w:World)(I:hN)(U':uZ)(I':hN):Prop:=
 ∃c v b e d f,(execOp a.eval o).run P w=.ok c b/\(c=.value v\/(c=.skip/\v=undef))/\(Ext X M J w e d b/\Kp J w I d b I'/\(nr o.op=false->HK J w b))/\St e d X f b (fR a.tmps.toList o.dst v) U' I'
variable{e4:FuncId->uZ->hN->R6}
section
variable{P:Program}{M:vn}{J:bk}{X:Nat->Prop}{D:cY}{w:World}{U:uZ}{I:hN}{G:GV}{a:Act}
def Kp.same(J:bk)(I:hN){w:World}(h:HK J w r):Kp J w I J r I:=
 ⟨vE _,λ_ _=>rfl,λo b i a c=>⟨c,by unfold World.cell?; rw[h o b a]⟩⟩
def Kp.refl(J:bk)(w:World)(I:hN):Kp J w I J w I:=Kp.same J I (HK.refl J w)
def Kp.trans{J a:bk}{w w' c:World}{I I' d:hN}(h:Kp J w I C w' I')(j:di J C)(k:Kp C w' I' a c d):Kp J w I a c d:=
 ⟨zr h.len k.len,λo f=>(k.mh o (Hj f h.len)).trans (h.mh o f),λo b i g l=>by have⟨m,n⟩:=k.lk o b i (j.le _ _ g) l;have⟨p,q⟩:=h.lk o b i g m;exact⟨p,n.trans q⟩⟩
def Wd.dK(h:Wd M J X D w I){o b:Nat}(a:J o=W b):o<I.length:=by have⟨O,hO,_⟩:=h.obj o b a;exact(wy.1 hO).1
def Kp.newObj(h:Wd M J X D w I){c:bk}(f:HK J w r)(g:∀o,o≠I.length->c o=J o)(O:O):Kp J w I c r (I++[O]):=
 ⟨u0,λo m=>g o Y,λo b i d j=>by have a:=h.dK d;obtain⟨k,x,e,l⟩:=j;rw[AH a]at e;exact⟨⟨k,x,e,l⟩,by unfold World.cell?; rw[f o b d]⟩⟩
def Kp.set(h:Wd M J X D w I){o b:Nat}{cs d:uZ}{w':World}(j:J o=W b)(f:I[o]?=W (.cells cs))(r:∀c,c≠b->w'.heap[c]?=w.heap[c]?)(s:∀(i:Nat) x,d[i]?=W x->x.dg->cs[i]?=W x/\w'.cell? ⟨b,i,none⟩=w.cell? ⟨b,i,none⟩):Kp J w I J w' (I.set o (.cells d)):=by
 refine⟨u0,λ_ _=>rfl,λn p i a k => ?_⟩;obtain⟨t,x,g,q,l⟩:=k;by_cases m:o=n
 ·subst m;rw[j]at a;cases a;rw[Aa (h.dK j)]at g;cases g;have⟨e,u⟩:=s i x q l;exact⟨⟨cs,x,f,e,l⟩,u⟩
 ·rw[CQ m]at g;have u:p≠b:=λe=>m (h.inj o n b j (e▸a) (by rw[f];simp) (by rw[g];simp));exact⟨⟨t,x,g,q,l⟩,by unfold World.cell?; rw[r p u]⟩
def Qwo(x:V):x.ng.dg=T:=by cases x<;>rfl
def Uw(b:(execOp a.eval j).run P w=.ok (.value f) w)(c:Kp J w I J w A)(h:St M J X D w (fR a.tmps.toList j.dst f) e A):wc P a j M J X w I e A:=
 ⟨_,f,w,M,J,D,b,.inl rfl,⟨Ext.refl ..,c,λ_=>HK.refl _ _⟩,h⟩
def v7{v:Value}(b:(execOp a.eval j).run P w=.ok (.value v) w)(h:St M J X D w (fR a.tmps.toList j.dst v) e I):wc P a j M J X w I e I:=
 Uw b (Kp.refl ..) h
def Qoc(h:g_ o true):∃n,o=.t n:=by cases o<;>first|exact⟨_,rfl⟩|cases h
def Qky{x:Operand}(h:Qar x (.t c)):x=.tmp c:=by cases x<;>simp[Qar]at h;rw[h]
def Jz:a.eval (.tmp i9)=a.tmps.toList.getD i9 undef:=by simp[Act.eval,OR,List.getD]
def Qii(y:Arg):bM k3 y T=k3:=by cases y<;>rfl
def Weg{v:Value}{x:V}(d:aB M J v x)(h:aJ v x=none):∀u,aJ u x=none:=by
 intro u;cases d with
 |sl g c b e f i j _ _ _ _ _ _=>
  cases c with
  |gr s=>cases h
  |no=>unfold aJ;split<;>simp_all
  |fx=>unfold aJ;split<;>simp_all
  |lk=>unfold aJ;split<;>simp_all
 |jt a c b=>
  cases c with
  |gr s=>exact absurd rfl (b s)
  |no=>unfold aJ;split<;>simp_all
  |fx=>unfold aJ;split<;>simp_all
  |lk=>unfold aJ;split<;>simp_all
 |_=>unfold aJ;split<;>simp_all
def Weh(h:St M J X D w a.tmps.toList U I)(m:dJ G M J)(ho:j.op=.move n\/j.op=.assign n)(i:Qar n o)(p:g_ o k):
  wc P a j M J X w I (put (bM U o k) j.dst (if k then cD G U o else arg G U o)) I:=by
 have b:(execOp a.eval j).run P w=.ok (.value (a.eval n)) w:=by unfold execOp;rcases ho with ho|ho<;>rw[ho]<;>rfl
 cases k with
 |false=>rw[Qii];exact v7 b (h.be ((Qi8 h.bC m i).ng) (w7 _ _) _)
 |true=>
  obtain⟨x,rfl⟩:=Qoc p;have q:=Qky i;subst q;simp only[A9c];show wc P a j M J X w I (put (U.set x (U.getD x .undef).ng) j.dst (U.getD x .undef)) I;by_cases c:x<U.length
  ·have g:x<a.tmps.toList.length:=by rw[h.bC.1];exact c
   have f:a.tmps.toList[x]?=W (a.tmps.toList[x]):=vO g;have e:U[x]?=W U[x]:=vO c;have y:U.getD x .undef=U[x]:=by simp[List.getD,e]
   have r:a.eval (.tmp x)=a.tmps.toList[x]:=by rw[Jz];simp only[List.getD,f,Cr]
   rw[y];rw[r]at b;cases l:j.dst with
   |none=>have:=h.dy x;rw[y]at this;refine v7 (D:=D) b ?_;rw[l];exact this
   |some d=>have⟨s,t,_⟩:=h.ju (d:=d) f e;refine⟨_,_,w,M,J,s,b,.inl rfl,⟨Ext.refl ..,Kp.refl ..,λ_=>HK.refl _ _⟩,?_⟩;rw[l];exact t
  ·have d:U.getD x .undef=.undef:=by simp[List.getD,B0 (AT.1 c)]
   have e:a.eval (.tmp x)=undef:=by
    rw[Jz];have:¬x<a.tmps.toList.length:=by rw[h.bC.1];exact c
    simp[List.getD,B0 (AT.1 this)]
   rw[d,Xc (AT.1 c)];rw[e]at b;exact v7 b (h.be .undef rfl _)
def Qzd{e:TypeId}{a:Value}(h:Pe P e=W a):(zeroValue e).run P w=.ok a w:=by unfold Pe at h;rw[vh]at h;obtain⟨i,b,c⟩:=h;unfold zeroValue;simp only[vl,Gy b,Result.andThen,c];rfl
def Qjd{e:TypeId}{v:Value}:(newVar e v).run P w=.ok ⟨w.heap.size,0,none⟩ (Ag w (.cells v.cells e)):=rfl
def Th(h:St M J X D w a.tmps.toList U I){o:Oper}{e:TypeId}{v:Value}{cs:uZ}(j:aq M J v.cells.toList cs)(l:∀c∈cs,c.one)(b:(execOp a.eval o).run P w=.ok (.value (.pointer (W ⟨w.heap.size,0,none⟩))) (Ag w (.cells v.cells e))):wc P a o M J X w I (put U o.dst (.ptr I.length 0)) (I++[.cells (cs.map V.ng)]):=by
 have m:cs.length=v.cells.size:=by have:=j.1;simpa using this.symm
 obtain⟨n,p,q,r,s,d,-⟩:=h.newObj (h.wd.h' (vE _)) v.cells e (0,0) (cs.map V.ng) (by rw[wq,m,<-DR,Hl];exact j.ng)
  (λi _=>by unfold Qbg;simp) (λc f=>by
   obtain⟨k,g,rfl⟩:=wa.1 f;rw[V.dx];exact l k g) (λc f u=>by
   obtain⟨k,_,rfl⟩:=wa.1 f;exact w7 _ _)
 exact⟨_,_,_,n,p,D,b,.inl rfl,⟨q,Kp.newObj h.wd (h.wd.bR _) d _,λ_=>h.wd.bR _⟩,s.be (.ptr _ 0 _ r) rfl _⟩
def Wcs(h:St M J X D w a.tmps.toList U I)(hG:dJ G M J){o:Oper}{t:TypeId}{x:Operand}{p':Arg}{v:V}(ho:o.op=.store t n x)(hz:cP P t=W c)(hp:Qar n p')(hx:Qar x B)(ht:g_ B k)(s:Qa4 e4 (arg G U) (cD G U) I (.store c p' B k)=W (v,A)):
  wc P a o M J X w I (put (bM U B k) o.dst v) A:=by
 have hA:=fN.bl h.bC hG;have a5:=hA.ok _ _ hp;have a6:=hA.ok _ _ hx;simp only[Qa4]at s;split at s
 ·rename_i E f b3;simp only[u7,vh]at s;obtain⟨sz,K,s⟩:=s;split at s
  ·rename_i a0;obtain⟨l,a7,b4⟩:=a0;rw[b3]at a5;have⟨b,b5,L⟩:=a5.cZ;have g:=zW b4;have C:=a6.cells g;have a4:I[E]?=W (.cells sz):=by
    unfold hN.get at K;split at K
    ·cases K;assumption
    ·cases K
   have⟨O,hO,b6⟩:=h.wd.obj E b L;rw[a4]at hO;cases hO;obtain⟨ws,T9,fz,hb,b7,b8,hM,b9⟩:=b6;have c7:sz.length<=ws.size:=by have:=b7.1;simp at this;omega
   have a8:(a.eval x).cells.toList.length=c:=by rw[C.1];exact l
   have a9:∀(e:uZ) (I':vB),e.length=I'.length->f+e.length<=sz.length->(∀d∈e,d.dg=T)->Kp J w I J (setRow w b (bA ws f I') T9 fz) (I.set E (.cells (RK sz f e))):=by
    intro e I' H z tk;refine Kp.set h.wd L a4 (λy m=>by rw[setRow_heap,O3 (Ne.symm m)]) (λi B u q => ?_);rw[Ph sz f e i z]at u;split at u
    ·have:=tk B (Ah u);rw[this]at q;cases q
    ·rename_i F;refine⟨u,?_⟩;have a1:=h.wd.dv E b L;rw[Hr hb,Hr (w:=setRow w b (bA ws f I') T9 fz) (ws:=bA ws f I') (T9:=T9) (fz:=fz) (by rw[setRow_heap,A9a rfl,A9a a1]),BH I' ws f i Y,O3 Y]
   have r:(execOp a.eval o).run P w=.ok .skip (setRow w b (bA ws f (a.eval x).cells.toList) T9 fz):=by
    have e:=yV (P:=P) b f T9 fz (a.eval x).cells.toList w ws 0 hb Y (λj h1 I'=>b8 j Y) (W3 C g);have:(Instr.storeAt t (a.eval n) (a.eval x)).run P w=.ok () (setRow w b (bA ws f (a.eval x).cells.toList) T9 fz):=by unfold Instr.storeAt Instr.sureAddr storeVar;rw[b5];simp only[vl,vF,Qb4 hz,Result.andThen];rw[O3 (by rw[DR]at a8;omega)];simpa using e
    unfold execOp;rw[ho];simp only[vl,this,Result.andThen];rfl
   split at s
   ·
    cases s;have e:=h.setObj L a4 hb (C.ng) (by rw[wq,l];exact a7) (λy m=>by
     obtain⟨tk,q,rfl⟩:=wa.1 m;rw[V.dx];exact g tk q) (λy m u=>by
     obtain⟨tk,_,rfl⟩:=wa.1 m;exact w7 _ _)
    have I':∃z,St M J X z (setRow w b (bA ws f (a.eval x).cells.toList) T9 fz) a.tmps.toList (bM U B k) (I.set E (.cells (RK sz f ((arg G U B).cells.map V.ng)))):=by
     unfold bM;split
     ·exact⟨D,e.1.dy _⟩
     ·exact⟨D,e.1⟩
    obtain⟨z,I'⟩:=I';exact⟨_,undef,_,M,J,z,r,.inr ⟨rfl,rfl⟩,⟨e.2,a9 _ _ (by rw[wq];exact C.1.symm) (by rw[wq,l];exact a7) (λd u=>by obtain⟨tk,_,rfl⟩:=wa.1 u;exact Qwo tk),λq=>by rw[ho]at q;cases q⟩,I'.be .undef rfl _⟩
   ·
    rename_i c0;have z:(if k=true then cD G U B else arg G U B).dg=T:=by
     cases hq:(if k=true then cD G U B else arg G U B).dg
     ·rfl
     ·rw[hq,A9a rfl]at s;cases s
    rw[z,O3 Bool.false_ne_true]at s;cases s;have a2:(arg G U B).cells=[arg G U B]:=by cases e:arg G U B<;>first|rfl|exact absurd e (c0 _)
    rw[a2]at C g l;have c1:c=1:=l.symm;subst c1;have h1:(arg G U B).one:=g _ u0;have a3:(a.eval x).cells.toList=[a.eval x]:=by have e:=a6.one h1;cases I':a.eval x<;>first|rfl|(rw[I']at e;cases e)
    have R:f<sz.length:=by omega
    have F:∀q:V,RK sz f [q]=sz.set f q:=by
     intro q;apply Hk;intro j;rw[Ph sz f [q] j yZ,AZ];by_cases e:f=j
     ·subst e;rw[A9a ⟨vE _,u0⟩,A9a rfl,A9a R];simp
     ·rw[O3 (by simp only[Gt];omega),O3 e]
    have N:∀q:V,q.dg=T->Kp J w I J (setRow w b (bA ws f (a.eval x).cells.toList) T9 fz) (I.set E (.cells (sz.set f q))):=λq hq=>by rw[<-F];exact a9 [q] _ (by rw[a8];rfl) yZ (by simpa using hq)
    have S:∀ {e:cY} {I':uZ},St M J X e w a.tmps.toList I' I->St M J X e (setRow w b (bA ws f (a.eval x).cells.toList) T9 fz) a.tmps.toList I' (I.set E (.cells (sz.set f (arg G U B))))/\Ext X M J w M J (setRow w b (bA ws f (a.eval x).cells.toList) T9 fz):=by
     intro e I' tk;have:=tk.setObj L a4 hb C yZ g (λy m u=>by simp at m;subst m;exact w7 _ _)
     rwa[F]at this
    cases k with
    |false=>rw[Qii];have⟨tk,I'⟩:=S h;exact⟨_,undef,_,M,J,D,r,.inr ⟨rfl,rfl⟩,⟨I',N _ z,λe=>by rw[ho]at e;cases e⟩,tk.be .undef rfl _⟩
    |true=>
     obtain⟨I',rfl⟩:=Qoc ht;have c3:=Qky hx;subst c3;simp only[A9c];show wc P a o M J X w I (put (U.set I' (U.getD I' .undef).ng) o.dst .undef) (I.set E (.cells (sz.set f (U.getD I' .undef))));have tk:arg G U (.t I')=(U.getD I' .undef).ng:=rfl;by_cases hn:I'<U.length
     ·have d:I'<a.tmps.toList.length:=by rw[h.bC.1];exact hn
      have hv:a.tmps.toList[I']?=W (a.tmps.toList[I']):=vO d;have H:U[I']?=W U[I']:=vO hn;have e1:U.getD I' .undef=U[I']:=by simp[List.getD,H]
      have e2:a.eval (.tmp I')=a.tmps.toList[I']:=by rw[Jz];simp only[List.getD,hv,Cr]
      rw[e1]at tk ⊢;cases Q:aJ (a.tmps.toList[I']) U[I']with
      |none=>
       have d:=h.dy I';rw[e1]at d;have e:=d.setObj L a4 hb (aq.cons (h.bC.2 I' _ _ hv H) aq.nil) yZ (λy m=>by
        simp at m;subst m;rw[<-V.dx,<-tk];exact h1) (λy m u=>by
        simp at m;subst m;exact Weg (h.bC.2 I' _ _ hv H) Q u)
       rw[F]at e;rw[a3,e2]at r;rw[a3,e2]at N;exact⟨_,undef,_,M,J,D,r,.inr ⟨rfl,rfl⟩,⟨e.2,N _ (by rw[<-e1];exact z),λb0=>by rw[ho]at b0;cases b0⟩,e.1.be .undef rfl _⟩
      |some g=>
       have⟨j,d,hf,hg⟩:=h.gh hv H Q;have⟨c4,c2⟩:=S d;have c5:E<I.length:=(wy.1 a4).1;have a1:=h.wd.dv E b L;have c6:b≠g:=λe=>by subst e;exact hf.i E L
       have⟨D2,b1⟩:=c4.kQ (o:=E) (i:=f) L (by rw[setRow_heap,A9a rfl,A9a a1]) (Aa c5) (v:=a.tmps.toList[I']) (x:=U[I'])
        (by rw[BH _ _ _ _ Y,a3,A9a ⟨vE _,u0⟩,EU,e2];rfl) (by simpa using R) (h.bC.2 I' _ _ hv H) (by rw[<-V.dx,<-tk];exact h1) Q
        ⟨hf.k,hf.x,hf.i,by rw[setRow_size];exact hf.lt⟩ (hg.setRow (λy m=>by rw[Q]at m;cases m;exact c6))
       rw[OZ,OZ]at b1;exact⟨_,undef,_,M,J,D2,r,.inr ⟨rfl,rfl⟩,⟨c2,N _ (by rw[<-e1];exact z),λb0=>by rw[ho]at b0;cases b0⟩,b1.be .undef rfl _⟩
     ·
      exfalso;have e:U.getD I' .undef=.undef:=by simp[List.getD,B0 (AT.1 hn)]
      rw[tk,e]at h1;cases h1
  ·cases s
 ·cases s
end
section
variable{P:Program}{M:vn}{J:bk}{X:Nat->Prop}{D:cY}{w:World}{U:uZ}{I:hN}{G:GV}{a:Act}
def xz(h:hN.get I c=W e):I[c]?=W (.cells e):=by
 unfold hN.get at h;split at h
 ·cases h;assumption
 ·cases h
def Qlv(h:∀xs s,d=.sl xs (.gr s)->False):aJ f d=none:=by
 unfold aJ;split
 ·exact absurd rfl (λe=>h _ _ e)
 ·rfl
def Wct(h:St M J X D w a.tmps.toList U I)(hG:dJ G M J){t:TypeId}{v:V}(ho:j.op=.load t n)(N:pJ P t T 1)(hx:Qar n o)(d:(match arg G U o with
   | .ptr j off=>(hN.get I j).bind λcs=>(cs[off]?).bind λv=>
    match v with
    | .sl xs (.gr s)=>W (.sl xs (.gr s),I.set j (.cells (cs.set off (.sl xs .no))))
    | .sl _ .lk=>none
    |v=>W (v,I)
   | .ai cs off=>(cs[off]?).bind λv=>W (v.ng,I)
   |_=>none)=W (v,A)):wc P a j M J X w I (put U j.dst v) A:=by
 have hA:=fN.bl h.bC hG;have r:=hA.ok _ _ hx;have y:d' P t=some T:=by simp only[pJ,vc,w4]at N;exact N.1.1
 have x:∀b off u,a.eval n=.pointer (W ⟨b,off,none⟩)->w.cell? ⟨b,off,none⟩=W u->(execOp a.eval j).run P w=.ok (.value u) w:=by intro b off u c g;unfold execOp;rw[ho];simp only[Instr.loadAt,Instr.sureAddr,c,loadVar,vl,vF,DW y,Result.andThen,vD,A9d,Qm9 g]
 split at d
 ·rename_i Q off B;rw[B]at r;have⟨b,C,E⟩:=r.cZ;simp only[vh]at d;obtain⟨cs,F,c,g,d⟩:=d;have e:=xz F;have⟨O,hO,H⟩:=h.wd.obj Q b E;rw[e]at hO;cases hO;obtain⟨ws,T9,fz,R,K,a0,hM,I'⟩:=H;have⟨u,z,k⟩:=K.get g;have p:ws[off]?=some u:=by
   rw[xP]at z;split at z
   ·simpa using z
   ·cases z
  have f:=x b off u C (by rw[Hr R];exact p);have L:=I' _ (Ah g);split at d
  case h_2=>cases d
  case h_3 hng _=>simp only[vU,A9g]at d;obtain⟨rfl,rfl⟩:=d;exact v7 f (h.be k (Qlv hng) _)
  rename_i xs s;simp only[vU,A9g]at d;obtain⟨rfl,rfl⟩:=d;have S:Kp J w I J w (I.set Q (.cells (cs.set off (V.sl xs (.gr s)).ng))):=Kp.set h.wd E e (λ_ _=>rfl) (λi o m q=>by
   rw[AZ]at m;split at m
   ·split at m
    ·cases m;rw[Qwo]at q;cases q
    ·cases m
   ·exact⟨m,rfl⟩)
  cases l:aJ u (V.sl xs (.gr s))with
  |none=>have m:=h.ib e g (by rw[V.dx];exact L);exact Uw f S (m.be k l _)
  |some bb=>have⟨D',hs,hf,hg⟩:=h.jw E R e p g l;have⟨D2,q⟩:=hs.jW k (λb' m=>by rw[l]at m;cases m;exact⟨hf,hg⟩) j.dst;exact Uw f S q
 ·rename_i cs off e;rw[e]at r;have⟨b,I',p,f,l,m⟩:=r.eh;simp only[vh]at d;obtain⟨c,g,d⟩:=d;cases d;have⟨u,k,i⟩:=l.get g;exact v7 (x b _ u f (h.wd.cells m off u k)) (h.be i.ng (w7 _ _) _)
 ·cases d
def Wkj(h:St M J X D w a.tmps.toList U I)(hG:dJ G M J){str:Bool}{bytes:Nat}{t:TypeId}(ho:j.op=.call {callee:=.builtin .append,args := #[n,v],argTypes := #[t,g]})(hp:Qar n o)(hq:Qar v B)(ht:g_ o i0)(C:DK P str k c bytes t g)(E:Nv str I (arg G U B)=some e)(i:RE k c bytes (if i0 then cD G U o else arg G U o) e=some d):wc P a j M J X w I (put (bM U o i0) j.dst d) I:=by
 have hA:=fN.bl h.bC hG;have q:=Qi8 h.bC hG hp;have Q:=hA.ok _ _ hq;have F:∀ {u:Value} {l:World},(Builtin.append_ #[t,g] j.type #[a.eval n,a.eval v]).run P w=.ok u l->(execOp a.eval j).run P w=.ok (.value u) l:=by intro u l b;obtain⟨a5,op,a4,a6,a0,guard⟩:=j;simp only at ho b;subst ho;rw[Qob,vl];simp only[Uj,xc,Xbx,b,Result.andThen];rfl
 have f:∀ {u:Value} {l:World} {H:vn} {D':cY} {U':uZ},(Builtin.append_ #[t,g] j.type #[a.eval n,a.eval v]).run P w=.ok u l->Ext X M J w H J l->HK J w l->St H J X D' l (fR a.tmps.toList j.dst u) U' I->wc P a j M J X w I U' I:=
  λh1 h2 r h3=>⟨_,_,_,_,_,_,F h1,.inl rfl,⟨h2,Kp.same _ _ r,λ_=>r⟩,h3⟩
 cases i0 with
 |false=>
  rw[Qii];simp only[vD,A9d]at i;have z:aB M J (a.eval n) (arg G U o):=q.ng;by_cases sz:e=[]
  ·subst sz;obtain⟨b,rfl⟩:=Qza h.wd (ty:=j.type) C z Q E i;exact f b (Ext.refl ..) (HK.refl _ _) (h.be z (w7 _ _) _)
  ·obtain⟨u,l,H,D',b,K,r,m⟩:=Wec h (ty:=j.type) C z Q E sz (λR s y=>by have:=V.ck (cD G U o);rw[show(cD G U o).ng=arg G U o from rfl,y]at this;cases this) i j.dst
   exact f b K r m
 |true=>
  obtain⟨p,rfl⟩:=Qoc ht;have a1:=Qky hp;subst a1;simp only[A9c]at i;show wc P a j M J X w I (put (U.set p (U.getD p .undef).ng) j.dst d) I;have hT:cD G U (.t p)=U.getD p .undef:=rfl;rw[hT]at i q;by_cases hn:p<U.length
  ·have a2:p<a.tmps.toList.length:=by rw[h.bC.1];exact hn
   have hv:a.tmps.toList[p]?=some (a.tmps.toList[p]):=vO a2;have A:U[p]?=some U[p]:=vO hn;have S:U.getD p .undef=U[p]:=by simp[List.getD,A]
   have e2:a.eval (.tmp p)=a.tmps.toList[p]:=by rw[Jz];simp only[List.getD,hv,Cr]
   rw[S]at i q ⊢;have tx:=h.dy p;rw[S]at tx;by_cases sz:e=[]
   ·subst sz;obtain⟨b,rfl⟩:=Qza h.wd C q Q E i;cases hd:j.dst with
    |none=>refine f b (Ext.refl ..) (HK.refl _ _) ?_ (D':=D);rw[hd];exact tx
    |some ag=>obtain⟨D',a3,_⟩:=h.ju hv A;refine f b (Ext.refl ..) (HK.refl _ _) ?_ (D':=D');rw[hd,e2];exact a3
   ·by_cases L:∃R s,U[p]=.sl R (.gr s)
    ·obtain⟨R,s,N⟩:=L;have O:U[p]?=some (.sl R (.gr s)):=by rw[A,N]
     rw[N]at i ⊢;obtain⟨u,l,H,D',b,K,r,m⟩:=Wu3 h C hv O Q E sz i j.dst;rw[<-e2]at b;exact f b K r m
    ·obtain⟨u,l,H,D',b,K,r,m⟩:=Wec tx C q Q E sz (λR s y=>L ⟨R,s,y⟩) i j.dst;exact f b K r m
  ·exfalso;have S:U.getD p .undef=.undef:=by simp[List.getD,B0 (AT.1 hn)]
   rw[S]at i;rcases Qn5 i with h|⟨_,_,h⟩<;>cases h
def Qqi(e:TypeId)(s:ByteArray):Lib.bytesWorld w e s=Ag {w with drawn:=w.drawn+1} (.cells (Lib.bytesCells w e s) e ((Lib.bytesCells w e s).size,(Lib.bytesCells w e s).size+1)):=by
 have h:(Lib.bytesWorld w e s).heap=(Ag {w with drawn:=w.drawn+1} (.cells (Lib.bytesCells w e s) e ((Lib.bytesCells w e s).size,(Lib.bytesCells w e s).size+1))).heap:=by
  apply Array.ext_getElem?;intro j;rw[Qlt];rcases Nat.lt_trichotomy j w.heap.size with a|a|a
  ·rw[Lib.bytesWorld_at_old w e s j a,O3 (by show ¬j=w.heap.size;omega)]
  ·subst a;rw[Lib.bytesWorld_at_new,A9a rfl]
  ·rw[O3 (by show ¬j=w.heap.size;omega),T7 (by rw[Lib.bytesWorld_size];omega),T7 (by show w.heap.size<=j;omega)]
 unfold Lib.bytesWorld World.freeze World.alloc World.drew Ag at h ⊢;simp only[Nat.one_ne_zero,A9d]at h ⊢;rw[h]
def Qij(s:ByteArray):aq M J ((Lib.bytesCells w e9 s).toList.take (u4 s.data.toList).length) (u4 s.data.toList):=by
 have g:(Lib.bytesCells w e9 s).toList.take (u4 s.data.toList).length=s.data.toList.map λb=>Value.int .u8 b.toNat:=by unfold Lib.bytesCells u4;simp
 rw[g];refine⟨by simp[u4],λi u y d a => ?_⟩;unfold u4 at a;rw[ym,xB]at d a;obtain⟨b,h,rfl⟩:=d;obtain⟨c,f,rfl⟩:=a;rw[h]at f;cases f;exact .int _ _
def UA{s:u2}(h:d∈u4 s):∃n:Nat,d=.int .u8 n:=by unfold u4 at h;obtain⟨b,_,rfl⟩:=wa.1 h;exact⟨_,rfl⟩
def W9(h:St M J X D w a.tmps.toList U I)(t:dJ G M J){s:TypeId}(u:j.op=.convert s g n)(z:P.underlying s=W .string)(A:P.underlying g=W (.slice p))(B:P.underlying p=W (.int .u8))(C:Qar n o)(k:eC I .bz (arg G U o)=W d):wc P a j M J X w I (put U j.dst d) I:=by
 have E:=fN.bl h.bC t;have f:=E.ok _ _ C;unfold eC at k;split at k<;>first|(rename_i l _;cases l;done)|(rename_i l _ _;cases l;done)|skip
 ·rename_i Q _ F;cases k;rw[F]at f;have⟨b,m,v⟩:=f.bw;subst v;have c:=Lib.run_convert_string_bytes w s g p b z A B;rw[Qqi]at c;have y:b.size=(u4 b.data.toList).length:=by simp[u4]
  have⟨H,K,q,x⟩:=h.drew.putRow (Lib.bytesCells w p b) p ((Lib.bytesCells w p b).size,(Lib.bytesCells w p b).size+1) (u4 b.data.toList) (.gr 1) (grownCap w b.size 0 p) 1
   (by rw[UL];exact Qij p b) (λo L=>by obtain⟨e,rfl⟩:=UA L;rfl) (by rw[<-y];exact grownCap_ge ..) (λN=>by cases N)
   (λR r=>by
    cases r;have O:=grownCap_ge w b.size 0 p;refine⟨rfl,?_,λi _ S => ?_⟩
    ·unfold Lib.bytesCells;simp;omega
    ·unfold Qbg;simp;omega) j.dst
  rw[<-y]at x;refine⟨_,_,_,H,J,K,?_,.inl rfl,⟨(Ext.drew X M J w).trans q,Kp.same _ _ (h.wd.ig _ _),λ_=>h.wd.ig _ _⟩,x⟩;unfold execOp;rw[u];simp only[vl,m,c,Result.andThen];rfl
 ·cases k
end
section
variable{P:Program}{M:vn}{J:bk}{X:Nat->Prop}{D:cY}{w:World}{U:uZ}{I:hN}{G:GV}{a:Act}
def Je:(k3.map V.ng).length=k3.length:=u0
def ye(h:∀c∈e,c.one):∀c∈e.map V.ng,c.one:=λc b=>by obtain⟨d,a,rfl⟩:=wa.1 b;rw[V.dx];exact h d a
def EL:∀c∈e.map V.ng,∀u,aJ u c=none:=λc a u=>by obtain⟨b,_,rfl⟩:=wa.1 a;exact w7 _ _
def Qod(h:∀c∈e,c.ng=c):e.map V.ng=e:=by
 conv=>rhs;rw[<-List.map_id e]
 exact Fb λc a=>h c a
def Wcu(h:St M J X D w a.tmps.toList U I){o:Oper}{e:TypeId}{z:uZ}(g:o.op=.alloc e)(i:Pe P e=some f)(b:Cx f.cells.toList z):
  wc P a o M J X w I (put U o.dst (.ptr I.length 0)) (I++[.cells z]):=by
 obtain⟨j,d,_⟩:=zS (M:=M) b;have:=Th (P:=P) (a:=a) (o:=o) h (e:=e) (v:=f) j (λc b=>(d c b).1) (by unfold execOp;rw[g];simp only[Instr.alloc,vl,Qzd i,Result.andThen,Qjd,vF])
 rwa[Qod (λc b=>(d c b).2)]at this
def Wkk(h:St M J X D w a.tmps.toList U I)(d:dJ G M J){e:TypeId}(f:j.op=.box e n)(g:Qar n o)(b:yd (arg G U o).cells):
  wc P a j M J X w I (put U j.dst (.ptr I.length 0)) (I++[.cells ((arg G U o).cells.map V.ng)]):=by
 have i:=fN.bl h.bC d;have c:=i.ok _ _ g;refine Th h (e:=e) (v:=a.eval n) (c.cells (zW b)) (zW b) ?_;unfold execOp;rw[f];simp only[vl,Qjd,Result.andThen];rfl
def Wei(d:St M J X D w a.tmps.toList U I)(o:Ext X M J w M J r)(sz:r.heap=w.heap)(cs:St M J X D r a.tmps.toList U I){ars:wk}{T9:TypeId}{fz:Nat×Nat}{len:Nat}(cap:aq M J (ars.toList.take e.length) e)(l:∀i,i<ars.size->Qbg fz i=T)(f:∀ag∈e,ag.one)(m:∀ag∈e,∀v,aJ v ag=none)(n:len<=c)(g:(execOp a.eval j).run P w=.ok (.value (.slice (W ⟨r.heap.size,0,none⟩) len c)) (Ag r (.cells ars T9 fz))):
  wc P a j M J X w I (put U j.dst (.hs I.length 0 len h k)) (I++[.cells e]):=by
 obtain⟨s,t,u,x,y,p,-⟩:=cs.newObj (cs.wd.h' (vE _)) ars T9 fz e cap l f m;exact⟨_,_,_,s,t,D,g,.inl rfl,⟨o.trans u,Kp.newObj d.wd (λj b q=>by rw[cs.wd.bR _ j b q,sz]) p _,λ_ j b q=>by rw[cs.wd.bR _ j b q,sz]⟩,y.be (.hs _ 0 _ h k _ c x n) rfl _⟩
def Wqd(ag:St M J X D w a.tmps.toList U I)(d:Ext X M J w M J r)(ars:r.heap=w.heap)(o:St M J X D r a.tmps.toList U I){fz:Nat×Nat}{len:Nat}(t:aq M J (m.toList.take e.length) e)(l:∀i,i<m.size->Qbg fz i=T)(f:∀T9∈e,T9.one)(cs:∀T9∈e,∀v,aJ v T9=none)(n:len<=c)(p:c*h<=m.size)(cap:(execOp a.eval j).run P w=.ok (.value (.slice (W ⟨r.heap.size,0,none⟩) len c)) (Ag r (.cells m g fz))):
  wc P a j M J X w I (put U j.dst (.hg I.length len h k)) (I++[.cells e]):=by
 have⟨u,x,y,z,A,q,sz⟩:=o.newObj (o.wd.h' (vE _)) m g fz e t l f cs;exact⟨_,_,_,u,x,D,cap,.inl rfl,⟨d.trans y,Kp.newObj ag.wd (λj b s=>by rw[o.wd.bR _ j b s,ars]) q _,λ_ j b s=>by rw[o.wd.bR _ j b s,ars]⟩,A.be (.hg _ _ h k _ c _ z sz n p) rfl _⟩
def KG(h:St M J X D w a.tmps.toList U I)(q:dJ G M J){s:TypeId}{bs:u2}(r:j.op=.convert s g n)(t:P.underlying s=W .string)(u:P.underlying g=W (.slice p))(z:P.underlying p=W (.int .u8))(A:Qar n o)(B:arg G U o=.str bs):wc P a j M J X w I (put U j.dst (.hs I.length 0 bs.length 1 T)) (I++[.cells (u4 bs)]):=by
 have C:=fN.bl h.bC q;have y:=C.ok _ _ A;rw[B]at y;have⟨b,x,k⟩:=y.bw;subst k;have f:=Lib.run_convert_string_bytes (P:=P) w s g p b t u z;rw[Qqi]at f;have l:b.size=b.data.toList.length:=u0;have m:=grownCap_ge w b.size 0 p;have E:(Lib.bytesCells w p b).size=grownCap w b.size 0 p:=by unfold Lib.bytesCells;simp;omega
 rw[<-l];refine Wei h (Ext.drew X M J w) rfl h.drew (ars:=Lib.bytesCells w p b) (Qij p b) (λi H => ?_) (λc e => ?_) (λc e v => ?_) m ?_ (fz:=((Lib.bytesCells w p b).size,(Lib.bytesCells w p b).size+1)) (T9:=p)
 ·unfold Qbg;simp;omega
 ·obtain⟨d,rfl⟩:=UA e;rfl
 ·obtain⟨d,rfl⟩:=UA e;unfold aJ;split<;>first|rfl|(rename_i F;cases F)
 ·unfold execOp;rw[r];simp only[vl,x,f,Result.andThen];rfl
def Js(h:St M J X D w a.tmps.toList U I)(C:dJ G M J){t:TypeId}{len:Nat}(E:j.op=.buildSlice t len e3)(F:ZO P t k c=W g)(H:len=0\/IM P g d/\d.cells.length=c)(o:c≠0)(ps:len*c<=16777216)(n:zU e3.toList h9)(I':Qa4 e4 (arg G U) (cD G U) I (.aw k c len d h9 i0)=W (i,A)):wc P a j M J X w I (put U j.dst i) A:=by
 have K:=fN.bl h.bC C;simp only[Qa4,u7,vh]at I';obtain⟨qs,p,I'⟩:=I';have⟨f,l,q,m,B⟩:=Qn4 h K F H o ps n p;have b:(execOp a.eval j).run P w=.ok (.value (.slice (W ⟨w.heap.size,0,none⟩) len len)) (Ag w (.cells f g (0,0))):=by unfold execOp;rw[E];simp only[vl,l,Result.andThen];rfl
 have r:=y_ B;have sz:f.size=(qs.flatMap V.cells).length:=by have:=q.1;simpa using this
 split at I'
 ·rename_i u;cases i0 with
  |true=>simp only[A9c]at I';cases I';refine Wqd h (Ext.refl ..) rfl h ?_ (λv _=>by unfold Qbg;simp) (ye (Uq u)) EL (vE _) (by rw[sz,r,m];exact vE _) b;rw[Je,<-sz,<-DR,Hl];exact q.ng
  |false=>simp only[vD,A9d]at I';cases I';have⟨L,N,x,v⟩:=h.putRow f g (0,0) qs .fx len c (by rw[<-sz,<-DR,Hl];exact q) B (Nat.le_of_eq m) (λ_=>m.symm) (λs O=>by cases O) j.dst;rw[m]at v;exact⟨_,_,_,L,J,N,b,.inl rfl,⟨x,Kp.same _ _ (h.wd.bR _),λ_=>h.wd.bR _⟩,v⟩
 ·cases I'
def V4(h:St M J X D w a.tmps.toList U I)(C:dJ G M J){t:TypeId}{len:Nat}(E:j.op=.buildSlice t len e3)(F:ZO P t k c=W g)(H:len=0\/IM P g d/\d.cells.length=c)(z:c≠0)(b:len*c<=16777216)(n:zU e3.toList h9)(f:Qa4 e4 (arg G U) (cD G U) I (.d_ k c len d h9)=W (i,A)):wc P a j M J X w I (put U j.dst i) A:=by
 have K:=fN.bl h.bC C;simp only[Qa4,u7,vh]at f;obtain⟨y,p,f⟩:=f;have⟨o,I',ps,q,B⟩:=Qn4 h K F H z b n p;have ag:(execOp a.eval j).run P w=.ok (.value (.slice (W ⟨w.heap.size,0,none⟩) len len)) (Ag w (.cells o g (0,0))):=by unfold execOp;rw[E];simp only[vl,I',Result.andThen];rfl
 have r:=y_ B;have l:o.size=(y.flatMap V.cells).length:=by have:=ps.1;simpa using this
 split at f
 ·rename_i L;cases f;have⟨N,O,u,m⟩:=h.putRow o g (0,0) y (.gr c) len c (by rw[<-l,<-DR,Hl];exact ps) B (Nat.le_of_eq q) (λx=>by cases x) (λs x=>by cases x;refine⟨rfl,?_,λv _ _=>by unfold Qbg;simp⟩;rw[l,r,q];exact vE _) j.dst
  rw[q]at m;exact⟨_,_,_,N,J,O,ag,.inl rfl,⟨u,Kp.same _ _ (h.wd.bR _),λ_=>h.wd.bR _⟩,m⟩
 ·cases f
def St.kS(h:St M J X D w l U I){b:Nat}(T9:jv M J X D w b){fz:Nat×Nat}(B:w.heap[b]?=W (.cells m g fz))(a:Nat×Nat):
  St M J X D (setRow w b m g a) l U I/\Ext X M J w M J (setRow w b m g a)/\HK J w (setRow w b m g a):=by
 have d:∀p v x,At J (setRow w b m g a) l U I p v x->At J w l U I p v x:=by
  intro p v x f;cases p with
  |s i=>exact f
  |c o i=>
   obtain⟨y,q,r,j,s,z,A,C⟩:=f;have t:b≠y:=λe=>by subst e;exact T9.i o z
   rw[setRow_heap,O3 t]at A;exact⟨y,q,r,j,s,z,A,C⟩
 have k:∀p v x c,At J w l U I p v x->aJ v x=W c->b≠c:=λp v x c f ws e=>by subst e;have:=h.own p v x _ f ws;rw[T9.k]at this;cases this
 refine⟨⟨⟨λc i u E => ?_,λo c us => ?_,λo c us=>by rw[setRow_size];exact h.wd.dv o c us,h.wd.inj,λc ws=>by rw[setRow_size];exact h.wd.ef c ws,h.wd.cV,
  λc p q=>by rw[setRow_size];exact h.wd.dC c p q,λc n F => ?_⟩,h.bC,λp v x c f ws=>h.own p v x c (d p v x f) ws,λp v x f => ?_⟩,Ext.setRow T9.x m g a,λo c us => ?_⟩
 ·have:=h.wd.mem c i u E;by_cases q:c=b
  ·subst q;rw[Hr B]at this;rw[Hr (by rw[setRow_heap,A9a rfl,A9a T9.lt]:(setRow w c m g a).heap[c]?=W (.cells m g a))];exact this
  ·simp only[World.cell?,setRow_heap,O3 (Ne.symm q)];simpa[World.cell?]using this
 ·have⟨O,hO,q⟩:=h.wd.obj o c us;exact⟨O,hO,q.setRow λe=>T9.i o (by rw[e];exact us)⟩
 ·have⟨⟨q,t⟩,s,r,j,y,z⟩:=h.wd.gg c n F;exact⟨⟨q,t⟩,s,r,j,by rw[setRow_heap,O3 (λe=>T9.i q (by rw[e];exact t))];exact y,z⟩
 ·have q:=d p v x f;exact(h.gr p v x q).setRow λc ws=>k p v x c q ws
 ·rw[setRow_heap,O3 (λe=>T9.i o (by rw[e];exact us))]
def Nj{b:Nat}{fz:Nat×Nat}(a:r.heap[b]?=W (.cells m g fz)):
  r.freeze ⟨b,c,none⟩ 1=setRow r b m g (if fz.1==fz.2 then(c,c+1)else(min fz.1 c,max fz.2 (c+1))):=by
 unfold World.freeze setRow;rw[O3 (by decide)];have w:=(Fa.1 a).1;congr 1;apply Array.ext
 ·simp
 ·intro i e f;have n:i<r.heap.size:=by simpa using e
  rw[Array.getElem_modify,Xa];split
  ·rename_i d;subst d;have:r.heap[b]=.cells m g fz:=by rw[Qr w]at a;exact Ew a
   rw[this]
  ·rfl
def Wej(h:St M J X D w a.tmps.toList U I)(B:dJ G M J){s:TypeId}(S:j.op=.convert s s n)(hs:P.underlying s=W (.slice g))(he:P.underlying g=W (.int .u8))(y:Qar n o)(m:g_ o true)(C:Qa4 e4 (arg G U) (cD G U) I (.mark o)=W (d,A)):wc P a j M J X w I (put (bM U o true) j.dst d) A:=by
 obtain⟨I',rfl⟩:=Qoc m;have t:=Qky y;subst t;simp only[Qa4]at C;split at C
 ·rename_i f q v;cases C;have v:U.getD I' .undef=.sl f (.gr q):=v;have F:I'<U.length:=by
   rcases Hn I' U.length with E|E
   ·exact E
   ·simp[List.getD,B0 E]at v
  have r:U[I']?=W (.sl f (.gr q)):=by rw[vO F];simp[List.getD,vO F]at v;rw[v]
  have H:I'<a.tmps.toList.length:=by rw[h.bC.1];exact F
  have x:a.tmps.toList[I']?=W (a.tmps.toList[I']):=vO H;have i:=h.bC.2 I' _ _ x r;rcases i.ea with ⟨b,k,l,g,y,c,E,m,e4,s,-⟩|⟨_,_,_,K⟩
  case inr=>exact absurd rfl (K _)
  have t:aJ (a.tmps.toList[I']) (.sl f (.gr q))=some b:=by rw[c];rfl
  have⟨e4,L,m,N⟩:=h.gh x r t;obtain⟨-,-,y,g,fz,O,-,-⟩:=N.ok f q rfl _ _ _ c;have⟨u,z,e⟩:=L.kS m O (if fz.1==fz.2 then(y.size,y.size+1)else(min fz.1 y.size,max fz.2 (y.size+1)));have Q:a.eval (.tmp I')=.slice (W ⟨b,k,none⟩) f.length l:=by rw[Jz];simp only[List.getD,x,Cr];exact c
  have R:w.shape? b=W (g,y.size):=by unfold World.shape?; rw[O]
  have B:(execOp a.eval j).run P w=.ok (.value (.slice (W ⟨b,k,none⟩) f.length l)) (setRow w b y g (if fz.1==fz.2 then(y.size,y.size+1)else(min fz.1 y.size,max fz.2 (y.size+1)))):=by unfold execOp;rw[S,<-Nj O];simp only[vl,Q,convert,run_underlying hs,run_underlying he,Result.andThen,BEq.rfl];simp[markStringish,vl,shape,freeze,Sem.run,R,Result.andThen,vF]
  refine⟨_,_,_,M,J,e4,B,.inl rfl,⟨z,Kp.same _ _ e,λ_=>e⟩,?_⟩;have S:aB M J (.slice (W ⟨b,k,none⟩) f.length l) (.sl f .no):=by rw[<-c];exact i.ng
  have b:bM U (.t I') true=U.set I' (V.sl f (.gr q)).ng:=by show U.set I' (U.getD I' .undef).ng=_;rw[v]
  rw[b];exact u.be S (w7 _ (.sl f .no)) _
 ·cases C
def Qkz{n:Int}(h:aB M J f d)(a:Et d=W n):∃k,f=.int k n:=by cases d<;>simp[Et]at a;subst a;exact⟨_,h.ba⟩
def Wek(hA:fN M J a.eval e5){T9:Arg->V}{t:TypeId}{bytes:Nat}(ho:j.op=.makeSlice t n v)(ht:ZO P t k c=some g)(r:IM P g d)(E:d.cells.length=c)(s:c≠0)(a2:bytes≠0)(u:(P.info? g).map (·.bytes)=some bytes)(hl:Qar n o)(F:Qar v B)(h:Qa4 e4 e5 T9 I (.da k c bytes d o B true)=some (i,A)):
  ∃(p b:Nat) (ars:wk) (cs:uZ),i=.hs I.length 0 p c k/\A=I++[.cells cs]/\p<=b/\(execOp a.eval j).run P w=.ok (.value (.slice (some ⟨w.heap.size,0,none⟩) p b)) (Ag w (.cells ars g))/\
   aq M J ars.toList cs/\(∀y∈cs,y.one)/\∀y∈cs,y.ng=y:=by
 simp only[Qa4,u7,vh]at h;obtain⟨p,G,b,H,h⟩:=h;obtain⟨kl,K⟩:=Qkz (hA.ok _ _ hl) G;obtain⟨kc,L⟩:=Qkz (hA.ok _ _ F) H;obtain⟨hu,N⟩:=y7 ht;have O:=Ox N;split at h
 ·rename_i c';obtain⟨h0,Q,ag,-,z,a1⟩:=c';obtain⟨sz,R,hi,S,U,a3,I'⟩:=Qnb r O E s;rw[hi]at u;have C:sz.bytes=bytes:=by simpa using u
  have m:(sz.bytes:Int)*b<=281474976710656:=by rw[C,Nh];unfold Qaq at ag;omega
  have X:b<=9223372036854775807:=by have h1:b*1<=b*(bytes:Int):=OQ Y Y;unfold Qaq at ag;omega
  have l':=run_make (P:=P) w t g sz R hu hi U kl kc p b h0 Q m X;have x:(execOp a.eval j).run P w=.ok (.value (.slice (some ⟨w.heap.size,0,none⟩) p.toNat b.toNat)) (Ag w (.cells (madeCells R.cells (b.toNat*c)) g)):=by unfold execOp;rw[ho];rw[S]at l';simp only[vl,K,L,l',Result.andThen];rfl
  have D:aq M J (madeCells R.cells (b.toNat*c)).toList ((List.replicate b.toNat d).flatMap V.cells):=I';have a0:∀y∈d.cells,y.ng=y:=by
   unfold IM at r;split at r
   ·exact λy f=>((zS (M:=M) (J:=J) r).2.1 y f).2
   ·cases r
  simp only[A9c]at h;cases h;refine⟨_,b.toNat,_,_,rfl,rfl,by omega,x,D,λy f => ?_,λy f => ?_⟩
  ·obtain⟨q,hq,f⟩:=Fc.1 f;rw[Hf hq]at f;exact zW z y f
  ·obtain⟨q,hq,f⟩:=Fc.1 f;rw[Hf hq]at f;exact a0 y f
 ·cases h
def Wo(h:St M J X D w a.tmps.toList U I)(hG:dJ G M J){t:TypeId}{bytes:Nat}{l:Operand}(ho:j.op=.makeSlice t l v)(ht:ZO P t k c=W g)(N:IM P g d)(O:d.cells.length=c)(Q:c≠0)(c0:bytes≠0)(R:(P.info? g).map (·.bytes)=W bytes)(hl:Qar l o)(a5:Qar v B)(r:Qa4 e4 (arg G U) (cD G U) I (.da k c bytes d o B i0)=W (i,A)):wc P a j M J X w I (put U j.dst i) A:=by
 have hA:=fN.bl h.bC hG;simp only[Qa4,u7,vh]at r;obtain⟨x,a6,b,a7,r⟩:=r;have⟨kl,a8⟩:=Qkz (hA.ok _ _ hl) a6;have⟨kc,a9⟩:=Qkz (hA.ok _ _ a5) a7;have⟨L,b0⟩:=y7 ht;have b1:=Ox b0;split at r
 ·rename_i C;obtain⟨h0,b3,e,-,a0,b9⟩:=C;have⟨sz,z,hi,b4,b5,c1,E⟩:=Qnb (M:=M) (J:=J) (n:=b.toNat) N b1 O Q;rw[hi]at R;have a1:sz.bytes=bytes:=by simpa using R
  have F:(sz.bytes:Int)*b<=281474976710656:=by rw[a1,Nh];unfold Qaq at e;omega
  have b6:b<=9223372036854775807:=by have h1:b*1<=b*(bytes:Int):=OQ Y Y;unfold Qaq at e;omega
  have ag:=run_make (P:=P) w t g sz z L hi b5 kl kc x b h0 b3 F b6;have I':(execOp a.eval j).run P w=.ok (.value (.slice (W ⟨w.heap.size,0,none⟩) x.toNat b.toNat)) (Ag w (.cells (madeCells z.cells (b.toNat*c)) g)):=by unfold execOp;rw[ho];rw[b4]at ag;simp only[vl,a8,a9,ag,Result.andThen];rfl
  have m:aq M J (madeCells z.cells (b.toNat*c)).toList ((List.replicate b.toNat d).flatMap V.cells):=E;have p:∀n,∀y∈List.replicate n d,y.cells.length=c:=λn y f=>by rw[Hf f];exact O
  have a2 n:((List.replicate n d).flatMap V.cells).length=n*c:=by rw[y_ (p n),KR]
  have H:(madeCells z.cells (b.toNat*c)).size=b.toNat*c:=size_madeCells _ _;have l':x.toNat<=b.toNat:=by omega
  have a3:∀n,∀y∈(List.replicate n d).flatMap V.cells,y.one:=λn y f=>by have⟨q,hq,f⟩:=Fc.1 f;rw[Hf hq]at f;exact zW a0 y f
  have b7:∀y∈d.cells,y.ng=y:=by
   unfold IM at N;split at N
   ·exact λy f=>((zS (M:=M) (J:=J) N).2.1 y f).2
   ·cases N
  cases i0 with
  |true=>
   simp only[A9c]at r;cases r;refine Wei h (Ext.refl ..) rfl h (T9:=g) (fz:=(0,0)) (ars:=madeCells z.cells (b.toNat*c)) ?_ (λsz _=>by unfold Qbg;simp) (a3 _) (λv c' u => ?_) l' I'
   ·rw[JF (by rw[a2];have:=H;simp only[DR];omega)];exact m
   ·have⟨q,hq,f⟩:=Fc.1 c';rw[Hf hq]at f;rw[<-b7 v f];exact w7 _ _
  |false=>
   simp only[vD,A9d]at r;cases r;have K:aq M J ((madeCells z.cells (b.toNat*c)).toList.take ((List.replicate x.toNat d).flatMap V.cells).length) ((List.replicate x.toNat d).flatMap V.cells):=by
    have s:(List.replicate b.toNat d).flatMap V.cells=(List.replicate x.toNat d).flatMap V.cells++(List.replicate (b.toNat-x.toNat) d).flatMap V.cells:=by rw[<-Ue,List.replicate_append_replicate,Nat.add_sub_cancel' l']
    rw[s]at m;refine⟨?_,λc' u y L f => ?_⟩
    ·have h1:=DY c l';have h2:(madeCells z.cells (b.toNat*c)).toList.length=b.toNat*c:=by rw[DR];exact H
     rw[GQ,h2,a2];exact Nat.min_eq_left h1
    ·rw[xP]at L;split at L
     ·exact m.2 c' u y L (by rw[AH (by assumption)];exact f)
     ·cases L
   have⟨M',D',b8,a4⟩:=h.putRow (madeCells z.cells (b.toNat*c)) g (0,0) (List.replicate x.toNat d) (if x=b then .fx else .gr c) b.toNat c K (p _) (by rw[KR];exact l')
    (λc'=>by
     split at c'
     ·rename_i u;rw[KR,u]
     ·cases c')
    (λs c'=>by
     split at c'
     ·cases c'
     ·cases c';exact⟨rfl,by rw[H];exact vE _,λsz _ _=>by unfold Qbg;simp⟩) j.dst
   rw[KR]at a4;exact⟨_,_,_,M',J,D',I',.inl rfl,⟨b8,Kp.same _ _ (h.wd.bR _),λ_=>h.wd.bR _⟩,a4⟩
 ·cases r
end
def eV(w:World)(b:Nat)(ob:Obj):World:={w with heap:=w.heap.setIfInBounds b ob}
def Ht(b:Nat)(ob:Obj)(c:Nat):(eV Q b ob).heap[c]?=if b=c then(if b<Q.heap.size then W ob else none)else Q.heap[c]?:=by unfold eV;rw[T5]
def WR(b:Nat)(ob:Obj):(eV Q b ob).heap.size=Q.heap.size:=by simp[eV]
section
variable{P:Program}{M:vn}{J:bk}{X:Nat->Prop}{D:cY}{w:World}{us:vB}{U:uZ}{I:hN}{G:GV}{a:Act}
def Qfp.eV{b:Nat}{O:O}{ob:Obj}(h:Qfp M J w c O)(a:b≠c):Qfp M J (eV w b ob) c O:=by
 cases O with
 |cells j=>obtain⟨d,f,e,g,i⟩:=h;exact⟨d,f,e,by rw[Ht,O3 a];exact g,i⟩
 |mp g=>obtain⟨f,k,d,e⟩:=h;exact⟨f,k,by rw[Ht,O3 a];exact d,e⟩
 |si r f=>obtain⟨s,d,e⟩:=h;exact⟨s,by rw[Ht,O3 a];exact d,e⟩
 |gone=>trivial
def St.qI(h:St M J X D w us U I){o b:Nat}(P:J o=W b){B:O}(Q:I[o]?=W k0)(R:k0≠.gone)(t:∀cs,B≠.cells cs){ob:Obj}(V:w.heap[b]?=W g8)(y:∀ars T9 fz,g8≠.cells ars T9 fz)(z:∀ars T9 fz,ob≠.cells ars T9 fz)(S:Qfp M J (Ev.eV w b ob) b B):St M J X D (Ev.eV w b ob) us U (I.set o B)/\Ext X M J w M J (Ev.eV w b ob)/\Kp J w I J (Ev.eV w b ob) (I.set o B):=by
 have hX:=h.wd.cV o b P;have C:=h.wd.dv o b P;have E:=(wy.1 Q).1;have d c i:(Ev.eV w b ob).cell? ⟨c,i,none⟩=w.cell? ⟨c,i,none⟩:=by
  unfold World.cell?;rw[Ht];by_cases a:b=c
  ·subst a;simp only[A9c,A9a C,V];cases g8<;>first|exact absurd rfl (y _ _ _)|(cases ob<;>first|exact absurd rfl (z _ _ _)|rfl)
  ·rw[O3 a]
 have j:∀c ars T9 fz,w.heap[c]?=W (.cells ars T9 fz)->b≠c:=λc ars T9 fz a e=>by subst e;rw[V]at a;cases a;exact y _ _ _ rfl
 have l:∀c ars T9 fz,(Ev.eV w b ob).heap[c]?=W (Obj.cells ars T9 fz)->w.heap[c]?=W (Obj.cells ars T9 fz):=λc ars T9 fz a=>by
  rw[Ht]at a;by_cases g:b=c
  ·rw[A9a g,A9a C]at a;cases a;exact absurd rfl (z _ _ _)
  ·rw[O3 g]at a;exact a
 have F:∀q cs,(I.set o B)[q]?=W (O.cells cs)->I[q]?=W (O.cells cs):=λq cs f=>by
  by_cases g:o=q
  ·subst g;rw[Aa E]at f;cases f;exact absurd rfl (t _)
  ·rwa[CQ g]at f
 have G:∀p v x,At J (Ev.eV w b ob) us U (I.set o B) p v x->At J w us U I p v x:=by
  intro p v x m;cases p with
  |s i=>exact m
  |c q i=>obtain⟨s,N,T9,fz,cs,H,K,r,L⟩:=m;exact⟨s,N,T9,fz,cs,H,l _ _ _ _ K,F _ _ r,L⟩
 refine⟨⟨⟨λc i u g8=>by rw[d];exact h.wd.mem c i u g8,λq c f => ?_,λq c f=>by rw[WR];exact h.wd.dv q c f,λq l c H K r L=>h.wd.inj q l c H K (DL Q r R) (DL Q L R),
  λc a=>by rw[WR];exact h.wd.ef c a,h.wd.cV,λc p s=>by rw[WR];exact h.wd.dC c p s,λc n hz => ?_⟩,h.bC,λp v x c m a=>h.own p v x c (G p v x m) a,λp v x m => ?_⟩,
  ⟨.refl _,.refl _,λ_ _ _=>rfl,by rw[WR];exact vE _,λc a => ?_,rfl,rfl,rfl⟩,⟨u0,λ_ _=>rfl,λq c i f hl => ?_⟩⟩
 ·by_cases g:o=q
  ·subst g;rw[P]at f;cases f;exact⟨B,Aa E,S⟩
  ·have⟨i,s,hr⟩:=h.wd.obj q c f;refine⟨i,by rw[CQ g];exact s,?_⟩;by_cases N:i=.gone
   ·subst N;trivial
   ·exact hr.eV λe=>g (h.wd.inj o q b P (e▸f) (by rw[Q];simpa using R) (by rw[s];simpa using N))
 ·have⟨N,ars,T9,fz,s,b⟩:=h.wd.gg c n hz;exact⟨N,ars,T9,fz,by rw[Ht,O3 (j _ _ _ _ s)];exact s,b⟩
 ·refine⟨λb c f g s N i => ?_⟩;have⟨H,K,ars,T9,fz,r,L⟩:=(h.gr p v x (G p v x m)).ok b c f g s N i;exact⟨H,K,ars,T9,fz,by rw[Ht,O3 (j _ _ _ _ r)];exact r,L⟩
 ·rw[Ht,O3 (λe=>by subst e;exact hX a)]
 ·obtain⟨cs,x,s,N⟩:=hl;exact⟨⟨cs,x,F _ _ s,N⟩,d _ _⟩
def Hq{ob:Obj}(h:w.heap[c]?=W g8)(b:∀ars T9 fz,g8≠.cells ars T9 fz):(Go.setObj c ob).run P w=.ok () (eV w c ob):=by unfold Go.setObj;simp only[Sem.run,h];cases g8<;>first|exact absurd rfl (b _ _ _)|rfl
def Jv(h:Instr.sameNow S f u=W true)(n:Nat):Instr.sameBits (n+1) u f:=by
 unfold Instr.sameNow at h;split at h
 ·split at h
  ·rename_i a;subst a;simp at h;subst h;simp[Instr.sameBits]
  ·cases h
 ·rename_i x y;simp only[vU,Qn8,A9f]at h;show(y==x);rw[Qn8];exact xG h.symm
 ·rename_i x y;have:x=y:=by simpa using h
  subst this;simp[Instr.sameBits]
 ·cases h
def Wem(h:St M J X D w a.tmps.toList U I){t:TypeId}(r:j.op=.makeMap t i8)(b:i8=none\/∃k n c e,i8=W (.const (.int k n))/\P.underlying t=W (.map c e)):
  wc P a j M J X w I (put U j.dst (.mp I.length)) (I++[.mp []]):=by
 have⟨d,f,l,m,q,s,_⟩:=h.nk (h.wd.h' (vE _)) (.map #[] 0) (.mp []) (λd f _ _ _=>⟨#[],0,EI w _,rfl,λi e p y u=>by simp at u⟩) (λz b=>by cases b) (n:=none) (λk v=>by cases v);refine⟨_,_,_,d,f,D,?_,.inl rfl,⟨l,Kp.newObj h.wd (h.wd.bR _) s _,λ_=>h.wd.bR _⟩,q.be (.mp _ _ m) rfl _⟩;unfold execOp;rw[r];have g:(newObj (.map #[] 0)).run P w=.ok w.heap.size (Ag w (.map #[] 0)):=rfl;rcases b with rfl|⟨k,n,c,e,rfl,x⟩
 ·simp only[Option.map_none,Instr.makeMap,vl,vF,g,Result.andThen]
 ·simp only[A0,Instr.makeMap,vl,vF,g,Result.andThen,run_underlying x];rfl
def Jy(h:St M J X D w a.tmps.toList U I)(hG:dJ G M J){t:TypeId}{x:Operand}{x':Arg}(ho:j.op=.mapUpdate t n v x\/j.op=.insert t n v x)(ht:P.underlying t=W (.map g p))(hk:Rx P e7 g)(hm:Qar n o)(Q:Qar v B)(hx:Qar x x')(l:Qa4 e4 (arg G U) (cD G U) I (.uT e7 o B x')=W (d,A)):wc P a j M J X w I (put U j.dst d) A:=by
 have R:=fN.bl h.bC hG;have z:=R.ok _ _ hm;have s:=R.ok _ _ Q;have kk:=R.ok _ _ hx;simp only[Qa4]at l;split at l
 ·rename_i S a0;split at l
  ·rename_i es C;simp only[u7,vh]at l;obtain⟨E,hp,l⟩:=l;split at l
   ·cases l;rw[a0]at z;have⟨b,a1,hi⟩:=z.jX;have⟨O,hO,a2⟩:=h.wd.obj S b hi;rw[C]at hO;cases hO;obtain⟨m,clock,N,f⟩:=a2;have⟨e,hu,hd⟩:=Qqe hk;have F:=h.wd.dv S b hi;have H:∀ob,Qfp M J (eV w b ob) b (.mp E)->(∀a3 T9 fz,ob≠.cells a3 T9 fz)->(Instr.mapUpdate t (a.eval n) (a.eval v) (a.eval x)).run P w=.ok () (eV w b ob)->wc P a j M J X w I (put U j.dst .undef) (I.set S (.mp E)):=by
     intro ob r y c;have⟨hs,L,a4⟩:=h.qI hi C u0 u0 N u0 y r;refine⟨_,undef,_,M,J,D,?_,.inr ⟨rfl,rfl⟩,⟨L,a4,λk=>by rcases ho with ho|ho<;>(rw[ho]at k;cases k)⟩,hs.be .undef rfl _⟩;unfold execOp;rcases ho with ho|ho<;>
     ·rw[ho];simp only[vl,c,Result.andThen];rfl
    have start:∀r (c:World),(∀q,q=r->(match q with
       |some (i,_)=>do
        let key <-Instr.keyThatStays (((m[i]?).map (·.key)).getD (a.eval v)) (a.eval v)
        Go.setObj b (.map (m.modify i λp=>{p with key,val:=a.eval x}) clock)
       |none=>Go.setObj b (.map (m.push {key:=a.eval v,val:=a.eval x,born:=clock}) (clock+1)):Sem Unit).run P w=.ok () c)->
      Instr.findNow e (a.eval v) m.toList 0=W r->(Instr.mapUpdate t (a.eval n) (a.eval v) (a.eval x)).run P w=.ok () c:=by
     intro r c K u;unfold Instr.mapUpdate;rw[vl,run_underlying ht];simp only[Result.andThen,a1];simp only[vl,Qqf N,Qih hu hd,C6 hu u,Result.andThen];have:=K r rfl;cases r with
     |none=>simpa only using this
     |some m'=>obtain⟨i,y⟩:=m';simpa only using this
    rcases Wod hd s f 0 hp with ⟨u,rfl⟩|⟨k',e0,hj,u,a5,rfl⟩
    ·refine H (.map (m.push {key:=a.eval v,val:=a.eval x,born:=clock}) (clock+1)) ⟨_,_,by rw[Ht,A9a rfl,A9a F],by simp[f.1],λi y m' k c => ?_⟩ u0 (start none _ (λq K=>by subst K;exact Hq N u0) u);rw[Array.toList_push,JI]at k;rw[JI,<-f.1]at c;split at k
     ·rename_i r;rw[A9a r]at c;exact f.2 i y m' k c
     ·rename_i r;rw[O3 r]at c;generalize i-m.toList.length=q at k c
      match q with
      |0=>cases k;cases c;exact⟨s,kk⟩
      |q+1=>simp at c
    ·rw[xr]at u;have r:m[k']?=some e0:=by simpa using hj
     refine H (.map (m.modify k' λp=>{p with key:=a.eval v,val:=a.eval x}) clock) ⟨_,_,by rw[Ht,A9a rfl,A9a F],by simp[f.1],λi e' m' k c => ?_⟩ u0 (start (W (k',e0.val)) _ (λq K=>by
      subst K;have y:(Instr.keyThatStays (((m[k']?).map (·.key)).getD (a.eval v)) (a.eval v)).run P w=.ok (a.eval v) w:=by rw[r];unfold Instr.keyThatStays;rw[show Instr.sameBits 10000 ((Option.map (λx=>x.key) (W e0)).getD (a.eval v)) (a.eval v)=true from Jv a5 9999,A9a rfl];rfl
      simp only[vl,y,Result.andThen];exact Hq N u0) u)
     rw[Hg,Xf]at k;rw[AZ]at c;by_cases L:k'=i
     ·subst L;rw[A9a rfl]at k c;rw[r]at k;cases k;split at c
      ·cases c;exact⟨s,kk⟩
      ·cases c
     ·rw[O3 L]at k c;exact f.2 i e' m' (by simpa using k) c
   ·cases l
  ·cases l
 ·cases l
def Wkl(h:St M J X D w a.tmps.toList U I)(i:dJ G M J){t:TypeId}{x:Operand}{s:u2}(y:j.op=.range t x)(l:P.underlying t=W .string)(m:Qar x o)(p:arg G U o=.str s):
  wc P a j M J X w I (put U j.dst (.ptr I.length 0)) (I++[.si s 0]):=by
 have e:=(fN.bl h.bC i).ok _ _ m;rw[p]at e;obtain⟨b,c,rfl⟩:=e.bw;have⟨f,g,d,q,r,u,_⟩:=h.nk (h.wd.h' (vE _)) (.stringIter b 0) (.si b.data.toList 0) (λf g _ _ _=>⟨b,EI w _,rfl⟩) (λB v=>by cases v) (n:=none) (λk z=>by cases z);refine⟨_,_,_,f,g,D,?_,.inl rfl,⟨d,Kp.newObj h.wd (h.wd.bR _) u _,λ_=>h.wd.bR _⟩,r.be (.ptr _ 0 _ q) rfl _⟩;unfold execOp;rw[y];have A:(newObj (.stringIter b 0)).run P w=.ok w.heap.size (Ag w (.stringIter b 0)):=rfl;simp only[c,Instr.range,vl,run_underlying l,vF,A,Result.andThen]
def V9{s:ByteArray}(h:c<s.size):Utf8.decode s c=CN (s.data.toList.drop c):=by
 have a k:s.get! (c+k)=(s.data.toList.drop c).getD k 0:=by rw[y9,DT];show s.data[c+k]! = _;rw[getElem!_def];simp only[Hg];cases s.data[c+k]?<;>rfl
 have b k:decide (c+k<s.size)=decide (k<(s.data.toList.drop c).length):=by have:(s.data.toList.drop c).length=s.size-c:=u0;rw[this];congr 1;apply propext;omega
 unfold Utf8.decode CN;simp only[a,b];rfl
def Wkm(h:St M J X D w a.tmps.toList U I)(S:dJ G M J){v:V}(t:j.op=.next n true)(B:Qar n o)(g:Qa4 e4 (arg G U) (cD G U) I (.kH o)=W (v,A)):wc P a j M J X w I (put U j.dst v) A:=by
 have Q:=(fN.bl h.bC S).ok _ _ B;simp only[Qa4]at g;split at g
 ·rename_i z hy;rw[hy]at Q;have⟨b,l,I'⟩:=Q.cZ;have get:∀r d,I[z]?=W (.si r d)->∃s:ByteArray,w.heap[b]?=W (.stringIter s d)/\s.data.toList.drop d=r:=λr d e=>by have⟨O,hO,c⟩:=h.wd.obj z b I';rw[e]at hO;cases hO;exact c
  split at g
  ·rename_i d m;cases g;have⟨s,k,p⟩:=get _ _ m;have e:¬d<s.size:=by have:=A9e List.length p;simp at this;omega
   refine v7 (D:=D) (v:=.tuple #[.bool T]) ?_ (h.be (.aR _ _ rfl λi u c q x => ?_) rfl _)
   ·unfold execOp;rw[t];have f:(getObj b).run P w=.ok (.stringIter s d) w:=by unfold getObj;simp only[Sem.run,k]
    simp only[l,Instr.next,vl,f,Result.andThen,O3 e,vF]
   ·match i with
    |0=>cases q;cases x;exact .bool T
    |i+1=>simp at x
  ·rename_i x r d R;cases g;have⟨s,C,E⟩:=get _ _ R;have e:d<s.size:=by have:=A9e List.length E;simp at this;omega
   have f:=V9 e;rw[E]at f;have H:=h.wd.dv z b I';have⟨K,L,N⟩:=h.qI I' R u0 (B:=.si ((x::r).drop (CN (x::r)).2) (d+(CN (x::r)).2)) u0 C u0 (ob:=.stringIter s (d+(CN (x::r)).2)) u0
    ⟨s,by rw[Ht,A9a rfl,A9a H],by rw[<-JL,E]⟩
   refine⟨_,.tuple #[.bool true,goInt d,.int .i32 (CN (x::r)).1],_,M,J,D,?_,.inl rfl,⟨L,N,λk=>by rw[t]at k;cases k⟩,K.be (.aR _ _ rfl λi u c F q => ?_) rfl _⟩
   ·unfold execOp;rw[t];have m:(getObj b).run P w=.ok (.stringIter s d) w:=by unfold getObj;simp only[Sem.run,C]
    have p:(Go.setObj b (.stringIter s (d+(CN (x::r)).2))).run P w=.ok () (eV w b (.stringIter s (d+(CN (x::r)).2))):=Hq C u0;simp only[l,Instr.next,vl,m,Result.andThen,A9a e,f,p,vF]
   ·match i with
    |0=>cases F;cases q;exact .bool true
    |1=>cases F;cases q;exact .int _ _
    |2=>cases F;cases q;exact .int _ _
    |i+3=>simp at q
  ·cases g
 ·cases g
end
end Go.Ev
