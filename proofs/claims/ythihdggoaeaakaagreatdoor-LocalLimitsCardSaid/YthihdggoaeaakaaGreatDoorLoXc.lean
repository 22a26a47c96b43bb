/- Part of a proof: the small language, and functions of the program on it. -/
import Derived.Test.YthihdggoaeaakaaGreatDoorLoXb
import Derived.Test.YthihdggoaeaakaaGreatDoorChecked
import Derived.Test.YthihdggoaeaakaaGreatDoorRows
import Derived.WalkKit
import Derived.WalkSpells
import Derived.WalkLawsBesides
import Derived.Deep.QuietTactic
import Derived.BigQuiet
import Derived.Lib.Hide
import Derived.Deep.RegionHeld3
import Derived.Deep.AppendLies
import Derived.Deep.RegionLaw
import Derived.Deep.DrawnRows
import Derived.Deep.DeepFit
import Derived.RegionTactic
set_option linter.all false
set_option maxRecDepth 100000
open Go.Proofs.Tryz
namespace Go.Proofs.YthihdggoaeaakaaGreatDoor
end Go.Proofs.YthihdggoaeaakaaGreatDoor
namespace Go.Ev
open Go Go.Proofs Go.Proofs.YthihdggoaeaakaaGreatDoor
def B3(c a b:V):AW:=
 match c with
 | .bool t=>some (if t then a else b)
 |_=>none
def mz(z:uZ)(parts:List (Nat×Nat×V)):AW:=(EW z parts).map V.agg
def qC(mx:Bool)(args:uZ):AW:=
 match args with
 |x::r=>if(Et x).isSome then OI mx x r else none
 |[]=>none
def Mo(a:CK)(I:hN)(z m k:V)(b:Bool):AW:=do
 let r <-jr a I m k
 let x:=r.getD z
 if Wdw a k then some (if b then .aR [x,.bool r.isSome]else x)else none
def ny(k:Nat)(x:V):AW:=
 match x with
 | .bE t y=>some (.eQ k (.bE t y))
 |_=>none
instance(n:Nat):OfNat Arg n:=⟨.t n⟩
def Yi(n:Int):Arg:=.c (.int .i64 n)
def Yt:Arg:=.c (.bool true)
def Yf:Arg:=.c (.bool false)
def Ys(l:u2):Arg:=.c (.str l)
def Y0:V:=.int .i64 0
def Yn:V:=.str []
def Yb:V:=.bool false
def Yv(d:Nat)(x:Arg):Step:=⟨some d,none,.mv x false⟩
def Yu(d:Nat)(x:Arg):Step:=⟨some d,none,.mv x true⟩
def Yk(d:Nat)(i:Ins):Step:=⟨some d,none,i⟩
def Yc(d f:Nat)(xs:List Arg):Step:=⟨some d,none,.call f xs⟩
def Ya(d o:Nat)(x:Arg):Step:=⟨some d,none,.cu o x⟩
def Yl(d:Nat)(ag:Bool)(sz:Nat)(x:Arg):Step:=⟨some d,none,.load ag sz x⟩
def Yo(d:Nat)(a:BinOp)(k:iB)(x y:Arg):Step:=⟨some d,none,.bin a k x y⟩
def Ye(d sz:Nat)(x i:Arg):Step:=⟨some d,none,.bT sz x i⟩
def Yx(d:Nat)(x:Arg)(i:Nat):Step:=⟨some d,none,.gD x i⟩
def Yh(d:Nat)(x:Arg):Step:=⟨some d,none,.len x⟩
def Yg(d:Nat)(ag:Bool)(o sz:Nat)(x:Arg):Step:=⟨some d,none,.field ag o sz x⟩
def Yw(sz:Nat)(p x:Arg)(a:Bool):Step:=⟨none,none,.store sz p x a⟩
def Yq(k:Nat)(l:List Step)(c:Cd):Cd:=.seq (.ops k l) c
def Yr(k:Nat)(l:List Step):Cd:=Yq k l .ret
def Ym(r:Arg)(k:Nat)(l:List Step):Cd:=.cond r (Yr k l) .skip
def Yj:Cd->Cd->Cd:=.seq
def Yz:Arg->Cd->Cd->Cd:=.cond
def vf:Nat->List Step->Cd:=.ops
def xC a b c:=(⟨some a,(some (b,true)),.mv c false⟩:Step)
def xD a b c:=(⟨some a,(some (b,false)),.mv c false⟩:Step)
def vV a b:=(Yo a .add .no b (Yi 1):Step)
def Aj a b c:=(⟨some a,(some (b,false)),.load false 1 c⟩:Step)
def vj a b:=(Yl a false 1 b:Step)
def Ak a b c:=(Yo a .lss .no b c:Step)
def wz a b c d:=(⟨some a,(some (b,false)),.cu c d⟩:Step)
def xR a:=(Yv a (.c .ad):Step)
def vJ a:=(Yv a (Yi 0):Step)
def wX a b:=(Yk a (.conv (.toInt .u8) b):Step)
def Hx a b c:=(Yo a .eql .no b (Yi c):Step)
def Fl a b c:=(Yk a (.pick b c Yf):Step)
def yX a b:=(Yk a (.dh b):Step)
def yi a b c d:=(⟨some a,(some (b,true)),.call c [d]⟩:Step)
def GB a b c:=(⟨some a,(some (b,true)),.load false 1 c⟩:Step)
def NC a b c:=(Yk a (.pick b Yt c):Step)
def Ae a b:=(Yk a (.aw false 1 1 Y0 [(0,b)] false):Step)
def Po a:=(Yk a (.alloc [Y0,Y0,Yn,Yn,.ad,.ad,Yn]):Step)
def Hy a b:=(Yk a (.conv (.toInt .i64) b):Step)
def Pp a b c:=(Yo a .shr .no b (.c (.int .u64 c)):Step)
def ND a b c:=(Yk a (.aw true b 1 (.agg [Y0,Y0,Yn,Yn,.ad,.ad,Yn]) [(0,c)] false):Step)
def zZ a b c:=(Yo a .and .no b (.c (.int .u8 c)):Step)
def Fm a b c d:=(⟨some a,(some (b,false)),.bin .neq .no c d⟩:Step)
def QZ a b c d:=(⟨some a,(some (b,false)),.call c [d]⟩:Step)
def CX a b:=(Yk a (.un .not b):Step)
def J2 a b c d:=(⟨some a,(some (b,true)),.cu c d⟩:Step)
def Jh a b c:=(Yl a true b c:Step)
def Q0 a b c d:=(Yk a (.app false false 1 b c d true):Step)
def J3 a b c d:=(⟨some a,(some (b,true)),.bin .leq .no c (Yi d)⟩:Step)
def yY a b c:=(Yo a .or .no (.c (.int .u8 b)) c:Step)
def Va a:=(Yk a (.aw false 1 0 .any [] false):Step)
def J4 a b c:=(Yw a b c false:Step)
def Q1 a b c d:=(⟨some a,(some (b,false)),.bin .eql .no c (Yi d)⟩:Step)
def wY a b c d e:=(Yk a (.app false true b c d e true):Step)
def vY a:=(Yv a Yf:Step)
def Vb a:=(Yk a (.box 0):Step)
def Pq a b c d:=(⟨some a,(some (b,true)),.bin .eql .no c d⟩:Step)
def u' a:=(Yk a (.alloc [Y0,Yb,Yn,Yn,Y0,Yn,Yb]):Step)
def Pr a b c:=(Yk a (.app false false 1 1 b c true):Step)
def Vc a b c:=(Yw a b (.c (.int .u8 c)) false:Step)
def J5 a b c d:=(⟨some a,(some (b,false)),.bin .gtr .no c (Yi d)⟩:Step)
def Q2 a b c:=(⟨some a,(some (b,false)),.un .not c⟩:Step)
def Ps a b:=(Yk a (.aw false 1 1 Yn [(0,b)] false):Step)
def YQ a b c d:=(⟨some a,(some (b,true)),.pick c Yt d⟩:Step)
def YR a:=(Yv a 0:Step)
def DV a b c d:=(⟨some a,(some (b,false)),.bin .eql .no c d⟩:Step)
def E0 a b c d e:=(⟨some a,(some (b,false)),.bT c d e⟩:Step)
def Pu a:=(Yk a (.alloc [(.int .u8 0),(.int .u8 0),(.int .u8 0),(.int .u8 0),(.int .u8 0),(.int .u8 0),(.int .u8 0),(.int .u8 0),(.int .u8 0),(.int .u8 0),(.int .u8 0),(.int .u8 0),(.int .u8 0),(.int .u8 0),(.int .u8 0),(.int .u8 0),(.int .u8 0),(.int .u8 0),(.int .u8 0),(.int .u8 0),(.int .u8 0),(.int .u8 0),(.int .u8 0),(.int .u8 0)]):Step)
def NF a b c:=(Yo a .eql .no b c:Step)
def B6 a b c:=(Yo a .add .no (Yi b) c:Step)
def YS a b c d:=(Yc a b [c,d]:Step)
def YT a b:=(Yo a .geq .no b (Yi 0):Step)
def xh a b c:=(Yo a .eql .no b (.c (.int .u8 c)):Step)
def YU a b c d:=(Yk a (.gE false false 1 b c d):Step)
def Vbt a b c d:=(⟨some a,(some (b,false)),.bin .gtr .no c d⟩:Step)
def Vd a b c d:=(⟨some a,(some (b,true)),.bin .eql .no c (Yi d)⟩:Step)
def Pv a b c d:=(⟨some a,(some (b,true)),.bin .leq .no c (.c (.int .u32 d))⟩:Step)
def Pw a b c:=(Yk a (.cut 1 b (some (Yi c)) none none):Step)
def YV a b c d:=(⟨some a,(some (b,true)),.bin .leq .no c (.c (.int .u8 d))⟩:Step)
def Q3 a b c d e:=(⟨some a,(some (b,false)),.call c [d,e]⟩:Step)
def J6 a b c:=(⟨some a,(some (b,true)),.un .not c⟩:Step)
def A3 a b c:=(Yo a .add .no b c:Step)
def Vb1 a b c d:=(⟨some a,(some (b,true)),.bin .lss .no c (Yi d)⟩:Step)
def Vb2 a:=(Yv a 1:Step)
def Vb3 a b c:=(⟨some a,(some (b,true)),.fc c⟩:Step)
def Lg a:=(Yk a (.build [Y0,Y0,Yn,Yn,.ad,.ad,Yn] []):Step)
def NG a b c:=(Yo a .lss .no b (Yi c):Step)
def J7 a b:=(Yk a (.aw false 1 1 (.int .u8 0) [(0,b)] false):Step)
def J8 a b:=(Yo a .neq .bE b (.c .bc):Step)
def NH a b c:=(Yc a b [c]:Step)
def Px a b c:=(Yo a .quo .no b (Yi c):Step)
def Py a b c:=(Yo a .rem .no b (Yi c):Step)
def Lh a b:=(Yv a (Yi b):Step)
def YW a b:=(⟨none,none,.uT .s a b Yt⟩:Step)
def Vcd a b:=(Yk a (.conv .bz b):Step)
def YX a b c:=(Yk a (.dR b [c]):Step)
def J9 a:=(Yv a (Yi (-1)):Step)
def wO a b c:=(Yo a .add .no b (Yi c):Step)
def Vch a b c d:=(⟨some a,(some (b,false)),.bin .add .no c d⟩:Step)
def YY a b:=(Yk a (.conv .bh b):Step)
def B7 a:=(Yv a (Ys []):Step)
def Vck a b:=(Yk a (.aw false 1 1 (.int .u8 0) [(0,(.c (.int .u8 b)))] false):Step)
def J_ a b c d:=(⟨some a,(some (b,true)),.bin .lss .no c d⟩:Step)
def Vcm a b c d:=(⟨some a,(some (b,true)),.bin .add .no c d⟩:Step)
def Mp a b:=(Yk a (.build [.ad,Yb] [(0,2,b)]):Step)
def YZ a b c:=(Yo a .gtr .no b (Yi c):Step)
def B8 a b c:=(Yk a (.kg b c):Step)
def Y1 a:=(Yv a (.c .bc):Step)
def CF a:=(Yk a (.alloc [Y0,Yn,Yb]):Step)
def Y2 a b c:=(Yo a .geq .no b (.c (.int .u64 c)):Step)
def Y3 a b c d:=(⟨some a,(some (b,true)),.load true c d⟩:Step)
def DD a b c:=(Yo a .sub .no b (Yi c):Step)
def wC a b c d:=(⟨some a,(some (b,false)),.pick c d Yf⟩:Step)
def Y4 a b:=(Yk a (.fc b):Step)
def Vcy a b:=(Yk a (.cut 1 b (some (Yi 1)) none none):Step)
def Mv a b c:=(Yo a .geq .no b c:Step)
def Vc0 a b c d e f:=(⟨some a,(some (b,true)),.call c [d,e,f]⟩:Step)
def Li a b c:=(Yo a .geq .no b (Yi c):Step)
def Vc2 a b c:=(⟨some a,(some (b,false)),.fc c⟩:Step)
def Vc3 a b c:=(Yk a (.kM .s Yb b c false):Step)
def oA a:=(Yv a Yt:Step)
def Y5 a b c:=(⟨some a,(some (b,false)),.len c⟩:Step)
def Vc6 a b c:=(⟨some a,(some (b,true)),.len c⟩:Step)
def Ch a:=(Yk a (.box 1):Step)
def Vc8 a:=(Yk a (.alloc [Yn,.ad,.ad]):Step)
def Y6 a b:=(Yo a .neq .no b (Ys []):Step)
def Vda a b:=(Yo a .eql .no b (Ys []):Step)
def Ve a b c d:=(⟨some a,(some (b,false)),.bin .geq .no c (Yi d)⟩:Step)
def Vdc a b c:=(Yk a (.cut 1 b (some c) none none):Step)
def Vdd a b c:=(Yo a .leq .no b (.c (.int .u32 c)):Step)
def Vf a b c:=(Yo a .lss .no b (.c (.int .u8 c)):Step)
def Vdf a b c:=(Yo a .gtr .no b (.c (.int .u8 c)):Step)
def Vdg a b c:=(Yo a .gtr .no b c:Step)
def DF a b c:=(Yw a b (Yi c) false:Step)
def Vdi a b:=(Yk a (.conv (.toInt .u32) b):Step)
def Vdj a b c:=(Yk a (.build [Y0,Y0] [(0,1,b),(1,1,c)]):Step)
def Pz a b c d:=(⟨some a,(some (b,false)),.bin .eql .no c (.c (.int .u8 d))⟩:Step)
def Vdl a b c d:=(⟨some a,(some (b,true)),.bin .and .no c (.c (.int .u64 d))⟩:Step)
def Vdm a b c d:=(⟨some a,(some (b,true)),.bin .lss .no c (.c (.int .i32 d))⟩:Step)
def zk a b c d:=(⟨some a,(some (b,true)),.bin .leq .no c (.c (.int .i32 d))⟩:Step)
def Vdo a b c:=(Yo a .add .no (Ys [b]) c:Step)
def Vdp a b c d:=(⟨some a,(some (b,true)),.bin .lss .no c (.c (.int .u8 d))⟩:Step)
def mA a:=(Yu a 0:Step)
def Vdr a b:=(Ya a 0 b:Step)
def Vds a b c:=(⟨some a,(some (b,true)),.bin .neq .no c (Ys [])⟩:Step)
def Vdt a b c:=(⟨some a,(some (b,true)),.bin .eql .no c (Ys [])⟩:Step)
def Vdu a b c d e f:=(⟨some a,(some (b,false)),.call c [d,(.c (.int .u8 e)),f]⟩:Step)
def Vdv a b c:=(Yo a .neq .no b c:Step)
def Vdw a b c:=(⟨some a,(some (b,true)),.conv (.toInt .i32) c⟩:Step)
def Vdx a b c d:=(Yk a (.cw b [c,d] 0):Step)
def Vdy a b c:=(⟨some a,(some (b,true)),.conv (.toInt .u8) c⟩:Step)
def Vdz a b c d e:=(⟨some a,(some (b,true)),.bT c d e⟩:Step)
def Vd0 a b c d:=(⟨some a,(some (b,true)),.ga c none (some d)⟩:Step)
def Vd1 a b c d:=(⟨some a,(some (b,true)),.ga c (some d) none⟩:Step)
def BL a b c d e:=(Yc a b [c,d,e]:Step)
def Vd3 a b c:=(Yk a (.aw true b 1 (.agg [.ad,Y0,Y0,Yn,Yn,.ad,.ad,Yn]) [(0,c)] false):Step)
def Vd4 a:=(Yk a (.build [] []):Step)
def Vd5 a b c d:=(Yk a (.cut 1 b (some c) (some d) none):Step)
def Vd6 a b c d:=(Yk a (.gb b 1 false c none (some d)):Step)
def Vd7 a b c:=(Yk a (.da false 1 1 Yb b c true):Step)
def Vd8 a b c d:=(⟨some a,(some (b,false)),.bin .lss .no c d⟩:Step)
def R0 a b c d:=(Yc a b [c,(Yi d)]:Step)
def Vea a b c d:=(⟨some a,(some (b,true)),.bin .gtr .no c d⟩:Step)
def Veb a b c d:=(⟨some a,(some (b,true)),.bin .leq .no c d⟩:Step)
def Vec a b c d:=(⟨some a,(some (b,true)),.bin .sub .no c d⟩:Step)
def mT a b c:=(Ye a 1 b c:Step)
def Vee a b c:=(Yk a (.aw true b 1 (.agg [Y0,Yb,Yn,Yn,Y0,Yn,Yb]) [(0,c)] false):Step)
def vi{p:Prop}(h:p:=by kernel_rfl):p:=h
def GD(f:Rk->V->hN->Ro):Rk->Rk:=λr a I=>f r (a.getD 0 .undef) I
def AY(f:Rk->V->V->hN->Ro):Rk->Rk:=λr a I=>f r (a.getD 0 .undef) (a.getD 1 .undef) I
def xa(f:Rk->V->V->V->hN->Ro):Rk->Rk:=λr a I=>f r (a.getD 0 .undef) (a.getD 1 .undef) (a.getD 2 .undef) I
def xS(f:Rk->V->V->V->V->hN->Ro):Rk->Rk:=λr a I=>f r (a.getD 0 .undef) (a.getD 1 .undef) (a.getD 2 .undef) (a.getD 3 .undef) I
def D5(f:Rk->V->V->V->V->V->hN->Ro):Rk->Rk:=λr a I=>f r (a.getD 0 .undef) (a.getD 1 .undef) (a.getD 2 .undef) (a.getD 3 .undef) (a.getD 4 .undef) I
def Al(f:Rk->V->V->V->V->V->V->hN->Ro):Rk->Rk:=λr a I=>f r (a.getD 0 .undef) (a.getD 1 .undef) (a.getD 2 .undef) (a.getD 3 .undef) (a.getD 4 .undef) (a.getD 5 .undef) I
def E1(f:Rk->V->V->V->V->V->V->V->hN->Ro):Rk->Rk:=λr a I=>f r (a.getD 0 .undef) (a.getD 1 .undef) (a.getD 2 .undef) (a.getD 3 .undef) (a.getD 4 .undef) (a.getD 5 .undef) (a.getD 6 .undef) I
def GF(f:Rk->V->V->V->V->V->V->V->V->hN->Ro):Rk->Rk:=λr a I=>f r (a.getD 0 .undef) (a.getD 1 .undef) (a.getD 2 .undef) (a.getD 3 .undef) (a.getD 4 .undef) (a.getD 5 .undef) (a.getD 6 .undef) (a.getD 7 .undef) I
def NI(f:Rk->V->V->V->V->V->V->V->V->V->hN->Ro):Rk->Rk:=λr a I=>f r (a.getD 0 .undef) (a.getD 1 .undef) (a.getD 2 .undef) (a.getD 3 .undef) (a.getD 4 .undef) (a.getD 5 .undef) (a.getD 6 .undef) (a.getD 7 .undef) (a.getD 8 .undef) I
def NJ(f:Rk->V->V->V->V->V->V->V->V->V->V->hN->Ro):Rk->Rk:=λr a I=>f r (a.getD 0 .undef) (a.getD 1 .undef) (a.getD 2 .undef) (a.getD 3 .undef) (a.getD 4 .undef) (a.getD 5 .undef) (a.getD 6 .undef) (a.getD 7 .undef) (a.getD 8 .undef) (a.getD 9 .undef) I
def C9(f:Rk->V->V->V->V->V->V->V->V->V->V->V->hN->Ro):Rk->Rk:=λr a I=>f r (a.getD 0 .undef) (a.getD 1 .undef) (a.getD 2 .undef) (a.getD 3 .undef) (a.getD 4 .undef) (a.getD 5 .undef) (a.getD 6 .undef) (a.getD 7 .undef) (a.getD 8 .undef) (a.getD 9 .undef) (a.getD 10 .undef) I
def Y7(f:Rk->V->V->V->V->V->V->V->V->V->V->V->V->V->V->V->hN->Ro):Rk->Rk:=λr a I=>f r (a.getD 0 .undef) (a.getD 1 .undef) (a.getD 2 .undef) (a.getD 3 .undef) (a.getD 4 .undef) (a.getD 5 .undef) (a.getD 6 .undef) (a.getD 7 .undef) (a.getD 8 .undef) (a.getD 9 .undef) (a.getD 10 .undef) (a.getD 11 .undef) (a.getD 12 .undef) (a.getD 13 .undef) (a.getD 14 .undef) I
variable{H:Nat}{R:hN}{U:uZ->Ro}
section
variable(M:ah)(S N:Nat)(r1:Rk)(n2:Nat)(r2:Rk)(n3:Nat)(r3:Rk)(n4:Nat)(r4:Rk)(n5:Nat)(a0 a1 a2 a3 a4 a5 a6 a7 a8 a9 a10 a11:V)(Q z1 z3 z4 z5 z6 z7 z8 z9 z10 z11 z12 z13 z14 z37 z38 z39 z59 z60 z61 z87 z88:V)(I:hN)
def p6:Ev.Fn:=⟨118,[.tmp 4],T,T,(Yq 0 [vY 4] (Yj (Yq 1 [Yc 13 4 [],CX 14 13] (Ym 14 2 [vY 4])) (Yj (Yq 3 [YR 15,R0 16 5 15 200000,Yv 17 16,xD 18 17 0,QZ 19 17 6 18,Ve 20 17 19 0,NC 21 17 20] (Ym 21 4 [oA 4])) (Yq 5 [YR 22,NH 23 7 22,Yv 5 23] (Yq 6 [YR 25,Yv 26 5,YS 27 8 25 26,Yv 24 27,Yx 28 24 0,Yx 29 24 1,Yx 30 24 2,Yv 6 28,Yv 7 29,Yv 8 30] (Yq 7 [mA 32,Vb2 33,YS 34 8 32 33,Yv 31 34,Yx 35 31 0,Yx 36 31 1,Yx 37 31 2,Yv 9 35,Yv 10 36,Yv 11 37] (Yj (Yq 8 [Yv 38 8,J8 39 38,Yv 40 39,xD 41 40 7,xD 42 40 5,Vbt 43 40 41 42,NC 44 40 43,Yv 45 44,xD 46 45 10,xD 47 45 1,⟨some 48,(some (45,T)),.mm true [47,(Yi 0)]⟩,Vbt 49 45 46 48,NC 50 45 49] (Ym 50 9 [vY 4])) (Yj (Yq 10 [Yv 51 11,J8 52 51] (Ym 52 11 [Yv 53 11,NH 54 9 53,Hx 55 54 21,Yv 56 55,xC 57 56 11,yi 58 56 10 57,Vd 59 56 58 0,Fl 60 56 59,Yv 61 60,xC 62 61 9,Vc6 63 61 62,Vd 64 61 63 0,Fl 65 61 64,Yv 66 65,xC 67 66 1,xC 68 66 5,J_ 69 66 67 68,Fl 70 66 69,Yv 71 70,xC 72 71 1,xC 73 71 7,J_ 74 71 72 73,Fl 75 71 74,Yv 4 75])) (Yj (Yq 12 [Yv 76 9,Yh 77 76,Yv 78 6,Yh 79 78,Vdv 80 77 79,Yv 81 80,xD 82 81 10,xD 83 81 7,Fm 84 81 82 83,NC 85 81 84] (Ym 85 13 [vY 4])) (Yj (Yq 14 [Yv 86 6,Yh 87 86,vJ 88] (.block 0 (.loop [6,9,87,88] [4] [] (Yq 15 [Ak 89 88 87] (Yj (Yz 89 .skip (.exit 0)) (Yj (.block 1 (Yq 16 [Yv 90 88,Yv 12 90] (Yj (.dH 17 [⟨Yv 91 9,0,[]⟩,⟨Yv 92 12,1,[]⟩,⟨Ye 93 8 91 92,2,[]⟩,⟨Ya 94 0 93,3,[]⟩,⟨Yl 95 T 1 94,4,[]⟩,⟨Yv 96 6,5,[]⟩,⟨Yv 97 12,6,[]⟩,⟨Ye 98 8 96 97,7,[]⟩,⟨Ya 99 0 98,8,[]⟩,⟨Yl 100 T 1 99,9,[]⟩,⟨Yc 101 11 [95,100],10,[]⟩,⟨Yk 102 (.un .not 101),11,[]⟩,⟨Yv 103 102,12,[]⟩,⟨⟨some 104,(some (103,T)),.mv 9 T⟩,13,[]⟩,⟨⟨some 105,(some (103,T)),.mv 12 T⟩,14,[]⟩,⟨⟨some 106,(some (103,T)),.bT 8 104 105⟩,15,[]⟩,⟨⟨some 107,(some (103,T)),.cu 1 106⟩,16,[]⟩,⟨⟨some 108,(some (103,T)),.load true 7 107⟩,17,[]⟩,⟨⟨some 109,(some (103,T)),.mv 6 T⟩,18,[]⟩,⟨⟨some 110,(some (103,T)),.mv 12 T⟩,19,[]⟩,⟨⟨some 111,(some (103,T)),.bT 8 109 110⟩,20,[]⟩,⟨⟨some 112,(some (103,T)),.cu 1 111⟩,21,[]⟩,⟨⟨some 113,(some (103,T)),.load true 7 112⟩,22,[]⟩,⟨⟨some 114,(some (103,T)),.call 12 [108,113]⟩,23,[]⟩,⟨⟨some 115,(some (103,T)),.un .not 114⟩,24,[]⟩,⟨Yk 116 (.pick 103 Yt 115),25,[]⟩]) (Ym 116 18 [vY 4])))) (vf 19 [vV 117 88,Yv 88 117]))))))) (Yr 20 [oA 4])))))))))))⟩
def UG(vs:uZ)(i:Nat):V:=vs.getD i .undef
def UY(n:Nat)(I:hN):uZ->(uZ->Ro)->Ro
 |[],f=>f []
 |z::a,f=>bd (fz n I fzD z) λy=>UY n I a λb=>f (y::b)
def UF(n:Nat)(I:hN)(a:uZ)(r:Rk):Ro:=UY n I a λb=>bd (ve n I) λs=>r b s
def Y8:UY H R [] U=U []:=rfl
def Y9{z:V}{a:uZ}:UY H R (z::a) U=bd (fz H R fzD z) λy=>UY H R a λb=>U (y::b):=rfl
section
variable(a b c d e i j k l t u v w:V)(r s:hN)(n m o p q h y z A B C Dww:Nat)(E F G Hww Iww:Int)(M:ah)(f:V->Ro)(g:V×hN->Ro)(x:hN->Ro)
def u3:=bd (fz r.length r fzD a) f
def u9:=bd (pu (eL r false 1 a.ng)) f
def u6:=bd (fz n r fzD a) f
def xu:=bd (pu (B3 a.ng.ng b.ng (.bool false))) f
def xE:=bd (pu (B3 a.ng.ng (.bool true) b.ng)) f
def E2:=bd (aU a.ng true (some b.ng)) f
def v8:=bd (fz r.length r fzD (.int .i64 E)) f
def xi:=bd (pu (eF n a.ng)) f
def xj:=bd (aU a.ng false (some b.ng)) f
def Uaj:=bd (pu (Qau a.ng.ng)) f
def vX:=bd (fz n r fzD .any) f
def wI:=bd (pu (Qai a.ng.ng)) f
def yp:=bd (pu (eB .lss .no a.ng b.ng)) f
def xy:=bd (pu (eB .add .no a.ng (.int .i64 1))) f
def xM:=bd (aU a.ng false (pu (eL r false 1 b.ng))) f
def yh:=bd (pu (eB .add .no a.ng.ng (.int .i64 1))) f
def A4:=bd (pu (eB .lss .no a.ng.ng b.ng)) f
def vt:=bd (pu (eB .eql .no a.ng (.int .i64 E))) f
def zd:=bd (pu (eL r true n a.ng)) f
def Cu:=bd (ve n r) x
def yF:=bd (fz r.length r fzD a.ng) f
def Cv:=bd (pu (Qai a.ng)) f
def xb:=bd (pu (fk .not a.ng)) f
def Am:=bd (bK r a.ng) g
def yG:=bd (pu (eC r (.toInt .u8) a.ng)) f
def Uaz:=bd (aU a.ng false (pu (eF n b.ng))) f
def GH:=bd (pu (eI n a.ng.ng b.ng.ng)) f
def NK:=bd (aU a.ng true (some b.ng.ng)) f
def ze:=bd (pu (eC r (.toInt .u64) a.ng)) f
def CG:=bd (u5 r n (.ptr s.length m) a.ng a.ng) g
def G4:=bd (wS true 7 1 (.agg [(.int .i64 0),(.int .i64 0),(.str []),(.str []),.ad,.ad,(.str [])]) [(0,a.ng)]) f
def G5:=bd (fz r.length r fzD .ad) f
def EB:=bd (aU a.ng true (pu (eB .eql .no b.ng c.ng))) f
def D7:=bd (M.call n [a.ng] r) g
def Ji:=bd (pu (eB .or .no a.ng b.ng)) f
def NL:=bd (aU a.ng true (pu (eL r false 1 b.ng))) f
def Uba:=bd (pe (eX n a.ng.ng)) f
def GJ:=bd (pu (eB .eql .no a.ng.ng b.ng)) f
def Ka:=bd (u5 r n a.ng b.ng b.ng) g
def Af:=bd (fO a.ng true (M.call n [b.ng] r) r) g
def PA:=bd (aU a.ng false (pu (eB .neq .no b.ng c.ng))) f
def An:=bd (aU a.ng false (pu (eB .lss .no b.ng c.ng))) f
def Ubg:=bd (aU a.ng false (pu (eI n (.int .i64 E) b.ng))) f
def Ubh:=bd (pu (eI n a.ng b.ng)) f
def ED:=bd (aU a.ng false (some b.ng.ng)) f
def E3:=bd (aU a.ng true (pu (eF n b.ng))) f
def CH:=bd (aU a.ng true (pu (B3 b.ng (.bool true) c.ng))) f
def Lj:=bd (aU a.ng false (pu (fk .not b.ng))) f
def PB:=bd (pu (eI n (.int .i64 E) a.ng.ng)) f
def G6:=bd (pu (eL r true n (.ptr s.length m))) f
def zf:=bd (pu (eI n a.ng.ng.ng.ng b.ng.ng)) f
def Kb:=bd (pu (eC r (.toInt .i64) a.ng)) f
def D8:=bd (pu (eB .shl .no a.ng (.int .u64 E))) f
def PC:=bd (M.call n [a.ng.ng] r) g
def GK:=bd (aU a true (some b.ng)) f
def Lk:=bd (aT false false n m r a b.ng) f
def Ll:=bd (aU a.ng true (pu (fk .not b.ng))) f
def Lm:=bd (pu (eC r (.toInt .i64) a.ng.ng.ng)) f
def Cw:=bd (fz n r fzD (.bool false)) f
def Jj:=bd (pu (mz [.ad,(.bool false)] [(0,2,a.ng)])) f
def NO:=bd (aU a false (some b.ng)) f
def Jk:=bd (u5 r n a.ng (.int .u8 E) (.int .u8 E)) g
def Jl:=bd (aT false true n m r a b.ng) f
def Kc:=bd (pu (eB .neq .no a.ng b.ng)) f
def Q4:=bd (pu (eB .gtr .no a.ng (.int .i64 E))) f
def Ln:=bd (pu (eB .add .no (.int .i64 E) a.ng)) f
def Q5:=bd (M.call n [a.ng.ng,b.ng.ng] r) g
def Lo:=bd (fz r.length r fzD (.ptr s.length 0)) f
def Kd:=bd (aU a.ng true (pu (eB .or .no b.ng c.ng))) f
def Vg:=bd (pu (eB .geq .no a.ng.ng (.int .i64 E))) f
def Fo:=bd (pu (eB .lss .no a.ng.ng (.int .i64 E))) f
def Q6:=bd (pu (eC r (.toInt .u8) a.ng.ng)) f
def Vh:=bd (pu (eB .or .no (.int .u8 E) a.ng)) f
def E4:=bd (pu (yy n a.ng (some (.int .i64 E)) none none)) f
def Lq:=bd (pu (eB .neq .bE a.ng.ng.ng .bc)) f
def NP:=bd (wS false 1 1 (.int .i64 0) [(0,a.ng)]) f
def Q7:=bd (aU a.ng false (pu (eB .eql .no b.ng (.int .i64 E)))) f
def Hz:=bd (u5 r n a.ng (.int .i64 E) (.int .i64 E)) g
def Jm:=bd ((some (V.mp r.length,r++[O.mp []]):Ro)) g
def Vi:=bd (pu (eF n (.ptr r.length m))) f
def PD:=bd (aU a.ng false (pu (B3 b.ng c.ng (.bool false)))) f
def PE:=bd (aT false false 1 1 r a b.ng) f
def NQ:=bd (M.call n [a.ng.ng,b.ng] r) g
def Vj:=bd (pu (eB .geq .no a.ng (.int .i64 0))) f
def NR:=bd (fz n r fzD a.ng.ng.ng.ng) f
def PF:=bd (pu (ZM a.ng.ng)) f
def G7:=bd (pu (eB .add .no a.ng.ng b.ng.ng)) f
def Lr:=bd (pu (B3 a.ng.ng.ng.ng b.ng (.bool false))) f
def BM:=bd (wS false 1 0 .any []) f
def Vk:=bd (aU a.ng false (pu (eB .gtr .no b.ng c.ng))) f
def Ke:=bd (fz n r fzD (.bool true)) f
def Vl:=bd (pu (eB .gtr .no a.ng.ng b.ng)) f
def Q8:=bd (aU a.ng true (pu (eB .eql .no b.ng (.int .i64 E)))) f
def HA:=bd (aU a.ng true (pu (eB .leq .no b.ng (.int .i64 E)))) f
def PG:=bd (aU a.ng true (pu (eC r .cL b.ng))) f
def Jn:=bd (pu (eB .quo .no a.ng.ng (.int .i64 E))) f
def GL:=bd (pu (eB .shr .no a.ng.ng (.int .u64 E))) f
def Vm:=bd (pu (eB .and .no a.ng (.int .u8 63))) f
def PH:=bd (pu (Qai a.ng.ng.ng)) f
def PI:=bd (u5 r 1 a.ng b.ng b) g
def NT:=bd (fO a.ng false (M.call n [b.ng] r) r) g
def NU:=bd (pu (eF 0 (.ptr r.length 0))) f
def Vn:=bd (M.call n [a.ng,b.ng] r) g
def Q9:=bd (M.call n [a.ng,b.ng.ng] r) g
def Q_:=bd (pu (eB .sub .no a.ng (.int .i64 E))) f
def Vo:=bd (pu (eB .neq .no a.ng (.str []))) f
def Vp:=bd (fz n r fzD a.ng) f
def Vq:=bd (pu (eB .eql .no a.ng (.str []))) f
def Vr:=bd (aU a.ng true (pu (yy n b.ng (some (.int .i64 E)) none none))) f
def Ls:=bd (pu (eI n a.ng.ng b.ng)) f
def Y_:=bd (ZU [xN false 1 a.ng] r) x
def Jo:=bd (pu (eC r .bh a.ng)) f
def Lt:=bd (pu (eB .lss .no a.ng.ng b.ng.ng)) f
def PJ:=bd (w_ [xN false 1 a.ng] r s) x
def PK:=bd (pu (eB .sub .no a.ng.ng (.int .i64 E))) f
def Vs:=bd (aU a.ng false (pu (eI n b.ng c.ng))) f
def Q':=bd (aU a.ng false (pu (Qau b.ng))) f
def Y':=bd (wS false 1 1 (.int .i64 0) [(0,a.ng.ng.ng)]) f
def Ra:=bd (aU a.ng true (pu (Qai b.ng))) f
def Za:=bd (pu (eB .eql .no a.ng b.ng.ng)) f
def Zb:=bd (aU a.ng true (pu (ZM b.ng))) f
def Rb:=bd (pu (eB .geq .no a.ng.ng b.ng)) f
def Vt:=bd (Qfc M r a.ng.ng [b.ng]) g
def Zc:=bd (aU a.ng true (pu (eB .and .no b.ng (.int .u64 9259542123273814144)))) f
def Zd:=bd (pu (Mo .s r (.bool false) a.ng b.ng.ng.ng false)) f
def Rc:=bd (pu (eF 0 a.ng)) f
def Re:=bd (fz n r fzD .ad) f
def Lu:=bd (aU a false (pu (eL r false 1 b.ng))) f
def Ze:=bd (pu (eB .eql .no a.ng b.ng)) f
def Zf:=bd (pu (eB .eql .no a.ng.ng.ng (.int .i64 E))) f
def Zg:=bd (aU a.ng false (pu (eB .add .no b.ng c.ng))) f
def Vu:=bd (aU a.ng false (pu (eB .eql .no b.ng c.ng))) f
def Vv:=bd (wS false 1 1 (.str []) [(0,a.ng)]) f
def Zh:=bd (aU a.ng true (pu (eB .lss .no b.ng c.ng))) f
def Zi:=bd (aU a.ng true (pu (eB .add .no b.ng c.ng))) f
def Vw:=bd (pu (eB .eql .no a.ng.ng (.int .i64 E))) f
def Zj:=bd (G' false false n m r a b.ng) g
def Zk:=bd (M.call n [a.ng,b.ng.ng,c.ng.ng] r) g
def Rf:=bd (pu (eB .and .no a.ng.ng (.int .u8 E))) f
def Zl:=bd (pu (eB .eql .no a.ng.ng (.int .u8 E))) f
def Vx:=bd (Zy r a.ng) g
def Zm:=bd (fz r.length r fzD (.bool false)) f
def wu:=bd (aU a false (pu (eB .lss .no b.ng c.ng))) f
def Rg:=bd (aU a false (pu (eB .eql .no b.ng c.ng))) f
def Vy:=bd (aU a.ng false (pu (eB .lss .no b.ng (.int .u8 128)))) f
def Zn:=bd (aU a.ng false (pu (eB .lss .no (.int .u8 191) b.ng))) f
def Vz:=bd (pu (mz [(.int .i64 0),(.int .i64 0),(.str []),(.str []),.ad,.ad,(.str [])] [])) f
def VA:=bd (aU a true (pu (eB .gtr .no b.ng c.ng))) f
def Rh:=bd (eC r .bz a.ng.ng) f
def Ri:=bd (aU a true (pu (eB .eql .no b.ng c.ng))) f
def NW:=bd (pu (eB .add .no a.ng.ng b.ng.ng.ng)) f
def Zo:=bd (pu (eB .lss .no a.ng (.int .i64 E))) f
def Zp:=bd (pu (eB .eql .row a.ng.ng .ad)) f
def VC:=bd (aU a.ng true (pu (eB .eql .no b.ng (.int .u64 0)))) f
def VD:=bd (fz r.length r fzD (.int .i64 0)) f
def VE:=bd (pe (eX n a.ng)) f
def VF:=bd (JW .s r a.ng b.ng.ng.ng (.bool true)) g
def Zq:=bd (fz n r fzD a.ng.ng) f
def Ueo:=bd (aU a.ng false (pu (eB .gtr .no b.ng (.int .i64 E)))) f
def Uep:=bd (aU a.ng false (some b.ng.ng.ng)) f
def Ueq:=bd (wS false 1 1 (.int .i64 0) [(0,a.ng.ng)]) f
def Uer:=bd (aU a.ng true (pu (eB .lss .no b.ng (.int .i64 E)))) f
def Ues:=bd (aU a true (pu (eL r false 1 b.ng))) f
def Uet:=bd (pu (eC r (.toInt .i64) a.ng.ng)) f
def Ueu:=bd (pu (eC r (.toInt .u32) a.ng.ng)) f
def Uev:=bd (fO a.ng false (M.call n [b.ng,c.ng] r) r) g
def Uew:=bd (aU a.ng false (pu (ZM b.ng))) f
def Uex:=bd (aU a.ng false (pu (Qai b.ng))) f
def Uey:=bd (aU a.ng false (pu (eF 0 (.ptr r.length 0)))) f
def Uez:=bd (aU a.ng false (pu (eF 1 (.ptr r.length 0)))) f
def Ue0:=bd (pu (eB .rem .no a.ng.ng (.int .i64 64))) f
def Ue1:=bd (M.call 22 [(.int .i64 21),(.int .i64 0)] r) g
def Ue2:=bd (wS false 1 1 (.str []) [(0,a.ng.ng)]) f
def Ue3:=bd (aU a.ng.ng false (some b.ng)) f
end
attribute [go_sem ↓] Y8 Y9 UF UG u3 u9 u6 xu xE E2 v8 xi xj Uaj vX wI yp xy xM yh A4 vt zd Cu yF Cv xb Am yG Uaz GH NK ze CG G4 G5 EB D7 Ji NL Uba GJ Ka Af PA An Ubg Ubh ED E3 CH Lj PB G6 zf Kb D8 PC GK Lk Ll Lm Cw Jj NO Jk Jl Kc Q4 Ln Q5 Lo Kd Vg Fo Q6 Vh E4 Lq NP Q7 Hz Jm Vi PD PE NQ Vj NR PF G7 Lr BM Vk Ke Vl Q8 HA PG Jn GL Vm PH PI NT NU Vn Q9 Q_ Vo Vp Vq Vr Ls Y_ Jo Lt PJ PK Vs Q' Y' Ra Za Zb Rb Vt Zc Zd Rc Re Lu Ze Zf Zg Vu Vv Zh Zi Vw Zj Zk Rf Zl Vx Zm wu Rg Vy Zn Vz VA Rh Ri NW Zo Zp VC VD VE VF Zq Ueo Uep Ueq Uer Ues Uet Ueu Uev Uew Uex Uey Uez Ue0 Ue1 Ue2 Ue3
def nf:=yp z88 z87 λd=> br d.ng (zf z88 z9 8 λe=> Rc e λf=> u9 f I λg=> zf z88 z6 8 λh=> Rc h λi=> u9 i I λj=> Vn g j I 11 M λb=> xb b.1 λa=> xj a z9 λk=> Uep a z88 λl=> Vs a l k 8 λm=> Uaz a m 1 λn=> bd (aU a.ng false (pu (eL b.2 true 7 n.ng))) λo=> xj a z6 λp=> Uep a z88 λq=> Vs a q p 8 λr=> Uaz a r 1 λs=> bd (aU a.ng false (pu (eL b.2 true 7 s.ng))) λt=> Uev a o t b.2 12 M λc=> Lj a c.1 λu=> xE a u λv=> br v.ng (Cw c.2 N λw=> Cu c.2 N λx=> bd (oK false w) (nK S x)) (xy z88 λy=> UF N c.2 [z6,z9,z87,y.ng] r1)) (vX I N λA=> Cu I N λz=> bd (oK false (.bool true)) (nK S z))
def QdP:=M.fx (xS (nf M S N))
def pK:=bd (M.call 4 [] I) λr=> xb r.1 λx1=> br x1.ng (bd (oK false (.bool false)) (nK I.length r.2)) (bd (M.call 5 [a0.ng.ng,(.int .i64 200000)] r.2) λl=> xj l.1 a0 λr=> NT l.1 r l.2 6 M λs=> bd (aU l.1.ng false (pu (eB .geq .no s.1.ng (.int .i64 0)))) λr=> xE l.1 r λl=> br l.ng (bd (oK false (.bool true)) (nK I.length s.2)) (PC a0 s.2 7 M λp=> bd (M.call 8 [a0.ng.ng,p.1.ng.ng.ng] p.2) λq=> Uba q.1 0 λt=> Uba q.1 1 λi=> Uba q.1 2 λu=> Q9 a0 a1 q.2 8 M λa=> Uba a.1 0 λj=> Uba a.1 1 λm=> Uba a.1 2 λk=> Lq u λc=> ED c i λv=> ED c p.1 λw=> Vk c v w λx=> xE c x λb=> ED b m λy=> xj b a1 λz=> bd (aU b.ng false (pu (qC true [z.ng,(.int .i64 0)]))) λA=> Vk b y A λB=> xE b B λC=> br C.ng (bd (oK false (.bool false)) (nK I.length a.2)) (Lq k λD=> br D.ng (bd (M.call 9 [k.ng.ng.ng] a.2) λn=> vt n.1 21 λd=> NK d k λE=> Af d E n.2 10 M λo=> Q8 d o.1 0 λF=> xu d F λe=> NK e j λG=> Ra e G λH=> Q8 e H 0 λJ=> xu e J λf=> E2 f a1 λK=> NK f p.1 λL=> Zh f K L λN=> xu f N λg=> E2 g a1 λO=> NK g i λP=> Zh g O P λQ=> xu g Q λR=> bd (oK false R.ng) (nK I.length o.2)) (PH j λS=> PH t λU=> Kc S U λh=> ED h m λV=> ED h i λX=> PA h V X λb=> xE h b λb=> br b.ng (bd (oK false (.bool false)) (nK I.length a.2)) (PH t λb=> yF t a.2 λc=> yF j a.2 λd=> u3 b a.2 λb=> VD a.2 λe=> QdP M I.length a.2.length [c,d,b,e] a.2)))))
def QaD:bW M p6 [a0,a1] I=pK M a0 a1 I:=vi
def DG:Ev.Fn:=⟨33,[.tmp 0],T,T,(Yq 0 [vY 0] (Yq 1 [Yk 5 (.build [Y0,Yb,Yn,Yn,Y0,Yn,Yb] [(0,1,(Yi 1)),(3,1,(Ys [97]))]),Vee 6 7 5,R0 7 8 6 1000,Yv 4 7,Yx 8 4 0,Yx 9 4 1,Yx 10 4 2,Yv 1 8,Yv 2 9,Yv 3 10] (Yj (.dH 2 [⟨Yv 11 3,0,[]⟩,⟨Yo 12 .eql .bE 11 (.c .bc),1,[]⟩,⟨Yv 13 12,2,[]⟩,⟨⟨some 14,(some (13,true)),.mv 1 T⟩,3,[]⟩,⟨⟨some 15,(some (13,true)),.len 14⟩,4,[]⟩,⟨⟨some 16,(some (13,true)),.bin .eql .no 15 (Yi 2)⟩,5,[]⟩,⟨Yk 17 (.pick 13 16 Yf),6,[]⟩,⟨Yv 18 17,7,[]⟩,⟨⟨some 19,(some (18,true)),.mv 1 T⟩,8,[]⟩,⟨⟨some 20,(some (18,true)),.bT 8 19 (Yi 0)⟩,9,[]⟩,⟨⟨some 21,(some (18,true)),.cu 1 20⟩,10,[]⟩,⟨⟨some 22,(some (18,true)),.cu 3 21⟩,11,[]⟩,⟨⟨some 23,(some (18,true)),.load T 1 22⟩,12,[]⟩,⟨⟨some 24,(some (18,true)),.bin .eql .no 23 (Ys [97])⟩,13,[]⟩,⟨⟨some 25,(some (18,true)),.mv 1 T⟩,14,[]⟩,⟨⟨some 26,(some (18,true)),.bT 8 25 (Yi 1)⟩,15,[]⟩,⟨⟨some 27,(some (18,true)),.cu 1 26⟩,16,[]⟩,⟨⟨some 28,(some (18,true)),.cu 3 27⟩,17,[]⟩,⟨⟨some 29,(some (18,true)),.load T 1 28⟩,18,[]⟩,⟨⟨some 30,(some (18,true)),.bin .eql .no 29 (Ys [97])⟩,19,[]⟩,⟨⟨some 31,(some (18,true)),.bin .neq .bool 24 30⟩,20,[]⟩,⟨Yk 32 (.pick 18 31 Yf),21,[]⟩,⟨Yv 0 32,22,[]⟩]) .ret)))⟩
def z_:=bd (pu (mz [(.int .i64 0),(.bool false),(.str []),(.str []),(.int .i64 0),(.str []),(.bool false)] [(0,1,(.int .i64 1)),(3,1,(.str [97]))])) λs=> bd (wS true 7 1 (.agg [(.int .i64 0),(.bool false),(.str []),(.str []),(.int .i64 0),(.str []),(.bool false)]) [(0,s.ng)]) λx1=> bd (M.call 8 [x1.ng,(.int .i64 1000)] I) λb=> Uba b.1 0 λd=> Uba b.1 1 λx=> Uba b.1 2 λt=> bd (pu (eB .eql .bE t.ng.ng.ng .bc)) λc=> NK c d λu=> Ra c u λv=> Q8 c v 2 λw=> xu c w λa=> NK a d λe=> bd (aU a.ng true (pu (eI 8 (.int .i64 0) e.ng))) λf=> E3 a f 1 λg=> E3 a g 3 λh=> NL a h b.2 λi=> bd (aU a.ng true (pu (eB .eql .no i.ng (.str [97])))) λj=> NK a d λk=> bd (aU a.ng true (pu (eI 8 (.int .i64 1) k.ng))) λl=> E3 a l 1 λm=> E3 a m 3 λn=> NL a n b.2 λo=> bd (aU a.ng true (pu (eB .eql .no o.ng (.str [97])))) λp=> bd (aU a.ng true (pu (eB .neq .bool j.ng p.ng))) λq=> xu a q λr=> bd (oK false r.ng) (nK I.length b.2)
def QaQ:bW M DG [] I=z_ M I:=vi
def z':Ev.Fn:=⟨52,[.tmp 4],T,T,(Yq 0 [vY 4] (Yj (Yq 1 [vJ 5] (.block 0 (.loop [0,1,5] [0,1,4] [] (Yj (Yq 2 [Yv 6 5,YR 7,Yh 8 7,Ak 9 6 8] (Yz 9 .skip (.exit 0))) (Yj (.block 1 (Yq 4 [YR 12,Yv 13 5,Ye 14 7 12 13,Ya 15 2 14,vj 16 15,Y4 17 16,YZ 18 17 20,Yv 19 18,xD 20 19 0,xD 21 19 5,E0 22 19 7 20 21,wz 23 19 3 22,Aj 24 19 23,Vc2 25 19 24,J5 26 19 25 20,NC 27 19 26,Yv 28 27,xD 29 28 0,xD 30 28 5,E0 31 28 7 29 30,wz 32 28 4 31,wz 33 28 1 32,Aj 34 28 33,Vc2 35 28 34,J5 36 28 35 6,NC 37 28 36] (Ym 37 5 [oA 4]))) (vf 3 [Yv 10 5,vV 11 10,Yv 5 11])))))) (Yr 6 [YR 38,Yh 39 38,YZ 40 39 10,Yv 41 40,xD 42 41 0,QZ 43 41 6 42,⟨some 44,(some (41,T)),.bin .lss .no 43 (Yi 0)⟩,xD 45 41 44,⟨some 46,(some (45,true)),.mv 0 true⟩,yi 47 45 7 46,xC 48 45 1,Vea 49 45 47 48,wC 50 41 45 49,NC 51 41 50,Yv 4 51])))⟩
def QeJ:=wI Q λO=> A4 z5 O λx1=> br x1.ng (GH z5 Q 7 λP=> xi P 2 λR=> u9 R I λU=> bd (pu (ZM U.ng)) λV=> Q4 V 20 λe=> xj e Q λX=> xj e z5 λO=> Vs e O X 7 λO=> Uaz e O 3 λj=> xM e j I λk=> Uew e k λl=> Ueo e l 20 λm=> xE e m λa=> xj a Q λn=> xj a z5 λo=> Vs a o n 7 λp=> Uaz a p 4 λq=> Uaz a q 1 λr=> xM a r I λs=> Uew a s λt=> Ueo a t 6 λu=> xE a u λv=> br v.ng (u6 Q I N λa=> u6 z1 I N λa=> Ke I N λw=> Cu I N λx=> bd (oK false w) (nK S x)) (yh z5 λy=> UF N I [Q,z1,y.ng] r1)) (u6 Q I N λf=> u6 z1 I N λg=> vX I N λa=> Cu I N λz=> wI f λA=> Q4 A 10 λc=> xj c f λB=> NT c B z 6 M λd=> bd (aU c.ng false (pu (eB .lss .no d.1.ng (.int .i64 0)))) λC=> xj c C λb=> gd b true (bd (fO b true (M.call 7 [f.ng] d.2) d.2) λh=> GK b g λD=> VA b h.1 D λE=> PD c b E λF=> xE c F λG=> bd (oK false G.ng) (nK S h.2)) (bd (fO b true (M.call 7 [.undef] d.2) d.2) λi=> GK b g λH=> VA b i.1 H λJ=> PD c b J λK=> xE c K λL=> bd (oK false L.ng) (nK S i.2)))
def nO:=M.fx (xa (QeJ M S N))
def Ec:=u3 a0 I λa=> u3 a1 I λb=> VD I λc=> nO M I.length I.length [a,b,c] I
def Ao:Ev.Fn:=⟨54,[.tmp 2],T,T,(Yq 0 [vJ 2] (Yj (Yq 1 [vJ 3] (.block 0 (.loop [0,3] [2] [] (Yj (Yq 2 [Yv 6 3,YR 7,Yh 8 7,Ak 9 6 8] (Yz 9 .skip (.exit 0))) (Yj (.block 1 (Yq 4 [YR 12,Yv 13 3,Ye 14 7 12 13,Jh 15 7 14,u' 4,J4 7 4 15] (Yq 5 [Ya 16 2 4,vj 17 16,NH 18 13 17,Yv 19 18,J2 20 19 4 4,J2 21 19 1 20,GB 22 19 21,yi 23 19 13 22,Fl 24 19 23,Yv 25 24,J2 26 25 3 4,GB 27 25 26,yi 28 25 13 27,Fl 29 25 28,Yv 5 29] (Yj (Yq 6 [Vdr 30 4,vj 31 30,Hx 32 31 2] (Yz 32 (vf 7 [Yv 33 5,Yv 34 33,J2 35 34 3 4,GB 36 34 35,Vds 37 34 36,Fl 38 34 37,Yv 5 38]) (Yq 8 [Vdr 39 4,vj 40 39,Hx 41 40 3] (Yz 41 (vf 9 [Yv 42 5,Yv 43 42,J2 44 43 3 4,GB 45 43 44,yi 46 43 14 45,Fl 47 43 46,Yv 5 47]) (Yq 10 [Vdr 48 4,vj 49 48,Yo 50 .neq .no 49 (Yi 1)] (Yz 50 (vf 11 [vY 5]) .skip)))))) (Yq 12 [Yv 51 5,CX 52 51] (Ym 52 13 [Yv 53 3,Yv 2 53])))))) (vf 3 [Yv 10 3,vV 11 10,Yv 3 11])))))) (Yr 14 [J9 2])))⟩
def QdM(M:ah)(S:Nat)(N:Nat)(r1:Rk)(Q z3 z5:V)(I:hN):Ro:=bd (pu (fk .not z5.ng.ng)) λa=> br a.ng (Zq z3 I N λb=> Cu I N λc=> bd (oK false b) (nK S c)) (yh z3 λd=> UF N I [Q,d.ng] r1)
def QdN:=wI Q λC=> A4 z3 C λx1=> br x1.ng (GH z3 Q 7 λD=> zd D I 7 λE=>
 let F:hN:=I++[.cells [(.int .i64 0),(.bool false),(.str []),(.str []),(.int .i64 0),(.str []),(.bool false)]]
 CG E F I 7 0 λB=> Vi I 2 0 λG=> u9 G B.2 λH=> D7 H B.2 13 M λd=> bd (aU d.1.ng true (pu (eF 4 (.ptr I.length 0)))) λJ=> E3 d.1 J 1 λg=> NL d.1 g d.2 λh=> Af d.1 h d.2 13 M λe=> xu d.1 e.1 λc=> bd (aU c.ng true (pu (eF 3 (.ptr I.length 0)))) λi=> NL c i e.2 λj=> Af c j e.2 13 M λa=> xu c a.1 λb=> NU I λk=> u9 k a.2 λl=> vt l 2 λm=> br m.ng (bd (aU b.ng.ng.ng true (pu (eF 3 (.ptr I.length 0)))) λn=> bd (aU b.ng.ng.ng true (pu (eL a.2 false 1 n.ng))) λo=> bd (aU b.ng.ng.ng true (pu (eB .neq .no o.ng (.str [])))) λp=> Lr b p λq=> QdM M S N r1 Q z3 q.ng a.2) (NU I λr=> u9 r a.2 λs=> vt s 3 λt=> br t.ng (bd (aU b.ng.ng.ng true (pu (eF 3 (.ptr I.length 0)))) λu=> bd (aU b.ng.ng.ng true (pu (eL a.2 false 1 u.ng))) λv=> bd (fO b.ng.ng.ng true (M.call 14 [v.ng] a.2) a.2) λf=> Lr b f.1 λw=> QdM M S N r1 Q z3 w.ng f.2) (NU I λx=> u9 x a.2 λy=> bd (pu (eB .neq .no y.ng (.int .i64 1))) λz=> br z.ng (QdM M S N r1 Q z3 (.bool false) a.2) (QdM M S N r1 Q z3 b.ng a.2)))) (vX I N λK=> Cu I N λA=> bd (oK false (.int .i64 (-1))) (nK S A))
def oB:=M.fx (AY (QdN M S N))
def E5:=u3 a0 I λa=> VD I λb=> oB M I.length I.length [a,b] I
def Au:Ev.Fn:=⟨96,[.tmp 2],T,T,(Yq 0 [vJ 2] (Yj (Yq 1 [YR 14,NH 15 6 14,YT 16 15] (Ym 16 2 [vJ 2])) (Yq 3 [Va 17,Lh 3 1,vJ 4,Yu 5 17] (Yq 4 [Va 18,Va 19,Yu 6 18,Yu 7 19,vY 8] (Yj (Yq 5 [vJ 9] (.block 0 (.loop [0,3,4,5,6,7,8,9] [2,3,4,6,7,8] [] (Yj (Yq 6 [Yv 20 9,YR 21,Yh 22 21,Ak 23 20 22] (Yz 23 .skip (.exit 0))) (Yj (.block 1 (Yq 8 [YR 26,Yv 27 9,Ye 28 7 26 27,Jh 29 7 28,u' 10,J4 7 10 29] (Yj (Yq 9 [Vdr 30 10,vj 31 30,Hx 32 31 1] (Yz 32 (Yq 10 [oA 8] (Yj (Yq 11 [Ya 33 3 10,vj 34 33,Y6 35 34] (Yz 35 (vf 12 [Yu 36 6,Ya 37 3 10,vj 38 37,YS 39 15 36 38,Yu 6 39]) .skip)) (Yj (Yq 13 [Ya 40 1 10,vj 41 40] (Yz 41 (vf 14 [Yu 42 7,Ya 43 2 10,vj 44 43,YS 45 15 42 44,Yu 7 45]) .skip)) (.exit 1)))) .skip)) (Yq 15 [Ya 46 3 10,vj 47 46,Vdo 48 115 47,Yv 11 48] (Yj (Yq 16 [Vdr 49 10,vj 50 49,Hx 51 50 2] (Yz 51 (vf 17 [Ya 52 3 10,vj 53 52,Vdo 54 97 53,Yv 11 54]) .skip)) (Yj (Yq 18 [Yv 55 5,Yv 56 11,YS 57 16 55 56] (Yz 57 (.exit 1) .skip)) (Yq 19 [Yu 58 5,Yv 59 11,Ps 60 59,Q0 61 16 58 60,Yu 5 61] (Yj (Yq 20 [Vdr 62 10,vj 63 62,Hx 64 63 3] (Yz 64 (Yq 21 [Yv 65 3,R0 66 17 65 2,Yv 3 66] (.exit 1)) .skip)) (Yq 22 [YR 68,Ya 69 3 10,vj 70 69,YS 71 18 68 70,Yv 67 71,Yx 72 67 0,Yx 73 67 1,Yv 12 72,Yv 13 73] (Yq 23 [Yv 74 3,Yv 75 12,YS 76 17 74 75,Yv 3 76] (vf 24 [Yv 77 4,Yv 78 13,YS 79 19 77 78,Yv 4 79]))))))))))) (vf 7 [Yv 24 9,vV 25 24,Yv 9 25])))))) (Yj (Yq 25 [Yv 80 8] (Yz 80 (vf 26 [Yv 81 3,Yu 82 6,Yh 83 82,vV 84 83,Yu 85 7,Yh 86 85,vV 87 86,YS 88 17 84 87,YS 89 17 81 88,Yv 3 89]) .skip)) (Yr 27 [Yv 90 3,Yc 91 17 [(Yi 4),90],Yv 92 4,Yc 93 17 [(Yi 2),92],YS 94 19 91 93,R0 95 19 94 1,Yv 2 95])))))))⟩
def QeH(M:ah)(S:Nat)(N:Nat)(r1:Rk)(Q z3 z4 z5 z6 z7 z8 z9:V)(I:hN):Ro:=yh z9 λa=> UF N I [Q,z3,z4,z5,z6,z7,z8,a.ng] r1
def mW:=QeH M S N r1 Q z3 z4 z5 z6 z7 z8 z9 I
def mY:=xi z10 1 λb=> u9 b I λc=> br c.ng (xi z10 2 λd=> u9 d I λe=> Vn z7 e I 15 M λa=> mW M S N r1 Q z3 z4 z5 z6 a.1 z8 z9 a.2) (mW M S N r1 Q z3 z4 z5 z6 z7 z8 z9 I)
def mZ:=Q5 z5 z11 I 16 M λa=> br a.1.ng (QeH M S N r1 Q z3 z4 z5 z6 z7 z8 z9 a.2) (Ue2 z11 λg=> Lk z5 g a.2 1 16 λc=> Rc z10 λh=> u9 h a.2 λi=> vt i 3 λj=> br j.ng (bd (M.call 17 [z3.ng.ng,(.int .i64 2)] a.2) λd=> QeH M S N r1 Q d.1.ng z4 c z6 z7 z8 z9 d.2) (xi z10 3 λk=> u9 k a.2 λl=> NQ Q l a.2 18 M λb=> Uba b.1 0 λm=> Uba b.1 1 λn=> bd (M.call 17 [z3.ng.ng,m.ng.ng.ng] b.2) λe=> bd (M.call 19 [z4.ng.ng,n.ng.ng.ng] e.2) λf=> QeH M S N r1 Q e.1.ng f.1.ng c z6 z7 z8 z9 f.2))
def m4:=bd (M.call 17 [(.int .i64 4),z3.ng.ng] I) λa=> bd (M.call 17 [(.int .i64 2),z4.ng.ng] a.2) λb=> Vn a.1 b.1 b.2 19 M λc=> bd (M.call 19 [c.1.ng,(.int .i64 1)] c.2) λd=> bd (oK false d.1.ng) (nK S d.2)
def QeK:=wI Q λJ=> A4 z9 J λK=> br K.ng (GH z9 Q 7 λh=> zd h I 7 λi=>
 let j:hN:=I++[.cells [(.int .i64 0),(.bool false),(.str []),(.str []),(.int .i64 0),(.str []),(.bool false)]]
 CG i j I 7 0 λa=> NU I λk=> u9 k a.2 λl=> vt l 1 λm=> br m.ng (Vi I 3 0 λn=> u9 n a.2 λo=> Vo o λp=> br p.ng (Vi I 3 0 λq=> u9 q a.2 λr=> Vn z6 r a.2 15 M λb=> mY M S N r1 Q z3 z4 z5 b.1 z7 (.bool true) z9 (.ptr I.length 0) b.2) (mY M S N r1 Q z3 z4 z5 z6 z7 (.bool true) z9 (.ptr I.length 0) a.2)) (Vi I 3 0 λs=> u9 s a.2 λt=> bd (pu (eB .add .no (.str [115]) t.ng)) λu=> NU I λv=> u9 v a.2 λw=> vt w 2 λx=> br x.ng (Vi I 3 0 λy=> u9 y a.2 λz=> bd (pu (eB .add .no (.str [97]) z.ng)) λA=> mZ M S N r1 Q z3 z4 z5 z6 z7 z8 z9 (.ptr I.length 0) A.ng a.2) (mZ M S N r1 Q z3 z4 z5 z6 z7 z8 z9 (.ptr I.length 0) u.ng a.2))) (vX I N λL=> u6 z3 I N λc=> u6 z4 I N λd=> u6 z6 I N λB=> u6 z7 I N λC=> u6 z8 I N λD=> Cu I N λe=> br D.ng.ng (Cv B λE=> xy E λF=> Cv C λG=> xy G λH=> Vn F H e 17 M λf=> NQ c f.1 f.2 17 M λg=> m4 M S g.1.ng d g.2) (m4 M S c d e))
def nQ:=M.fx (GF (QeK M S N))
def E8:=PC a0 I 6 M λa=> Vj a.1 λx1=> br x1.ng (bd (oK false (.int .i64 0)) (nK I.length a.2)) (BM λj=> BM λk=> BM λl=> u3 a0 a.2 λb=> v8 a.2 1 λc=> VD a.2 λd=> u3 j a.2 λe=> u3 k a.2 λf=> u3 l a.2 λg=> Zm a.2 λh=> VD a.2 λi=> nQ M I.length a.2.length [b,c,d,e,f,g,h,i] a.2)
def Eh:Ev.Fn:=⟨94,[.tmp 4,.tmp 5,.tmp 6],T,T,(Yq 0 [xR 4,vJ 5,Y1 6] (Yj (Yq 1 [YR 17,NH 18 20 17,Yv 7 18] (Yq 2 [Yv 19 7,J8 20 19] (Ym 20 3 [Yv 21 7,xR 4,vJ 5,Yv 6 21]))) (Yq 4 [YR 22,Vb2 23,Yk 24 (.build [.ad,Y0,Y0,Yb] [(0,1,22),(2,1,23)]),Yk 25 (.box 24),Yv 8 25] (Yq 5 [Yk 26 (.build [Y0,Y0,Yn,Yn,.ad,.ad,Yn] [(0,1,(Yi (-1))),(1,1,(Yi 1)),(3,1,(Ys [111]))]),ND 27 7 26,Yu 9 27] (Yj (Yq 6 [Yv 28 8,NH 29 21 28,CX 30 29] (Yz 30 (Yj (.dH 7 [⟨Yv 31 8,0,[]⟩,⟨Yk 32 (.dh 31),1,[]⟩,⟨Ya 33 1 32,2,[]⟩,⟨Yl 34 T 1 33,3,[]⟩,⟨Yc 35 22 [(Yi 21),(Yi 0)],4,[3]⟩,⟨Yv 4 (.c .ad),5,[]⟩,⟨Yv 5 34,6,[]⟩,⟨Yv 6 35,7,[]⟩]) .ret) .skip)) (Yj (Yq 8 [YR 36,NH 37 23 36,Yh 38 37,vJ 39] (.block 0 (.loop [0,4,8,9,37,38,39] [0,4,5,6,8,9] [] (Yq 9 [Ak 40 39 38] (Yj (Yz 40 .skip (.exit 0)) (Yj (.block 1 (Yq 10 [Ye 41 3 37 39,Jh 42 3 41,Yk 11 (.alloc [Y0,Yn,.ad]),J4 3 11 42] (Yq 11 [Yv 43 8,Yu 44 9,Yv 45 8,Jh 46 3 11,YS 47 25 45 46,BL 48 24 43 44 47,Yu 9 48] (Yq 12 [Yv 49 8,yX 50 49,Ya 51 3 50,vj 52 51] (Yz 52 (Yj (.dH 13 [⟨Yv 53 8,0,[]⟩,⟨Yk 54 (.dh 53),1,[]⟩,⟨Ya 55 1 54,2,[]⟩,⟨Yl 56 T 1 55,3,[]⟩,⟨Yc 57 22 [(Yi 21),(Yi 0)],4,[3]⟩,⟨Yv 4 (.c .ad),5,[]⟩,⟨Yv 5 56,6,[]⟩,⟨Yv 6 57,7,[]⟩]) .ret) .skip))))) (vf 14 [vV 58 39,Yv 39 58]))))))) (Yj (Yq 15 [Yu 59 9,Yh 60 59,vJ 61] (.block 2 (.loop [0,4,8,59,60,61] [4,5,6,8] [] (Yq 16 [Ak 62 61 60] (Yj (Yz 62 .skip (.exit 2)) (Yj (.block 3 (Yq 17 [Ye 63 7 59 61,Jh 64 7 63,Po 13,J4 7 13 64] (Yq 18 [YR 65,Yh 66 65,Vd7 67 66 66,Yu 14 67] (Yj (Yq 19 [YR 68,Yh 69 68,vJ 70] (.block 4 (.loop [0,4,8,13,14,59,60,61,68,69,70] [0,4,5,6,8,13,14,59,60,61] [] (Yq 20 [Ak 71 70 69] (Yj (Yz 71 .skip (.exit 4)) (Yj (.block 5 (Yq 21 [Yv 72 70,Ye 73 7 68 70,Jh 74 7 73,u' 16,Yv 15 72,J4 7 16 74] (vf 22 [Yv 75 14,Yv 76 15,Jh 77 7 16,Jh 78 7 13,YS 79 26 77 78,mT 80 75 76,J4 1 80 79]))) (vf 23 [vV 81 70,Yv 70 81]))))))) (vf 24 [Yu 82 4,Yu 83 14,Jh 84 7 13,Yk 85 (.build [.ad,Y0,Y0,Yn,Yn,.ad,.ad,Yn] [(0,1,83),(1,7,84)]),Vd3 86 8 85,wY 87 8 136 82 86,Yu 4 87]))))) (vf 25 [vV 88 61,Yv 61 88]))))))) (Yj (.dH 26 [⟨Yu 89 4,0,[]⟩,⟨Yv 90 8,1,[]⟩,⟨Yk 91 (.dh 90),2,[]⟩,⟨Ya 92 1 91,3,[]⟩,⟨Yl 93 T 1 92,4,[]⟩,⟨Yu 4 89,5,[]⟩,⟨Yv 5 93,6,[]⟩,⟨Yv 6 (.c .bc),7,[]⟩]) .ret))))))))⟩
def nU(M:ah)(S:Nat)(N:Nat)(r1:Rk)(n2:Nat)(r2:Rk)(Q z4 z8 z13 z14 z59 z60 z61 d e a:V)(I:hN):Ro:=yp a e λk=> br k.ng (Ubh a d 7 λl=> zd l I 7 λm=>
 let n:hN:=I++[.cells [(.int .i64 0),(.bool false),(.str []),(.str []),(.int .i64 0),(.str []),(.bool false)]]
 CG m n I 7 0 λb=> G6 b.2 I 7 0 λo=> zd z13 b.2 7 λp=> Vn o p b.2 26 M λf=> zf a z14 1 λq=> Ka q f.1 f.2 1 λr=> xy a λs=> UF n2 r.2 [Q,z4,z8,z13,z14,z59,z60,z61,d,e,s.ng] r2) (u6 Q I n2 λt=> u6 z4 I n2 λu=> vX I n2 λC=> vX I n2 λD=> u6 z8 I n2 λv=> u6 z13 I n2 λw=> u6 z14 I n2 λx=> u6 z59 I n2 λy=> u6 z60 I n2 λz=> u6 z61 I n2 λA=> Cu I n2 λc=> zd w c 7 λB=> bd (pu (mz [.ad,(.int .i64 0),(.int .i64 0),(.str []),(.str []),.ad,.ad,(.str [])] [(0,1,x.ng),(1,7,B.ng)])) λg=> bd (wS true 8 1 (.agg [.ad,(.int .i64 0),(.int .i64 0),(.str []),(.str []),.ad,.ad,(.str [])]) [(0,g.ng)]) λh=> Jl u h c 8 136 λi=> xy A λj=> UF N c [t,i,v,y,z,j.ng] r1)
def nW:=M.fx (C9 (nU M S N r1 n2))
def nZ:=yp z61 z60 λt=> br t.ng (Ubh z61 z59 7 λu=> zd u I 7 λv=>
 let w:hN:=I++[.cells [(.int .i64 0),(.int .i64 0),(.str []),(.str []),.ad,.ad,(.str [])]]
 CG v w I 7 0 λx=> wI Q λc=> bd (ej false 1 1 (.bool false) c.ng c.ng x.2) λa=> wI Q λy=> u3 Q a.2 λd=> u3 z4 a.2 λe=> u3 z8 a.2 λf=> Lo a.2 I λg=> u3 a.1 a.2 λh=> u3 z59 a.2 λi=> u3 z60 a.2 λj=> u3 z61 a.2 λk=> yF Q a.2 λl=> u3 y a.2 λm=> VD a.2 λn=> nW M S N r1 a.2.length [d,e,f,g,h,i,j,k,l,m,n] a.2) (u6 z4 I N λo=> vX I N λz=> vX I N λA=> u6 z8 I N λp=> Cu I N λb=> Uaj p λq=> xi q 1 λr=> u9 r b λs=> nK S b (.aR [V.aI o,V.aI s.ng,V.aI .bc]))
def mH:=M.fx (Al (nZ M S N))
def zQ:=yp z39 z38 λo=> br o.ng (Ubh z39 z37 3 λp=> zd p I 3 λq=>
 let r:hN:=I++[.cells [(.int .i64 0),(.str []),.ad]]
 CG q r I 3 0 λe=> G6 e.2 I 3 0 λs=> NQ z8 s e.2 25 M λf=> bd (M.call 24 [z8.ng.ng,z9.ng,f.1.ng] f.2) λb=> Uaj z8 λt=> xi t 3 λu=> u9 u b.2 λv=> br v.ng (Uaj z8 λw=> xi w 1 λd=> u9 d b.2 λx=> Y_ d b.2 λy=> Ue1 y M λg=> PJ d b.2 g.2 λc=> u6 Q c N λJ=> Re c N λz=> Vp x c N λA=> Vp g.1 c N λB=> u6 z8 c N λK=> u6 b.1 c N λL=> Cu c N λC=> nK S C (.aR [V.aI z,V.aI A,V.aI B])) (xy z39 λD=> UF N b.2 [Q,z4,z8,b.1,z37,z38,D.ng] r1)) (u6 Q I N λE=> u6 z4 I N λF=> vX I N λO=> vX I N λP=> u6 z8 I N λG=> u6 z9 I N λh=> Cu I N λa=> Cv h λH=> u3 E a λi=> u3 F a λj=> u3 G a λk=> u3 h a λl=> u3 H a λm=> VD a λn=> mH M S a.length [i,j,k,l,m,n] a)
def BE:=M.fx (E1 (zQ M S N))
def FB:=PC a0 I 20 M λk=> Lq k.1 λx1=> br x1.ng (nK I.length k.2 (.aR [V.aI .ad,V.aI (.int .i64 0),V.aI k.1.ng.ng.ng])) (bd (pu (mz [.ad,(.int .i64 0),(.int .i64 0),(.bool false)] [(0,1,a0.ng.ng),(2,1,a1.ng.ng)])) λr=> Am r k.2 λl=> bd (pu (mz [(.int .i64 0),(.int .i64 0),(.str []),(.str []),.ad,.ad,(.str [])] [(0,1,(.int .i64 (-1))),(1,1,(.int .i64 1)),(3,1,(.str [111]))])) λs=> G4 s λt=> bd (M.call 21 [l.1.ng.ng.ng] l.2) λb=> xb b.1 λu=> br u.ng (bd (pu (Qau l.1.ng.ng.ng)) λv=> xi v 1 λm=> u9 m b.2 λn=> Y_ m b.2 λo=> Ue1 o M λc=> PJ m b.2 c.2 λp=> nK I.length p (.aR [V.aI .ad,V.aI n.ng,V.aI c.1.ng])) (PC a0 b.2 23 M λa=> Cv a.1 λq=> u3 a0 a.2 λd=> G5 a.2 λe=> yF l.1 a.2 λf=> u3 t a.2 λg=> u3 a.1 a.2 λh=> u3 q a.2 λi=> VD a.2 λj=> BE M I.length a.2.length [d,e,f,g,h,i,j] a.2))
def Mg:bW M Eh [a0,a1] I=FB M a0 a1 I:=vi
def AD:Ev.Fn:=⟨26,[.tmp 4],T,T,(Yq 0 [vY 4] (Yj (Yq 1 [YR 6,Yh 7 6,Vb2 8,Yh 9 8,Vdv 10 7 9] (Ym 10 2 [vY 4])) (Yj (Yq 3 [vJ 5] (.block 0 (.loop [0,1,5] [4] [] (Yj (Yq 4 [Yv 11 5,YR 12,Yh 13 12,Ak 14 11 13] (Yz 14 .skip (.exit 0))) (Yj (.block 1 (Yj (.dH 6 [⟨Yv 17 0,0,[]⟩,⟨Yv 18 5,1,[]⟩,⟨Ye 19 1 17 18,2,[]⟩,⟨Yl 20 T 1 19,3,[]⟩,⟨Yv 21 1,4,[]⟩,⟨Yv 22 5,5,[]⟩,⟨Ye 23 1 21 22,6,[]⟩,⟨Yl 24 T 1 23,7,[]⟩,⟨Yo 25 .neq .bool 20 24,8,[]⟩]) (Ym 25 7 [vY 4]))) (vf 5 [Yv 15 5,vV 16 15,Yv 5 16])))))) (Yr 8 [oA 4]))))⟩
def oC(M:ah)(S:Nat)(N:Nat)(r1:Rk)(Q z1 z5:V)(I:hN):Ro:=wI Q λe=> A4 z5 e λf=> br f.ng (GH z5 Q 1 λg=> u9 g I λh=> GH z5 z1 1 λi=> u9 i I λj=> bd (pu (eB .neq .bool h.ng j.ng)) λk=> br k.ng (Cw I N λa=> Cu I N λb=> bd (oK false a) (nK S b)) (yh z5 λc=> UF N I [Q,z1,c.ng] r1)) (vX I N λl=> Cu I N λd=> bd (oK false (.bool true)) (nK S d))
def oD:=M.fx (xa (oC M S N))
def E9:=wI a0 λd=> wI a1 λx1=> Kc d x1 λe=> br e.ng (bd (oK false (.bool false)) (nK I.length I)) (u3 a0 I λa=> u3 a1 I λb=> VD I λc=> oD M I.length I.length [a,b,c] I)
def AE:Ev.Fn:=⟨74,[.tmp 4],T,T,(Yq 0 [Vb 2,Ch 3,vY 4] (Yj (Yq 1 [Vdr 6 2,vj 7 6,Vdr 8 3,vj 9 8,Vdv 10 7 9,Yv 11 10,wz 12 11 1 2,Aj 13 11 12,wz 14 11 1 3,Aj 15 11 14,Fm 16 11 13 15,NC 17 11 16,Yv 18 17,wz 19 18 2 2,Aj 20 18 19,wz 21 18 2 3,Aj 22 18 21,Fm 23 18 20 22,NC 24 18 23,Yv 25 24,wz 26 25 3 2,Aj 27 25 26,wz 28 25 3 3,Aj 29 25 28,Fm 30 25 27 29,NC 31 25 30,Yv 32 31,wz 33 32 6 2,Aj 34 32 33,wz 35 32 6 3,Aj 36 32 35,Fm 37 32 34 36,NC 38 32 37,Yv 39 38,wz 40 39 4 2,Aj 41 39 40,Y5 42 39 41,wz 43 39 4 3,Aj 44 39 43,Y5 45 39 44,Fm 46 39 42 45,NC 47 39 46,Yv 48 47,wz 49 48 5 2,Aj 50 48 49,wz 51 48 5 3,Aj 52 48 51,Q3 53 48 28 50 52,Q2 54 48 53,NC 55 48 54] (Ym 55 2 [vY 4])) (Yj (Yq 3 [vJ 5] (.block 0 (.loop [2,3,5] [4] [] (Yj (Yq 4 [Yv 56 5,Ya 57 4 2,vj 58 57,Yh 59 58,Ak 60 56 59] (Yz 60 .skip (.exit 0))) (Yj (.block 1 (Yj (.dH 6 [⟨Ya 63 4 2,0,[]⟩,⟨Yl 64 T 1 63,1,[]⟩,⟨Yv 65 5,2,[]⟩,⟨Ye 66 3 64 65,3,[]⟩,⟨Yl 67 true 3 66,4,[]⟩,⟨Ya 68 4 3,5,[]⟩,⟨Yl 69 T 1 68,6,[]⟩,⟨Yv 70 5,7,[]⟩,⟨Ye 71 3 69 70,8,[]⟩,⟨Yl 72 true 3 71,9,[]⟩,⟨Yo 73 .neq (.agg [.s,.s,.s]) 67 72,10,[]⟩]) (Ym 73 7 [vY 4]))) (vf 5 [Yv 61 5,vV 62 61,Yv 5 62])))))) (Yr 8 [oA 4]))))⟩
def oE(M:ah)(S:Nat)(N:Nat)(r1:Rk)(a z3 z5:V)(I:hN):Ro:=xi a 4 λb=> u9 b I λc=> Cv c λd=> A4 z5 d λe=> br e.ng (xi a 4 λf=> u9 f I λg=> Ls z5 g 3 λh=> zd h I 3 λi=> xi z3 4 λj=> u9 j I λk=> Ls z5 k 3 λl=> zd l I 3 λm=> bd (pu (eB .neq (.agg [.s,.s,.s]) i.ng m.ng)) λn=> br n.ng (Cw I N λo=> Cu I N λp=> bd (oK false o) (nK S p)) (yh z5 λq=> UF N I [a,z3,q.ng] r1)) (vX I N λs=> Cu I N λr=> bd (oK false (.bool true)) (nK S r))
def oF:=M.fx (xa (oE M S N))
def FD:=Am a0 I λh=> Am a1 h.2 λa=> Rc h.1 λS=> u9 S a.2 λU=> Rc a.1 λV=> u9 V a.2 λX=> Kc U X λi=> Uaz i h.1 1 λS=> xM i S a.2 λS=> Uaz i a.1 1 λU=> xM i U a.2 λj=> PA i S j λk=> xE i k λe=> Uaz e h.1 2 λl=> xM e l a.2 λm=> Uaz e a.1 2 λn=> xM e n a.2 λo=> PA e m o λp=> xE e p λf=> Uaz f h.1 3 λq=> xM f q a.2 λr=> Uaz f a.1 3 λs=> xM f s a.2 λt=> PA f r t λu=> xE f u λg=> Uaz g h.1 6 λv=> xM g v a.2 λw=> Uaz g a.1 6 λx=> xM g x a.2 λy=> PA g w y λz=> xE g z λb=> Uaz b h.1 4 λA=> xM b A a.2 λB=> Uex b B λC=> Uaz b a.1 4 λD=> xM b D a.2 λE=> Uex b E λF=> PA b C F λG=> xE b G λc=> Uaz c h.1 5 λH=> xM c H a.2 λJ=> Uaz c a.1 5 λK=> xM c K a.2 λL=> Uev c J L a.2 28 M λd=> Lj c d.1 λN=> xE c N λO=> br O.ng (bd (oK false (.bool false)) (nK I.length d.2)) (u3 h.1 d.2 λP=> u3 a.1 d.2 λQ=> VD d.2 λR=> oF M I.length d.2.length [P,Q,R] d.2)
def FE:Ev.Fn:=⟨6,[.tmp 2],T,T,(Yq 0 [vY 2] (Yr 1 [YR 3,Vcd 4 3,NH 5 29 4,Yv 2 5]))⟩
def FM:=Rh a0 I λb=> D7 b I 29 M λa=> bd (oK false a.1.ng) (nK I.length a.2)
def FP:Ev.Fn:=⟨6,[.tmp 2],T,T,(Yq 0 [vY 2] (Yq 1 [Yk 3 (.aw T 1 10 Yn [(0,(Ys [104,111,118,101,114])),(1,(Ys [97,99,116,105,118,101])),(2,(Ys [102,111,99,117,115])),(3,(Ys [102,111,99,117,115,45,118,105,115,105,98,108,101])),(4,(Ys [118,105,115,105,116,101,100])),(5,(Ys [108,105,110,107])),(6,(Ys [99,104,101,99,107,101,100])),(7,(Ys [100,105,115,97,98,108,101,100])),(8,(Ys [101,110,97,98,108,101,100])),(9,(Ys [116,97,114,103,101,116]))] T),YR 4,YS 5 16 3 4,Yv 2 5] .ret))⟩
def FQ:=bd (wS false 1 10 (.str []) [(0,(.str [104,111,118,101,114])),(1,(.str [97,99,116,105,118,101])),(2,(.str [102,111,99,117,115])),(3,(.str [102,111,99,117,115,45,118,105,115,105,98,108,101])),(4,(.str [118,105,115,105,116,101,100])),(5,(.str [108,105,110,107])),(6,(.str [99,104,101,99,107,101,100])),(7,(.str [100,105,115,97,98,108,101,100])),(8,(.str [101,110,97,98,108,101,100])),(9,(.str [116,97,114,103,101,116]))]) λb=> Q9 b a0 I 16 M λa=> bd (oK false a.1.ng) (nK I.length a.2)
def FU:Ev.Fn:=⟨15,[.tmp 4],T,T,(Yq 0 [xR 4] (Yj (Yq 1 [YR 5,Vb2 6,YS 7 16 5 6] (Ym 7 2 [mA 8,Yu 4 8])) (Yr 3 [Va 9,mA 10,Q0 11 16 9 10,Vb2 12,Ps 13 12,Q0 14 16 11 13,Yu 4 14])))⟩
def qm:=Q5 a0 a1 I 16 M λa=> br a.1.ng (bd (oK false a0) (nK I.length a.2)) (BM λx1=> Lk x1 a0 a.2 1 16 λb=> Ue2 a1 λc=> Lk b c a.2 1 16 λd=> bd (oK false d) (nK I.length a.2))
def AN:Ev.Fn:=⟨18,[.tmp 4],T,T,(Yq 0 [vY 4] (Yj (Yq 1 [vJ 5] (.block 0 (.loop [0,1,5] [4] [] (Yj (Yq 2 [Yv 6 5,YR 7,Yh 8 7,Ak 9 6 8] (Yz 9 .skip (.exit 0))) (Yj (.block 1 (Yq 4 [YR 12,Yv 13 5,mT 14 12 13,vj 15 14,Vb2 16,NF 17 15 16] (Ym 17 5 [oA 4]))) (vf 3 [Yv 10 5,vV 11 10,Yv 5 11])))))) (Yr 6 [vY 4])))⟩
def n7(M:ah)(S:Nat)(N:Nat)(r1:Rk)(Q z1 z5:V)(I:hN):Ro:=wI Q λb=> A4 z5 b λx1=> br x1.ng (GH z5 Q 1 λc=> u9 c I λd=> Za d z1 λe=> br e.ng (Ke I N λf=> Cu I N λg=> bd (oK false f) (nK S g)) (yh z5 λh=> UF N I [Q,z1,h.ng] r1)) (vX I N λi=> Cu I N λa=> bd (oK false (.bool false)) (nK S a))
def oG:=M.fx (xa (n7 M S N))
def FW:=u3 a0 I λa=> u3 a1 I λb=> VD I λc=> oG M I.length I.length [a,b,c] I
def FX:Ev.Fn:=⟨18,[.tmp 4],T,T,(Yq 0 [vJ 4] (Yj (Yq 1 [YR 5,Hx 6 5 0,Yv 7 6,xD 8 7 1,Q1 9 7 8 0,NC 10 7 9] (Ym 10 2 [vJ 4])) (Yj (Yq 3 [YR 11,Vb2 12,Yo 13 .quo .no (Yi 4611686018427387904) 12,Vdg 14 11 13] (Ym 14 4 [Lh 4 4611686018427387904])) (Yr 5 [YR 15,Vb2 16,Yo 17 .mul .no 15 16,Yv 4 17]))))⟩
def p7(M:ah)(a0 a1:V)(I:hN):Ro:=Vw a0 0 λa=> xj a a1 λx1=> Q7 a x1 0 λb=> xE a b λc=> br c.ng (bd (oK false (.int .i64 0)) (nK I.length I)) (bd (pu (eB .quo .no (.int .i64 4611686018427387904) a1.ng.ng)) λd=> Vl a0 d λe=> br e.ng (bd (oK false (.int .i64 4611686018427387904)) (nK I.length I)) (bd (pu (eB .mul .no a0.ng.ng a1.ng.ng)) λf=> bd (oK false f.ng) (nK I.length I)))
def p8:Ev.Fn:=⟨128,[.tmp 4,.tmp 5],T,T,(Yq 0 [vJ 4,vJ 5] (Yq 1 [Va 15,Yu 6 15,vJ 7] (Yj (Yq 2 [vJ 8] (.block 0 (.loop [0,1,6,7,8] [0,1,4,5,6,7] [] (Yj (Yq 3 [Yv 16 8,YR 17,Yh 18 17,Ak 19 16 18] (Yz 19 .skip (.exit 0))) (Yj (.block 1 (Yq 5 [YR 22,Yv 23 8,Ye 24 7 22 23,Vdr 25 24,vj 26 25,Hx 27 26 2,Yv 28 27,xC 29 28 0,xC 30 28 8,Vdz 31 28 7 29 30,J2 32 28 3 31,GB 33 28 32,xC 34 28 1,Pq 35 28 33 34,Fl 36 28 35] (Yz 36 (Yq 6 [YR 37,Yv 38 8,Ye 39 7 37 38,Ya 40 1 39,vj 41 40] (Yz 41 (vf 7 [Yu 42 6,YR 43,Yv 44 8,Ye 45 7 43 44,Ya 46 2 45,vj 47 46,YS 48 15 42 47,Yu 6 48]) (vf 8 [Yv 49 7,vV 50 49,Yv 7 50]))) .skip))) (vf 4 [Yv 20 8,vV 21 20,Yv 8 21])))))) (Yq 9 [Yv 51 6,Yh 52 51,Yv 53 7,A3 54 52 53,Lh 9 1,vJ 10,Yv 11 54] (Yj (Yq 10 [vJ 12] (.block 2 (.loop [0,1,6,9,10,11,12] [4,5,9,10] [] (Yj (Yq 11 [Yv 55 12,Yv 56 11,Ak 57 55 56] (Yz 57 .skip (.exit 2))) (Yj (.block 3 (Yq 13 [Yk 60 (.aw true 3 0 (.agg []) [] T),Yu 13 60] (Yj (Yq 14 [vJ 14] (.block 4 (.loop [0,1,6,9,10,11,12,13,14] [0,1,4,5,6,9,10,11,12,13] [] (Yj (Yq 15 [Yv 61 14,YR 62,Yh 63 62,Ak 64 61 63] (Yz 64 .skip (.exit 4))) (Yj (.block 5 (Yj (.dH 17 [⟨Yv 67 0,0,[]⟩,⟨Yv 68 14,1,[]⟩,⟨Ye 69 7 67 68,2,[]⟩,⟨Ya 70 0 69,3,[]⟩,⟨Yl 71 T 1 70,4,[]⟩,⟨Yo 72 .eql .no 71 (Yi 2),5,[]⟩,⟨Yv 73 72,6,[]⟩,⟨⟨some 74,(some (73,true)),.mv 0 T⟩,7,[]⟩,⟨⟨some 75,(some (73,true)),.mv 14 T⟩,8,[]⟩,⟨⟨some 76,(some (73,true)),.bT 7 74 75⟩,9,[]⟩,⟨⟨some 77,(some (73,true)),.cu 3 76⟩,10,[]⟩,⟨⟨some 78,(some (73,true)),.load T 1 77⟩,11,[]⟩,⟨⟨some 79,(some (73,true)),.mv 1 T⟩,12,[]⟩,⟨⟨some 80,(some (73,true)),.bin .eql .no 78 79⟩,13,[]⟩,⟨Yk 81 (.pick 73 80 Yf),14,[]⟩,⟨Yv 82 81,15,[]⟩,⟨⟨some 83,(some (82,true)),.mv 0 T⟩,16,[]⟩,⟨⟨some 84,(some (82,true)),.mv 14 T⟩,17,[]⟩,⟨⟨some 85,(some (82,true)),.bT 7 83 84⟩,18,[]⟩,⟨⟨some 86,(some (82,true)),.cu 1 85⟩,19,[]⟩,⟨⟨some 87,(some (82,true)),.load T 1 86⟩,20,[]⟩,⟨⟨some 88,(some (82,true)),.un .not 87⟩,21,[]⟩,⟨⟨some 89,(some (82,true)),.mv 88 T⟩,22,[]⟩,⟨⟨some 90,(some (89,T)),.mv 12 T⟩,23,[]⟩,⟨⟨some 91,(some (89,T)),.mv 6 T⟩,24,[]⟩,⟨⟨some 92,(some (89,T)),.len 91⟩,25,[]⟩,⟨⟨some 93,(some (89,T)),.bin .lss .no 90 92⟩,26,[]⟩,⟨⟨some 94,(some (89,T)),.mv 93 T⟩,27,[]⟩,⟨⟨some 95,(some (94,true)),.mv 0 T⟩,28,[]⟩,⟨⟨some 96,(some (94,true)),.mv 14 T⟩,29,[]⟩,⟨⟨some 97,(some (94,true)),.bT 7 95 96⟩,30,[]⟩,⟨⟨some 98,(some (94,true)),.cu 2 97⟩,31,[]⟩,⟨⟨some 99,(some (94,true)),.load T 1 98⟩,32,[]⟩,⟨⟨some 100,(some (94,true)),.mv 6 T⟩,33,[]⟩,⟨⟨some 101,(some (94,true)),.mv 12 T⟩,34,[]⟩,⟨⟨some 102,(some (94,true)),.bT 1 100 101⟩,35,[]⟩,⟨⟨some 103,(some (94,true)),.load T 1 102⟩,36,[]⟩,⟨⟨some 104,(some (94,true)),.bin .eql .no 99 103⟩,37,[]⟩,⟨⟨some 105,(some (89,T)),.pick 94 104 Yf⟩,38,[]⟩,⟨⟨some 106,(some (82,true)),.pick 89 Yt 105⟩,39,[]⟩,⟨Yk 107 (.pick 82 106 Yf),40,[]⟩]) (Yz 107 (vf 18 [Yu 108 13,YR 109,Yv 110 14,Ye 111 7 109 110,Ya 112 4 111,Jh 113 3 112,Yk 114 (.aw true 3 1 (.agg [Y0,Yn,Yb]) [(0,113)] T),wY 115 3 32 108 114,Yu 13 115]) .skip))) (vf 16 [Yv 65 14,vV 66 65,Yv 14 66])))))) (Yq 19 [Yv 116 9,Yv 117 13,Yh 118 117,NH 119 30 118,R0 120 19 119 1,YS 121 17 116 120,Yv 9 121] (vf 20 [Yv 122 10,Yu 123 13,NH 124 31 123,YS 125 19 122 124,Yv 10 125]))))) (vf 12 [Yv 58 12,vV 59 58,Yv 12 59])))))) (Yr 21 [Yv 126 9,Yv 127 10,Yv 4 126,Yv 5 127]))))))⟩
def mI(M:ah)(S:Nat)(N:Nat)(r1:Rk)(Q z1 z6 z7 z8:V)(I:hN):Ro:=yh z8 λa=> UF N I [Q,z1,z6,z7,a.ng] r1
def mC(M:ah)(S:Nat)(N:Nat)(r1:Rk)(n2:Nat)(r2:Rk)(Q z1 z6 z9 z10 z11 z12 z13 z14:V)(I:hN):Ro:=yh z14 λa=> UF n2 I [Q,z1,z6,z9,z10,z11,z12,z13,a.ng] r2
def mw:=wI Q λs=> A4 z14 s λt=> br t.ng (GH z14 Q 7 λu=> Rc u λv=> u9 v I λw=> vt w 2 λc=> E2 c Q λx=> E2 c z14 λy=> bd (aU c.ng true (pu (eI 7 y.ng x.ng))) λz=> E3 c z 3 λA=> NL c A I λB=> E2 c z1 λC=> EB c B C λD=> xu c D λb=> E2 b Q λE=> E2 b z14 λF=> bd (aU b.ng true (pu (eI 7 F.ng E.ng))) λG=> E3 b G 1 λH=> NL b H I λJ=> Ll b J λK=> E2 b K λd=> NO d z12 λL=> NO d z6 λO=> bd (aU d false (pu (Qai O.ng))) λP=> wu d L P λR=> NO d R λa=> GK a Q λU=> GK a z14 λV=> bd (aU a true (pu (eI 7 V.ng U.ng))) λX=> bd (aU a true (pu (eF 2 X.ng))) λc=> Ues a c I λc=> GK a z6 λs=> GK a z12 λt=> bd (aU a true (pu (eI 1 t.ng s.ng))) λs=> Ues a s I λs=> Ri a c s λc=> bd (aU d false (pu (B3 a.ng c.ng (.bool false)))) λa=> CH b d a λa=> xu b a λa=> br a.ng (GH z14 Q 7 λa=> xi a 4 λa=> zd a I 3 λa=> bd (wS true 3 1 (.agg [(.int .i64 0),(.str []),(.bool false)]) [(0,a.ng)]) λa=> Jl z13 a I 3 32 λa=> mC M S N r1 n2 r2 Q z1 z6 z9 z10 z11 z12 a z14 I) (mC M S N r1 n2 r2 Q z1 z6 z9 z10 z11 z12 z13 z14 I)) (u6 Q I n2 λa=> u6 z1 I n2 λb=> vX I n2 λc=> vX I n2 λc=> u6 z6 I n2 λk=> u6 z9 I n2 λl=> u6 z10 I n2 λm=> u6 z11 I n2 λn=> u6 z12 I n2 λo=> u6 z13 I n2 λe=> Cu I n2 λp=> wI e λq=> D7 q p 30 M λf=> bd (M.call 19 [f.1.ng,(.int .i64 1)] f.2) λg=> NQ l g.1 g.2 17 M λh=> D7 e h.2 31 M λi=> NQ m i.1 i.2 19 M λj=> yh o λr=> UF N j.2 [a,b,k,h.1.ng,j.1.ng,n,r.ng] r1)
def oH:=M.fx (NI (mw M S N r1 n2))
def oI:=Lt z12 z11 λm=> br m.ng (bd (wS true 3 0 (.agg []) []) λn=> u3 Q I λa=> u3 z1 I λb=> u3 z6 I λc=> u3 z9 I λd=> u3 z10 I λe=> u3 z11 I λf=> u3 z12 I λg=> u3 n I λh=> VD I λi=> oH M S N r1 I.length [a,b,c,d,e,f,g,h,i] I) (vX I N λo=> vX I N λp=> u6 z9 I N λj=> u6 z10 I N λk=> Cu I N λl=> nK S l (.aR [V.aI j.ng.ng,V.aI k.ng.ng]))
def mJ:=M.fx (E1 (oI M S N))
def mK:=wI Q λx1=> A4 z8 x1 λJ=> br J.ng (GH z8 Q 7 λl=> Rc l λm=> u9 m I λn=> vt n 2 λb=> E2 b Q λo=> E2 b z8 λp=> bd (aU b.ng true (pu (eI 7 p.ng o.ng))) λq=> E3 b q 3 λr=> NL b r I λs=> E2 b z1 λt=> EB b s t λu=> xu b u λv=> br v.ng (GH z8 Q 7 λw=> xi w 1 λx=> u9 x I λy=> br y.ng (GH z8 Q 7 λz=> xi z 2 λA=> u9 A I λB=> Vn z6 B I 15 M λc=> mI M S N r1 Q z1 c.1 z7 z8 c.2) (yh z7 λC=> mI M S N r1 Q z1 z6 C.ng z8 I)) (mI M S N r1 Q z1 z6 z7 z8 I)) (u6 Q I N λD=> u6 z1 I N λE=> vX I N λK=> vX I N λL=> u6 z6 I N λd=> u6 z7 I N λF=> Cu I N λa=> wI d λG=> bd (pu (eB .add .no G.ng F.ng.ng)) λH=> u3 D a λe=> u3 E a λf=> u3 d a λg=> v8 a 1 λh=> VD a λi=> yF H a λj=> VD a λk=> mJ M S a.length [e,f,g,h,i,j,k] a)
def oJ:=M.fx (D5 (mK M S N))
def FY:=BM λf=> u3 a0 I λa=> u3 a1 I λb=> u3 f I λc=> VD I λd=> VD I λe=> oJ M I.length I.length [a,b,c,d,e] I
end
section
variable(M:ah)(Q q:Nat)(r1:Rk)(u:Nat)(r2:Rk)(z:Nat)(r3:Rk)(n4:Nat)(r4:Rk)(n5:Nat)(N a1 a2 a3 a4 a5 a6 a7 a8 a9 a10 a11:V)(S z1 z2 z3 z4 z5 z6 z7 z8 z9 z11 z12 z13 z17 z18 z19 z21 z22 z23 z30 z31 z32 z33 z42 z43 z44:V)(I:hN)
def FZ:Ev.Fn:=⟨20,[.tmp 4],T,T,(Yq 0 [vJ 4] (Yj (Yq 1 [YR 5,Li 6 5 4611686018427387904,Yv 7 6,xD 8 7 1,Ve 9 7 8 4611686018427387904,NC 10 7 9,Yv 11 10,xD 12 11 0,xD 13 11 1,Vch 14 11 12 13,J5 15 11 14 4611686018427387904,NC 16 11 15] (Ym 16 2 [Lh 4 4611686018427387904])) (Yr 3 [YR 17,Vb2 18,A3 19 17 18,Yv 4 19])))⟩
def p_(M:ah)(N a1:V)(I:hN):Ro:=Vg N 4611686018427387904 λb=> xj b a1 λx1=> bd (aU b.ng false (pu (eB .geq .no x1.ng (.int .i64 4611686018427387904)))) λc=> xE b c λa=> xj a N λd=> xj a a1 λe=> Zg a d e λf=> Ueo a f 4611686018427387904 λg=> xE a g λh=> br h.ng (bd (oK false (.int .i64 4611686018427387904)) (nK I.length I)) (G7 N a1 λi=> bd (oK false i.ng) (nK I.length I))
def H9:Ev.Fn:=⟨10,[.tmp 2],T,T,(Yq 0 [Y1 2] (Yj (Yq 1 [mA 4,Yc 5 32 [4,(.f 33)],Yv 3 5] (Yq 2 [Yv 6 3,YT 7 6] (Ym 7 3 [Yv 8 3,Yc 9 22 [(Yi 1),8],Yv 2 9]))) (Yr 4 [Y1 2])))⟩
def Ma:=bd (M.call 32 [N.ng,(.fn 33 [] [])] I) λa=> bd (pu (eB .geq .no a.1.ng.ng.ng (.int .i64 0))) λx1=> br x1.ng (bd (M.call 22 [(.int .i64 1),a.1.ng.ng.ng] a.2) λb=> bd (oK false b.1.ng) (nK I.length b.2)) (bd (oK false .bc) (nK I.length a.2))
def QaW:Ev.Fn:=⟨28,[.tmp 2],T,T,(Yq 0 [vY 2] (Yj (Yj (.dH 1 [⟨Yv 3 0,0,[]⟩,⟨Yk 4 (.dh 3),1,[]⟩,⟨Ya 5 3 4,2,[]⟩,⟨Yl 6 T 1 5,3,[]⟩,⟨Yv 7 6,4,[]⟩,⟨⟨some 8,(some (7,T)),.mv 0 T⟩,5,[]⟩,⟨⟨some 9,(some (7,T)),.dh 8⟩,6,[]⟩,⟨⟨some 10,(some (7,T)),.cu 1 9⟩,7,[]⟩,⟨⟨some 11,(some (7,T)),.load T 1 10⟩,8,[]⟩,⟨⟨some 12,(some (7,T)),.mv 0 T⟩,9,[]⟩,⟨⟨some 13,(some (7,T)),.dh 12⟩,10,[]⟩,⟨⟨some 14,(some (7,T)),.cu 2 13⟩,11,[]⟩,⟨⟨some 15,(some (7,T)),.load T 1 14⟩,12,[]⟩,⟨⟨some 16,(some (7,T)),.bin .geq .no 11 15⟩,13,[]⟩,⟨Yk 17 (.pick 7 Yt 16),14,[]⟩]) (Yz 17 (Yq 2 [YR 18,yX 19 18,Ya 20 3 19,Yw 1 20 Yt T] (Yr 3 [vY 2])) .skip)) (Yq 4 [YR 21,yX 22 21,Ya 23 1 22,vj 24 23,vV 25 24,yX 26 21,Ya 27 1 26,J4 1 27 25] (Yr 5 [oA 2]))))⟩
def HJ(M:ah)(N:V)(I:hN):Ro:=Uaj N λo=> xi o 3 λx1=> u9 x1 I λa=> xj a N λp=> Q' a p λq=> Uaz a q 1 λr=> xM a r I λs=> xj a N λt=> Q' a t λu=> Uaz a u 2 λv=> xM a v I λb=> bd (aU a.ng false (pu (eB .geq .no s.ng b.ng))) λc=> xE a c λd=> br d.ng (Uaj N λe=> xi e 3 λf=> bd (u5 I 1 f.ng (.bool true) (.bool true)) λg=> bd (oK false (.bool false)) (nK I.length g.2)) (Uaj N λh=> xi h 1 λi=> u9 i I λj=> xy j λk=> Uaj N λl=> xi l 1 λm=> Ka m k I 1 λn=> bd (oK false (.bool true)) (nK I.length n.2))
def Zs:bW M QaW [N] I=HJ M N I:=vi
def Rr:Ev.Fn:=⟨10,[.tmp 4],T,T,(Yq 0 [Y1 4] (Yr 1 [YR 5,Vb2 6,Yk 7 (.build [Y0,Y0,.bc] [(0,1,5),(1,1,6)]),Yk 8 (.box 7),B8 9 66 8,Yv 4 9]))⟩
def N5(M:ah)(N a1:V)(I:hN):Ro:=bd (pu (mz [(.int .i64 0),(.int .i64 0),.bc] [(0,1,N.ng.ng),(1,1,a1.ng.ng)])) λb=> Am b I λa=> bd (oK false (.bE 66 a.1.ng)) (nK I.length a.2)
def Ei:Ev.Fn:=⟨48,[.tmp 2],T,T,(Yq 0 [xR 2] (Yj (Yq 1 [mA 7,Yh 8 7,vJ 9] (.block 0 (.loop [2,7,8,9] [2] [2] (Yq 2 [Ak 10 9 8] (Yj (Yz 10 .skip (.exit 0)) (Yj (.block 1 (Yq 3 [Yv 11 9,Ye 12 7 7 9,Jh 13 7 12,u' 4,Yv 3 11,J4 7 4 13] (Yq 4 [Ya 14 3 4,vj 15 14,Yk 5 (.alloc [Yn]),J4 1 5 15] (Yj (Yq 5 [Vdr 16 4,vj 17 16,Hx 18 17 1] (Yz 18 (vf 6 [Yw 1 5 (Ys []) T]) .skip)) (Yq 7 [Yv 19 2,Yk 20 (.iZ 36 [] [4,5]),YS 21 35 19 20,Yv 6 21] (Yj (Yq 8 [Yv 22 6,NG 23 22 0] (Yz 23 (Yq 9 [Yu 24 2,Vdr 25 4,vj 26 25,vj 27 5,Yk 28 (.build [Y0,Yn,.ad] [(0,1,26),(1,1,27),(2,1,(.c .ad))]),Yk 29 (.aw true 3 1 (.agg [Y0,Yn,.ad]) [(0,28)] T),Yk 30 (.gE T true 3 48 24 29),Yu 2 30] (vf 10 [Yv 31 2,Yh 32 31,DD 33 32 1,Yv 6 33])) .skip)) (vf 11 [Yv 34 2,Yv 35 6,Yv 36 2,Yv 37 6,Ye 38 3 36 37,Ya 39 2 38,Yk 40 (.loadT 39),Yv 41 3,Ae 42 41,Q0 43 8 40 42,Ye 44 3 34 35,Ya 45 2 44,Yw 1 45 43 true]))))))) (vf 12 [vV 46 9,Yv 9 46]))))))) (Yr 13 [Yu 47 2,Yu 2 47])))⟩
def oL(M:ah)(Q:Nat)(q:Nat)(r1:Rk)(z2 z3 z6 z7 z8 z9:V)(I:hN):Ro:=GH z6 z2 3 λc=> xi c 2 λd=> Vx d I λa=> Ueq z3 λe=> Lk a.1 e a.2 1 8 λf=> GH z6 z2 3 λg=> xi g 2 λh=> PI h f a.2 λi=> xy z9 λj=> bd (VJ q [2] [(2,z2),(7,z7),(8,z8),(9,j.ng)] i.2) λb=>r1 b.1 b.2
def n8:=bd (M.call 35 [z2.ng.ng,(.fn 36 [] [z4.ng,z5.ng])] I) λa=> bd (pu (eB .lss .no a.1.ng.ng.ng (.int .i64 0))) λc=> br c.ng (Rc z4 λd=> u9 d a.2 λe=> u9 z5 a.2 λf=> bd (pu (mz [(.int .i64 0),(.str []),.ad] [(0,1,e.ng),(1,1,f.ng),(2,1,.ad)])) λg=> bd (wS true 3 1 (.agg [(.int .i64 0),(.str []),.ad]) [(0,g.ng)]) λh=> bd (G' false true 3 48 a.2 z2 h.ng) λb=> wI b.1 λi=> Q_ i 1 λj=> oL M Q q r1 b.1 z3 j.ng z7 z8 z9 b.2) (oL M Q q r1 z2 z3 a.1.ng z7 z8 z9 a.2)
def zV:=yp z9 z8 λx1=> br x1.ng (Ubh z9 z7 7 λi=> zd i I 7 λj=>
 let k:hN:=I++[.cells [(.int .i64 0),(.bool false),(.str []),(.str []),(.int .i64 0),(.str []),(.bool false)]]
 CG j k I 7 0 λa=> Vi I 3 0 λl=> u9 l a.2 λm=>
 let n:hN:=a.2++[.cells [(.str [])]]
 CG m n a.2 1 0 λc=> NU I λd=> u9 d c.2 λe=> vt e 1 λf=> br f.ng (bd (u5 c.2 1 (.ptr a.2.length 0) (.str []) (.str [])) λg=> n8 M Q q r1 z2 z9.ng.ng (.ptr I.length 0) (.ptr a.2.length 0) z7 z8 z9 g.2) (n8 M Q q r1 z2 z9.ng.ng (.ptr I.length 0) (.ptr a.2.length 0) z7 z8 z9 c.2)) (bd (VJ q [2] [(2,z2)] I) λb=>
 let h:uZ:=b.1
 bd (oK false (h.getD 0 .undef)) (nK Q b.2))
def Dz:=M.fx (xS (zV M Q q))
def Ib:=Cv N λe=> G5 I λa=> u3 N I λb=> u3 e I λc=> VD I λd=> Dz M I.length I.length [a,b,c,d] I
def N0:Ev.Fn:=⟨20,[.tmp 4],T,T,(Yq 0 [Ch 3,xR 4] (Yj (Yq 1 [Vdr 5 3,vj 6 5] (.block 0 (Yq 2 [Hx 8 6 1,Yv 7 8] (Yz 7 (Yr 3 [YR 9,Jh 10 3 3,YS 11 38 9 10,Yu 4 11]) (Yq 4 [Hx 13 6 2,Yv 12 13] (Ym 12 5 [YR 14,Jh 15 3 3,YS 16 39 14 15,Yu 4 16])))))) (Yr 6 [YR 17,Jh 18 3 3,YS 19 40 17 18,Yu 4 19])))⟩
def HL:=Am a1 I λa=> Rc a.1 λx1=> u9 x1 a.2 λc=> vt c 1 λf=> br f.ng.ng (zd a.1 a.2 3 λg=> NQ N g a.2 38 M λd=> bd (oK false d.1) (nK I.length d.2)) (vt c 2 λh=> br h.ng.ng (zd a.1 a.2 3 λi=> NQ N i a.2 39 M λe=> bd (oK false e.1) (nK I.length e.2)) (zd a.1 a.2 3 λj=> NQ N j a.2 40 M λb=> bd (oK false b.1) (nK I.length b.2)))
def Zt:bW M N0 [N,a1] I=HL M N a1 I:=vi
def HM:Ev.Fn:=⟨35,[.tmp 6],T,T,(Yq 0 [xR 6] (Yj (Yq 1 [Yu 11 1,Yh 12 11,vJ 13] (.block 0 (.loop [0,2,6,11,12,13] [6] [] (Yq 2 [Ak 14 13 12] (Yj (Yz 14 .skip (.exit 0)) (Yj (.block 1 (Yq 3 [Ye 15 7 11 13,Jh 16 7 15,Po 8,J4 7 8 16] (Yq 4 [Yv 17 2,Yh 18 17,vJ 19] (.block 2 (.loop [0,2,6,8,11,12,13,17,18,19] [0,2,6,11,12,13] [] (Yq 5 [Ak 20 19 18] (Yj (Yz 20 .skip (.exit 2)) (Yj (.block 3 (Yq 6 [Ye 21 7 17 19,Jh 22 7 21,Po 10,J4 7 10 22] (Yj (Yq 7 [YR 23,NH 24 21 23,CX 25 24] (Ym 25 8 [xR 6])) (vf 9 [Yu 26 6,Jh 27 7 8,Jh 28 7 10,YS 29 37 27 28,ND 30 7 29,wY 31 7 112 26 30,Yu 6 31])))) (vf 10 [vV 32 19,Yv 19 32]))))))))) (vf 11 [vV 33 13,Yv 13 33]))))))) (Yr 12 [Yu 34 6,Yu 6 34])))⟩
def B9:=yp z19 z18 λy=> br y.ng (Ubh z19 z17 7 λz=> zd z I 7 λA=>
 let d:hN:=I++[.cells [(.int .i64 0),(.int .i64 0),(.str []),(.str []),.ad,.ad,(.str [])]]
 CG A d I 7 0 λe=> PC S e.2 21 M λa=> xb a.1 λf=> br f.ng (u6 S a.2 u λB=> u6 z2 a.2 u λC=> Re a.2 u λg=> u6 z11 a.2 u λD=> u6 z12 a.2 u λE=> u6 z13 a.2 u λF=> Cu a.2 u λc=> u6 g c q λh=> Cu c q λi=> bd (oK false h) (nK Q i)) (zd z8 a.2 7 λj=> G6 a.2 I 7 0 λk=> Vn j k a.2 37 M λb=> G4 b.1 λl=> Jl z6 l b.2 7 112 λm=> xy z19 λn=> UF u b.2 [S,z2,m,z8,z11,z12,z13,z17,z18,n.ng] r2)) (u6 S I u λo=> u6 z2 I u λp=> u6 z6 I u λr=> u6 z11 I u λs=> u6 z12 I u λt=> u6 z13 I u λv=> Cu I u λw=> xy v λx=> UF q w [o,p,r,s,t,x.ng] r1)
def C':=M.fx (NJ (B9 M Q q r1 u))
def Da:=yp z13 z12 λx1=> br x1.ng (Ubh z13 z11 7 λn=> zd n I 7 λo=>
 let p:hN:=I++[.cells [(.int .i64 0),(.int .i64 0),(.str []),(.str []),.ad,.ad,(.str [])]]
 CG o p I 7 0 λa=> wI z2 λr=> u3 S a.2 λb=> u3 z2 a.2 λc=> u3 z6 a.2 λd=> Lo a.2 I λe=> u3 z11 a.2 λf=> u3 z12 a.2 λg=> u3 z13 a.2 λh=> yF z2 a.2 λi=> u3 r a.2 λj=> VD a.2 λk=> C' M Q q r1 a.2.length [b,c,d,e,f,g,h,i,j,k] a.2) (u6 z6 I q λl=> Cu I q λm=> bd (oK false l) (nK Q m))
def Ap:=M.fx (Al (Da M Q q))
def QeF:=Cv a1 λg=> u3 N I λa=> u3 a2 I λb=> G5 I λc=> u3 a1 I λd=> u3 g I λe=> VD I λf=> Ap M I.length I.length [a,b,c,d,e,f] I
def Zu:bW M HM [N,a1,a2] I=QeF M N a1 a2 I:=vi
def Ek:Ev.Fn:=⟨44,[.tmp 4],T,T,(Yq 0 [Vb 2,Ch 3,vY 4] (Yj (Yq 1 [Vdr 5 2,vj 6 5] (.block 0 (Yq 2 [Hx 8 6 1,Yv 7 8] (Yz 7 (Yr 3 [Ya 9 3 2,vj 10 9,Vda 11 10,Yv 12 11,wz 13 12 3 2,Aj 14 12 13,wz 15 12 3 3,Aj 16 12 15,DV 17 12 14 16,NC 18 12 17,Yv 19 18,J2 20 19 1 2,GB 21 19 20,J6 22 19 21,xC 23 19 22,wz 24 23 2 2,Aj 25 23 24,wz 26 23 2 3,Aj 27 23 26,DV 28 23 25 27,YQ 29 19 23 28,Fl 30 19 29,Yv 4 30]) (Yq 4 [Hx 32 6 2,Yv 31 32] (Yz 31 (Yr 5 [Ya 33 4 3,vj 34 33,Yk 35 (.iZ 42 [] [2]),YS 36 41 34 35,Yv 4 36]) (Yq 6 [Hx 38 6 3,Yv 37 38] (Ym 37 7 [Ya 39 5 3,vj 40 39,Ya 41 3 2,vj 42 41,YS 43 44 40 42,Yv 4 43])))))))) (Yr 8 [vY 4])))⟩
def FH:=Am N I λd=> Am a1 d.2 λa=> Rc d.1 λD=> u9 D a.2 λh=> vt h 1 λE=> br E.ng.ng (xi d.1 3 λF=> u9 F a.2 λG=> Vq G λe=> Uaz e d.1 3 λH=> xM e H a.2 λJ=> Uaz e a.1 3 λi=> xM e i a.2 λj=> Vu e J j λk=> xE e k λb=> E3 b d.1 1 λl=> NL b l a.2 λm=> Ll b m λn=> E2 b n λc=> bd (aU c false (pu (eF 2 d.1.ng))) λo=> Lu c o a.2 λp=> bd (aU c false (pu (eF 2 a.1.ng))) λq=> Lu c q a.2 λr=> Rg c p r λs=> CH b c s λt=> xu b t λu=> bd (oK false u.ng) (nK I.length a.2)) (vt h 2 λv=> br v.ng.ng (xi a.1 4 λw=> u9 w a.2 λx=> bd (M.call 41 [x.ng,(.fn 42 [] [d.1.ng])] a.2) λf=> bd (oK false f.1.ng) (nK I.length f.2)) (vt h 3 λy=> br y.ng.ng (xi a.1 5 λz=> u9 z a.2 λA=> xi d.1 3 λB=> u9 B a.2 λC=> Vn A C a.2 44 M λg=> bd (oK false g.1.ng) (nK I.length g.2)) (bd (oK false (.bool false)) (nK I.length a.2))))
def QdZ:Ev.Fn:=⟨26,[.tmp 4],T,T,(Yq 0 [vY 4] (Yj (Yq 1 [YR 6,Yh 7 6,Vb2 8,Yh 9 8,Vdv 10 7 9] (Ym 10 2 [vY 4])) (Yj (Yq 3 [vJ 5] (.block 0 (.loop [0,1,5] [4] [] (Yj (Yq 4 [Yv 11 5,YR 12,Yh 13 12,Ak 14 11 13] (Yz 14 .skip (.exit 0))) (Yj (.block 1 (Yj (.dH 6 [⟨Yv 17 0,0,[]⟩,⟨Yv 18 5,1,[]⟩,⟨Ye 19 1 17 18,2,[]⟩,⟨Yl 20 T 1 19,3,[]⟩,⟨Yv 21 1,4,[]⟩,⟨Yv 22 5,5,[]⟩,⟨Ye 23 1 21 22,6,[]⟩,⟨Yl 24 T 1 23,7,[]⟩,⟨Yo 25 .neq .no 20 24,8,[]⟩]) (Ym 25 7 [vY 4]))) (vf 5 [Yv 15 5,vV 16 15,Yv 5 16])))))) (Yr 8 [oA 4]))))⟩
def oM(M:ah)(Q:Nat)(q:Nat)(r1:Rk)(S z1 z5:V)(I:hN):Ro:=wI S λe=> A4 z5 e λf=> br f.ng (GH z5 S 1 λg=> u9 g I λh=> GH z5 z1 1 λi=> u9 i I λj=> Kc h j λk=> br k.ng (Cw I q λa=> Cu I q λb=> bd (oK false a) (nK Q b)) (yh z5 λc=> UF q I [S,z1,c.ng] r1)) (vX I q λl=> Cu I q λd=> bd (oK false (.bool true)) (nK Q d))
def oN:=M.fx (xa (oM M Q q))
def QeB:=wI N λd=> wI a1 λx1=> Kc d x1 λe=> br e.ng (bd (oK false (.bool false)) (nK I.length I)) (u3 N I λa=> u3 a1 I λb=> VD I λc=> oN M I.length I.length [a,b,c] I)
def A_:Ev.Fn:=⟨38,[.tmp 2],T,T,(Yq 0 [vY 2] (Yq 1 [vJ 3] (Yj (.block 0 (.loop [0,3] [2] [] (Yj (Yq 2 [Yv 6 3,YR 7,Yh 8 7,Ak 9 6 8] (Yz 9 .skip (.exit 0))) (.block 1 (Yq 3 [YR 11,Yv 12 3,YS 13 49 11 12,Yv 10 13,Yx 14 10 0,Yx 15 10 1,Yv 4 14,Yv 5 15] (Yj (Yq 4 [YR 16,Yv 17 3,mT 18 16 17,vj 19 18,xh 20 19 0,Yv 21 20,xD 22 21 0,xD 23 21 3,xD 24 21 3,xD 25 21 5,Vch 26 21 24 25,⟨some 27,(some (21,T)),.cut 1 22 (some 23) (some 26) none⟩,QZ 28 21 50 27,Q2 29 21 28,NC 30 21 29,Yv 31 30,xD 32 31 4,Q1 33 31 32 0,NC 34 31 33] (Ym 34 5 [vY 2])) (vf 6 [Yv 35 3,Yv 36 5,A3 37 35 36,Yv 3 37]))))))) (Yr 7 [oA 2]))))⟩
def m5:=wI S λs=> A4 z3 s λx1=> br x1.ng (Q5 S z3 I 49 M λd=> Uba d.1 0 λt=> Uba d.1 1 λr=> GH z3 S 1 λu=> u9 u d.2 λv=> bd (pu (eB .eql .no v.ng (.int .u8 0))) λa=> xj a S λw=> xj a z3 λx=> xj a z3 λe=> ED a r λf=> Zg a e f λg=> bd (aU a.ng false (pu (yy 1 w.ng (some x.ng) (some g.ng) none))) λh=> NT a h d.2 50 M λb=> Lj a b.1 λi=> xE a i λc=> ED c t λj=> Q7 c j 0 λk=> xE c k λl=> br l.ng (Cw b.2 q λm=> Cu b.2 q λn=> bd (oK false m) (nK Q n)) (NW z3 r λo=> UF q b.2 [S,o.ng] r1)) (vX I q λy=> Cu I q λp=> bd (oK false (.bool true)) (nK Q p))
def pN:=M.fx (AY (m5 M Q q))
def QeC:=u3 N I λa=> VD I λb=> pN M I.length I.length [a,b] I
def Ba:Ev.Fn:=⟨13,[.tmp 2],T,T,(Yq 0 [vJ 2] (Yq 1 [Lh 3 1] (Yj (Yq 2 [vJ 4] (.block 0 (.loop [0,3,4] [2,3] [] (Yj (Yq 3 [Yv 5 4,YR 6,Ak 7 5 6] (Yz 7 .skip (.exit 0))) (Yj (.block 1 (vf 5 [Yv 10 3,R0 11 17 10 2,Yv 3 11])) (vf 4 [Yv 8 4,vV 9 8,Yv 4 9])))))) (Yr 6 [Yv 12 3,Yv 2 12]))))⟩
def oO:=Lt z4 S λb=> br b.ng (bd (M.call 17 [z3.ng.ng,(.int .i64 2)] I) λa=> yh z4 λc=> UF q a.2 [S,a.1.ng,c.ng] r1) (vX I q λf=> u6 z3 I q λd=> Cu I q λe=> bd (oK false d.ng.ng) (nK Q e))
def oT:=M.fx (xa (oO M Q q))
def F5:=u3 N I λa=> v8 I 1 λb=> VD I λc=> oT M I.length I.length [a,b,c] I
def Bf:Ev.Fn:=⟨31,[.tmp 2],T,T,(Yq 0 [vJ 2] (Yq 1 [YR 6,NH 7 51 6,Yh 8 7,Yv 3 8] (Yj (Yq 2 [vJ 4] (.block 0 (.loop [0,3,4] [2,3] [] (Yj (Yq 3 [Yv 9 4,YR 10,Yh 11 10,Ak 12 9 11] (Yz 12 .skip (.exit 0))) (Yj (.block 1 (Yq 5 [YR 15,Yv 16 4,Ye 17 3 15 16,Ya 18 1 17,vj 19 18,NH 20 52 19,Yh 21 20,wO 22 21 3,Yv 5 22] (Yq 6 [Yv 23 3,Yv 24 5,Yo 25 .quo .no (Yi 4611686018427387904) 24,Vdg 26 23 25] (Yz 26 (vf 7 [Lh 3 4611686018427387904]) (vf 8 [Yv 27 3,Yv 28 5,Yo 29 .mul .no 27 28,Yv 3 29]))))) (vf 4 [Yv 13 4,vV 14 13,Yv 4 14])))))) (Yr 9 [Yv 30 3,Yv 2 30]))))⟩
def oU(M:ah)(Q:Nat)(q:Nat)(r1:Rk)(S z3 z4:V)(I:hN):Ro:=yh z4 λa=> UF q I [S,z3,a.ng] r1
def n9:=wI S λk=> A4 z4 k λl=> br l.ng (GH z4 S 3 λm=> xi m 1 λc=> u9 c I λd=> D7 d I 52 M λa=> Cv a.1 λe=> bd (pu (eB .add .no e.ng (.int .i64 3))) λb=> bd (pu (eB .quo .no (.int .i64 4611686018427387904) b.ng.ng.ng)) λf=> Vl z3 f λg=> br g.ng (oU M Q q r1 S (.int .i64 4611686018427387904) z4 a.2) (bd (pu (eB .mul .no z3.ng.ng b.ng.ng.ng)) λh=> oU M Q q r1 S h.ng z4 a.2)) (vX I q λn=> u6 z3 I q λi=> Cu I q λj=> bd (oK false i.ng.ng) (nK Q j))
def oV:=M.fx (xa (n9 M Q q))
def F8:=PC N I 51 M λa=> Cv a.1 λx1=> u3 N a.2 λb=> yF x1 a.2 λc=> VD a.2 λd=> oV M I.length a.2.length [b,c,d] a.2
def H7:Ev.Fn:=⟨19,[.tmp 4],T,T,(Yq 0 [vJ 4] (Yj (Yq 1 [YR 6,Yh 7 6,vJ 8] (.block 0 (.loop [0,1,7,8] [4] [] (Yq 2 [Ak 9 8 7] (Yj (Yz 9 .skip (.exit 0)) (Yj (.block 1 (Yq 3 [Yv 10 8,Yv 5 10] (Yq 4 [Vb2 11,YR 12,Yv 13 5,Ye 14 7 12 13,Jh 15 7 14,YX 16 11 15] (Ym 16 5 [Yv 17 5,Yv 4 17])))) (vf 6 [vV 18 8,Yv 8 18]))))))) (Yr 7 [J9 4])))⟩
def ya:=yp z8 z7 λx1=> br x1.ng (zf z8 S 7 λc=> zd c I 7 λd=> Vt z1 d I M λa=> br a.1.ng (NR z8 a.2 q λe=> Cu a.2 q λf=> bd (oK false e) (nK Q f)) (xy z8 λg=> UF q a.2 [S,z1,z7,g.ng] r1)) (vX I q λh=> Cu I q λb=> bd (oK false (.int .i64 (-1))) (nK Q b))
def Dq:=M.fx (xS (ya M Q q))
def L3:=wI N λe=> u3 N I λa=> u3 a1 I λb=> u3 e I λc=> VD I λd=> Dq M I.length I.length [a,b,c,d] I
def qo:Ev.Fn:=⟨6,[.tmp 2],T,T,(Yq 0 [Vb 1,vY 2] (Yr 1 [Jh 3 7 1,NH 4 34 3,CX 5 4,Yv 2 5]))⟩
def uW:=Am N I λa=> zd a.1 a.2 7 λx1=> D7 x1 a.2 34 M λb=> xb b.1 λc=> bd (oK false c.ng) (nK I.length b.2)
def FG:Ev.Fn:=⟨16,[.tmp 4],T,T,(Yq 0 [Vb 3,vY 4] (Yr 1 [Vdr 5 3,vj 6 5,Ya 7 0 1,vj 8 7,NF 9 6 8,Yv 10 9,J2 11 10 1 3,GB 12 10 11,GB 13 10 2,Pq 14 10 12 13,Fl 15 10 14,Yv 4 15]))⟩
def QdY(M:ah)(N a1 a2:V)(I:hN):Ro:=Am N I λa=> Rc a.1 λx1=> u9 x1 a.2 λd=> Rc a1 λe=> u9 e a.2 λf=> Ze d f λb=> E3 b a.1 1 λg=> NL b g a.2 λh=> NL b a2 a.2 λi=> EB b h i λj=> xu b j λc=> bd (oK false c.ng) (nK I.length a.2)
def Ko:bW M FG [N,a1,a2] I=QdY M N a1 a2 I:=vi
def LU:Ev.Fn:=⟨19,[.tmp 4],T,T,(Yq 0 [vJ 4] (Yj (Yq 1 [YR 6,Yh 7 6,vJ 8] (.block 0 (.loop [0,1,7,8] [4] [] (Yq 2 [Ak 9 8 7] (Yj (Yz 9 .skip (.exit 0)) (Yj (.block 1 (Yq 3 [Yv 10 8,Yv 5 10] (Yq 4 [Vb2 11,YR 12,Yv 13 5,Ye 14 3 12 13,Jh 15 3 14,YX 16 11 15] (Ym 16 5 [Yv 17 5,Yv 4 17])))) (vf 6 [vV 18 8,Yv 8 18]))))))) (Yr 7 [J9 4])))⟩
def m6:=yp z8 z7 λx1=> br x1.ng (zf z8 S 3 λc=> zd c I 3 λd=> Vt z1 d I M λa=> br a.1.ng (NR z8 a.2 q λe=> Cu a.2 q λf=> bd (oK false e) (nK Q f)) (xy z8 λg=> UF q a.2 [S,z1,z7,g.ng] r1)) (vX I q λh=> Cu I q λb=> bd (oK false (.int .i64 (-1))) (nK Q b))
def n_:=M.fx (xS (m6 M Q q))
def Fv:=wI N λe=> u3 N I λa=> u3 a1 I λb=> u3 e I λc=> VD I λd=> n_ M I.length I.length [a,b,c,d] I
def QaS:bW M LU [N,a1] I=Fv M N a1 I:=vi
def E6:Ev.Fn:=⟨64,[.tmp 4],T,T,(Yq 0 [Ch 3,xR 4] (Yj (.dH 1 [⟨Yl 13 true 3 3,0,[]⟩,⟨Yv 14 0,1,[]⟩,⟨Yk 15 (.dh 14),2,[]⟩,⟨Ya 16 0 15,3,[]⟩,⟨Yl 17 T 1 16,4,[]⟩,⟨Yc 18 57 [13,17],5,[]⟩,⟨Yv 12 18,6,[]⟩,⟨Yx 19 12 0,7,[]⟩,⟨Yx 20 12 1,8,[]⟩,⟨Yx 21 12 2,9,[]⟩,⟨Yu 5 19,10,[]⟩,⟨Yu 6 20,11,[]⟩,⟨Yu 7 21,12,[]⟩]) (Yj (Yq 2 [Yv 22 6,Yh 23 22,Hx 24 23 0] (Yz 24 (vf 3 [Yk 25 (.aw T 1 1 Yn [(0,(Ys []))] T),Yu 6 25]) (vf 4 [Yu 26 6,Yu 27 6,NH 28 58 27,Ps 29 28,YU 30 16 26 29,Yu 6 30]))) (Yj (Yq 5 [Yu 31 6,Yh 32 31,vJ 33] (.block 0 (.loop [0,3,4,5,31,32,33] [0,3,4] [] (Yq 6 [Ak 34 33 32] (Yj (Yz 34 .skip (.exit 0)) (Yj (.block 1 (Yq 7 [mT 35 31 33,vj 36 35,Yv 9 36] (Yq 8 [Yv 37 5,NH 38 56 37,Yv 39 5,NH 40 58 39,Ps 41 40,Q0 42 16 38 41,Yh 43 42,vJ 44] (.block 2 (.loop [0,3,4,5,9,31,32,33,42,43,44] [0,3,4,5,31,32,33] [] (Yq 9 [Ak 45 44 43] (Yj (Yz 45 .skip (.exit 2)) (Yj (.block 3 (Yq 10 [mT 46 42 44,vj 47 46,Yv 11 47] (Yj (Yq 11 [YR 48,NH 49 21 48,CX 50 49] (Ym 50 12 [xR 4])) (vf 13 [Yu 51 4,Yv 52 9,Yv 53 11,Yk 54 (.build [Y0,Y0,Yn,Yn,.ad,.ad,Yn] [(2,1,52),(3,1,53)]),ND 55 7 54,wY 56 7 112 51 55,Yu 4 56])))) (vf 14 [vV 57 44,Yv 44 57]))))))))) (vf 15 [vV 58 33,Yv 33 58]))))))) (Yr 16 [YR 59,Yu 60 4,Ya 61 2 3,vj 62 61,BL 63 59 59 60 62,Yu 4 63])))))⟩
def Aq:=yp z44 z43 λc=> br c.ng (Ubh z44 z42 1 λd=> u9 d I λe=> PC S I 21 M λa=> xb a.1 λf=> br f.ng (u6 S a.2 u λg=> u6 z3 a.2 u λh=> Re a.2 u λi=> u6 z5 a.2 u λA=> u6 z31 a.2 u λB=> u6 z32 a.2 u λC=> u6 z33 a.2 u λD=> Cu a.2 u λb=> u6 g b q λE=> u6 h b q λF=> u6 i b q λj=> Cu b q λk=> bd (oK false j) (nK Q k)) (bd (pu (mz [(.int .i64 0),(.int .i64 0),(.str []),(.str []),.ad,.ad,(.str [])] [(2,1,z9.ng.ng),(3,1,e.ng.ng.ng)])) λl=> G4 l λm=> Jl z4 m a.2 7 112 λn=> xy z44 λo=> UF u a.2 [S,z3,n,z5,z9,z31,z32,z33,z42,z43,o.ng] r2)) (u6 S I u λp=> u6 z3 I u λr=> u6 z4 I u λs=> u6 z5 I u λt=> u6 z31 I u λv=> u6 z32 I u λw=> u6 z33 I u λx=> Cu I u λy=> xy x λz=> UF q y [p,r,s,t,v,w,z.ng] r1)
def B':=M.fx (C9 (Aq M Q q r1 u))
def Ca:=yp z33 z32 λf=> br f.ng (Ubh z33 z31 1 λg=> u9 g I λh=> PC z5 I 56 M λb=> PC z5 b.2 58 M λa=> Vv a.1 λi=> Lk b.1 i a.2 1 16 λc=> Cv c λj=> u3 S a.2 λk=> u3 z3 a.2 λl=> u3 z4 a.2 λm=> u3 z5 a.2 λn=> yF h a.2 λo=> u3 z31 a.2 λp=> u3 z32 a.2 λr=> u3 z33 a.2 λs=> u3 c a.2 λt=> u3 j a.2 λu=> VD a.2 λv=> B' M Q q r1 a.2.length [k,l,m,n,o,p,r,s,t,u,v] a.2) (u6 S I q λw=> u6 z3 I q λx=> u6 z4 I q λy=> Cu I q λd=> xi x 2 λz=> u9 z d λA=> bd (M.call 59 [w.ng.ng,y.ng,A.ng] d) λe=> bd (oK false e.1) (nK Q e.2))
def zm:=M.fx (E1 (Ca M Q q))
def Dc:=Cv z6 λh=> u3 S I λa=> u3 z3 I λb=> u3 z4 I λc=> u3 z5 I λd=> u3 z6 I λe=> u3 h I λf=> VD I λg=> zm M Q I.length [a,b,c,d,e,f,g] I
def Kf:=Am a1 I λa=> zd a.1 a.2 3 λx1=> Uaj N λk=> Rc k λl=> u9 l a.2 λm=> Vn x1 m a.2 57 M λb=> Uba b.1 0 λj=> Uba b.1 1 λe=> Uba b.1 2 λn=> wI e λf=> vt f 0 λg=> br g.ng (bd (wS false 1 1 (.str []) [(0,(.str []))]) λh=> Dc M I.length N a.1 .ad j h b.2) (PC e b.2 58 M λc=> Vv c.1 λi=> Zj e i c.2 1 16 λd=> Dc M I.length N a.1 .ad j d.1 d.2)
def Zv:bW M E6 [N,a1] I=Kf M N a1 I:=vi
def CI:Ev.Fn:=⟨64,[.tmp 4],T,T,(Yq 0 [Ch 3,xR 4] (Yq 1 [Lg 14,ND 15 7 14,Yu 5 15] (Yj (Yj (.dH 2 [⟨Yl 16 true 3 3,0,[]⟩,⟨Yv 17 0,1,[]⟩,⟨Yk 18 (.dh 17),2,[]⟩,⟨Ya 19 0 18,3,[]⟩,⟨Yl 20 T 1 19,4,[]⟩,⟨Yv 23 (Yi 0),7,[]⟩,⟨Yc 21 60 [16,20],5,[]⟩,⟨Yh 22 21,6,[]⟩]) (.block 0 (.loop [0,3,5,21,22,23] [4,5] [] (Yq 3 [Ak 24 23 22] (Yj (Yz 24 .skip (.exit 0)) (Yj (.block 1 (Yq 4 [Ye 25 3 21 23,Jh 26 3 25,Vc8 7,J4 3 7 26] (Yq 5 [xR 8] (Yq 6 [YR 27,Jh 28 3 7,YS 29 61 27 28,Yu 9 29] (Yj (Yq 7 [Yu 30 5,Yh 31 30,vJ 32] (.block 2 (.loop [0,3,7,8,9,21,22,23,30,31,32] [0,3,4,5,8,21,22,23] [] (Yq 8 [Ak 33 32 31] (Yj (Yz 33 .skip (.exit 2)) (Yj (.block 3 (Yq 9 [Ye 34 7 30 32,Jh 35 7 34,Po 11,J4 7 11 35] (Yq 10 [Yv 36 9,Yh 37 36,vJ 38] (.block 4 (.loop [0,3,7,8,9,11,21,22,23,30,31,32,36,37,38] [0,3,4,5,7,8,9,21,22,23,30,31,32] [] (Yq 11 [Ak 39 38 37] (Yj (Yz 39 .skip (.exit 4)) (Yj (.block 5 (Yq 12 [Ye 40 3 36 38,Jh 41 3 40,Yk 13 (.alloc [.ad,Yn,Yb]),J4 3 13 41] (Yj (Yq 13 [YR 42,NH 43 21 42,CX 44 43] (Ym 44 14 [xR 4])) (vf 15 [Yu 45 8,Jh 46 7 11,Vdr 47 7,vj 48 47,Ya 49 1 3,vj 50 49,Jh 51 3 13,Yc 52 62 [46,48,50,51],ND 53 7 52,wY 54 7 112 45 53,Yu 8 54])))) (vf 16 [vV 55 38,Yv 38 55]))))))))) (vf 17 [vV 56 32,Yv 32 56]))))))) (vf 18 [YR 57,Yu 58 8,Ya 59 2 3,vj 60 59,BL 61 59 57 58 60,Yu 5 61])))))) (vf 19 [vV 62 23,Yv 23 62]))))))) (Yr 20 [Yu 63 5,Yu 4 63]))))⟩
def Ar(M:ah)(Q:Nat)(q:Nat)(r1:Rk)(u:Nat)(r2:Rk)(z:Nat)(r3:Rk)(S z3 z7 z8 z9 z11 z21 z22 z23 z30 z31 z32 f g c:V)(I:hN):Ro:=yp c g λh=> br h.ng (Ubh c f 3 λi=> zd i I 3 λj=>
 let k:hN:=I++[.cells [.ad,(.str []),(.bool false)]]
 CG j k I 3 0 λl=> PC S l.2 21 M λa=> xb a.1 λm=> br m.ng (u6 S a.2 z λn=> u6 z3 a.2 z λo=> Re a.2 z λp=> vX a.2 z λr=> u6 z7 a.2 z λh=> u6 z8 a.2 z λs=> u6 z9 a.2 z λh=> u6 z21 a.2 z λt=> u6 z22 a.2 z λv=> u6 z23 a.2 z λw=> u6 z30 a.2 z λh=> u6 z31 a.2 z λh=> u6 z32 a.2 z λh=> Cu a.2 z λb=> u6 n b u λh=> u6 o b u λh=> u6 p b u λx=> u6 r b u λy=> u6 s b u λh=> u6 t b u λh=> u6 v b u λh=> u6 w b u λh=> Cu b u λd=> u6 x d q λA=> u6 y d q λb=> Cu d q λB=> bd (oK false A) (nK Q B)) (zd z11 a.2 7 λC=> Rc z7 λD=> u9 D a.2 λE=> xi z3 1 λF=> u9 F a.2 λG=> G6 a.2 I 3 0 λH=> bd (M.call 62 [C.ng,E.ng,G.ng,H.ng] a.2) λe=> G4 e.1 λJ=> Jl z8 J e.2 7 112 λK=> xy c λL=> UF z e.2 [S,z3,z7,K,z9,z11,z21,z22,z23,z30,z31,z32,f,g,L.ng] r3)) (u6 S I z λN=> u6 z3 I z λO=> vX I z λa=> vX I z λa=> u6 z7 I z λP=> u6 z8 I z λR=> u6 z9 I z λU=> u6 z21 I z λX=> u6 z22 I z λa=> u6 z23 I z λb=> u6 z30 I z λc=> u6 z31 I z λd=> u6 z32 I z λe=> Cu I z λf=> xy e λe=> UF u f [N,O,P,R,U,X,a,b,c,d,e.ng] r2)
def As:=M.fx (Y7 (Ar M Q q r1 u r2 z))
def Cb:=yp z32 z31 λD=> br D.ng (Ubh z32 z30 7 λE=> zd E I 7 λF=>
 let G:hN:=I++[.cells [(.int .i64 0),(.int .i64 0),(.str []),(.str []),.ad,.ad,(.str [])]]
 CG F G I 7 0 λa=> wI z9 λH=> u3 S a.2 λf=> u3 z3 a.2 λg=> u3 z7 a.2 λh=> u3 z8 a.2 λi=> u3 z9 a.2 λj=> Lo a.2 I λk=> u3 z21 a.2 λl=> u3 z22 a.2 λm=> u3 z23 a.2 λn=> u3 z30 a.2 λo=> u3 z31 a.2 λp=> u3 z32 a.2 λr=> yF z9 a.2 λs=> u3 H a.2 λt=> VD a.2 λv=> As M Q q r1 u r2 a.2.length [f,g,h,i,j,k,l,m,n,o,p,r,s,t,v] a.2) (u6 S I u λb=> u6 z3 I u λc=> vX I u λJ=> vX I u λK=> u6 z8 I u λw=> u6 z21 I u λx=> u6 z22 I u λy=> u6 z23 I u λz=> Cu I u λd=> xi c 2 λA=> u9 A d λB=> bd (M.call 59 [b.ng.ng,w.ng,B.ng] d) λe=> xy z λC=> UF q e.2 [b,c,e.1,x,y,C.ng] r1)
def yu:=M.fx (C9 (Cb M Q q r1 u))
def Cc:=yp z23 z22 λw=> br w.ng (Ubh z23 z21 3 λp=> zd p I 3 λr=>
 let s:hN:=I++[.cells [(.str []),.ad,.ad]]
 CG r s I 3 0 λb=> G6 b.2 I 3 0 λt=> NQ S t b.2 61 M λa=> Cv z5 λu=> u3 S a.2 λc=> u3 z3 a.2 λd=> Lo a.2 I λe=> G5 a.2 λf=> u3 a.1 a.2 λg=> u3 z21 a.2 λh=> u3 z22 a.2 λi=> u3 z23 a.2 λj=> u3 z5 a.2 λk=> u3 u a.2 λl=> VD a.2 λm=> yu M Q q r1 a.2.length [c,d,e,f,g,h,i,j,k,l,m] a.2) (vX I q λv=> u6 z5 I q λn=> Cu I q λo=> bd (oK false n) (nK Q o))
def yv:=M.fx (Al (Cc M Q q))
def Kg:=Am a1 I λb=> Vz λx1=> G4 x1 λi=> zd b.1 b.2 3 λj=> Uaj N λk=> Rc k λl=> u9 l b.2 λm=> Vn j m b.2 60 M λa=> Cv a.1 λn=> u3 N a.2 λc=> u3 b.1 a.2 λd=> u3 i a.2 λe=> u3 a.1 a.2 λf=> u3 n a.2 λg=> VD a.2 λh=> yv M I.length a.2.length [c,d,e,f,g,h] a.2
abbrev aN{b:Type}(x:Option b)(f:b->Ro):Ro:=
 match x with
 |some a=>f a
 |none=>none
def CV(M:ah)(Q:Nat)(q:Nat)(r1:Rk)(u:Nat)(r2:Rk)(z:Nat)(r3:Rk)(S z3 z7 z8 z9 z11 z21 z22 z23 z30 z31 z32 g h e:V)(I:hN):Ro:=
 aN (pu (eB .lss .no e.ng h.ng)) λt=>
 br t.ng (
 aN (pu (eI 3 e.ng g.ng)) λv=>
 aN (pu (eL I true 3 v.ng)) λi=>
 let w:hN:=I++[.cells [.ad,(.str []),(.bool false)]]
 aN (u5 w 3 (.ptr I.length 0) i.ng i.ng) λx=>
 aN (M.call 21 [S.ng.ng] x.2) λa=>
 aN (pu (fk .not a.1.ng)) λy=>
 br y.ng (
 aN (fz z a.2 fzD S) λA=>
 aN (fz z a.2 fzD z3) λB=>
 aN (fz z a.2 fzD .ad) λC=>
 aN (fz z a.2 fzD .any) λD=>
 aN (fz z a.2 fzD z7) λi=>
 aN (fz z a.2 fzD z8) λE=>
 aN (fz z a.2 fzD z9) λi=>
 aN (fz z a.2 fzD z21) λF=>
 aN (fz z a.2 fzD z22) λG=>
 aN (fz z a.2 fzD z23) λH=>
 aN (fz z a.2 fzD z30) λi=>
 aN (fz z a.2 fzD z31) λi=>
 aN (fz z a.2 fzD z32) λi=>
 aN (ve z a.2) λd=>
 aN (fz u d fzD A) λi=>
 aN (fz u d fzD B) λi=>
 aN (fz u d fzD C) λJ=>
 aN (fz u d fzD D) λK=>
 aN (fz u d fzD E) λi=>
 aN (fz u d fzD F) λi=>
 aN (fz u d fzD G) λi=>
 aN (fz u d fzD H) λi=>
 aN (ve u d) λf=>
 aN (fz q f fzD J) λL=>
 aN (fz q f fzD K) λd=>
 aN (ve q f) λN=>
 aN (oK false L) (nK Q N)) (
 aN (pu (eL a.2 true 7 z11.ng)) λO=>
 aN (pu (eF 0 z7.ng)) λP=>
 aN (pu (eL a.2 false 1 P.ng)) λR=>
 aN (pu (eF 1 z3.ng)) λU=>
 aN (pu (eL a.2 false 1 U.ng)) λX=>
 aN (pu (eL a.2 true 3 (.ptr I.length 0))) λd=>
 aN (M.call 62 [O.ng,R.ng,X.ng,d.ng] a.2) λb=>
 aN (wS true 7 1 (.agg [(.int .i64 0),(.int .i64 0),(.str []),(.str []),.ad,.ad,(.str [])]) [(0,b.1.ng)]) λa=>
 aN (aT false true 7 112 b.2 z8 a.ng) λa=>
 aN (pu (eB .add .no e.ng (.int .i64 1))) λd=>
 aN (fz z b.2 fzD S) λe=>
 aN (fz z b.2 fzD z3) λf=>
 aN (fz z b.2 fzD z7) λi=>
 aN (fz z b.2 fzD a) λa=>
 aN (fz z b.2 fzD z9) λt=>
 aN (fz z b.2 fzD z11) λv=>
 aN (fz z b.2 fzD z21) λw=>
 aN (fz z b.2 fzD z22) λx=>
 aN (fz z b.2 fzD z23) λy=>
 aN (fz z b.2 fzD z30) λA=>
 aN (fz z b.2 fzD z31) λB=>
 aN (fz z b.2 fzD z32) λC=>
 aN (fz z b.2 fzD g) λg=>
 aN (fz z b.2 fzD h) λh=>
 aN (fz z b.2 fzD d.ng) λd=>
 aN (ve z b.2) λb=>r3 [e,f,i,a,t,v,w,x,y,A,B,C,g,h,d] b)) (
 aN (fz z I fzD S) λa=>
 aN (fz z I fzD z3) λb=>
 aN (fz z I fzD .any) λd=>
 aN (fz z I fzD .any) λd=>
 aN (fz z I fzD z7) λd=>
 aN (fz z I fzD z8) λe=>
 aN (fz z I fzD z9) λf=>
 aN (fz z I fzD z21) λg=>
 aN (fz z I fzD z22) λh=>
 aN (fz z I fzD z23) λi=>
 aN (fz z I fzD z30) λt=>
 aN (fz z I fzD z31) λv=>
 aN (fz z I fzD z32) λw=>
 aN (ve z I) λc=>
 aN (pu (eB .add .no w.ng (.int .i64 1))) λw=>
 aN (fz u c fzD a) λa=>
 aN (fz u c fzD b) λb=>
 aN (fz u c fzD d) λd=>
 aN (fz u c fzD e) λj=>
 aN (fz u c fzD f) λk=>
 aN (fz u c fzD g) λl=>
 aN (fz u c fzD h) λm=>
 aN (fz u c fzD i) λn=>
 aN (fz u c fzD t) λo=>
 aN (fz u c fzD v) λp=>
 aN (fz u c fzD w.ng) λr=>
 aN (ve u c) λs=>r2 [a,b,d,j,k,l,m,n,o,p,r] s)
def G8(M:ah)(Q:Nat)(q:Nat)(r1:Rk)(u:Nat)(r2:Rk)(z:Nat):Rk:=M.fx λrec a I=>CV M Q q r1 u r2 z rec (a.getD 0 .undef) (a.getD 1 .undef) (a.getD 2 .undef) (a.getD 3 .undef) (a.getD 4 .undef) (a.getD 5 .undef) (a.getD 6 .undef) (a.getD 7 .undef) (a.getD 8 .undef) (a.getD 9 .undef) (a.getD 10 .undef) (a.getD 11 .undef) (a.getD 12 .undef) (a.getD 13 .undef) (a.getD 14 .undef) I
def Fg(M:ah)(Q:Nat)(q:Nat)(r1:Rk)(u:Nat)(r2:Rk)(S z3 z7 z8 z9 z21 z22 z23 z30 z31 z32:V)(I:hN):Ro:=
 aN (pu (eB .lss .no z32.ng z31.ng)) λN=>
 br N.ng (
 aN (pu (eI 7 z32.ng z30.ng)) λO=>
 aN (pu (eL I true 7 O.ng)) λf=>
 let P:hN:=I++[.cells [(.int .i64 0),(.int .i64 0),(.str []),(.str []),.ad,.ad,(.str [])]]
 aN (u5 P 7 (.ptr I.length 0) f.ng f.ng) λa=>
 aN (pu (Qai z9.ng.ng)) λR=>
 aN (fz a.2.length a.2 fzD S) λg=>
 aN (fz a.2.length a.2 fzD z3) λh=>
 aN (fz a.2.length a.2 fzD z7) λi=>
 aN (fz a.2.length a.2 fzD z8) λj=>
 aN (fz a.2.length a.2 fzD z9) λk=>
 aN (fz a.2.length a.2 fzD (.ptr I.length 0)) λl=>
 aN (fz a.2.length a.2 fzD z21) λm=>
 aN (fz a.2.length a.2 fzD z22) λn=>
 aN (fz a.2.length a.2 fzD z23) λo=>
 aN (fz a.2.length a.2 fzD z30) λp=>
 aN (fz a.2.length a.2 fzD z31) λr=>
 aN (fz a.2.length a.2 fzD z32) λs=>
 aN (fz a.2.length a.2 fzD z9.ng) λt=>
 aN (fz a.2.length a.2 fzD R) λv=>
 aN (fz a.2.length a.2 fzD (.int .i64 0)) λw=>
 G8 M Q q r1 u r2 a.2.length [g,h,i,j,k,l,m,n,o,p,r,s,t,v,w] a.2) (
 aN (fz u I fzD S) λc=>
 aN (fz u I fzD z3) λd=>
 aN (fz u I fzD .any) λU=>
 aN (fz u I fzD .any) λX=>
 aN (fz u I fzD z8) λx=>
 aN (fz u I fzD z21) λy=>
 aN (fz u I fzD z22) λz=>
 aN (fz u I fzD z23) λA=>
 aN (ve u I) λe=>
 aN (pu (eF 2 d.ng)) λB=>
 aN (pu (eL e false 1 B.ng)) λC=>
 aN (M.call 59 [c.ng.ng,x.ng,C.ng] e) λb=>
 aN (pu (eB .add .no A.ng (.int .i64 1))) λD=>
 aN (fz q b.2 fzD c) λE=>
 aN (fz q b.2 fzD d) λF=>
 aN (fz q b.2 fzD b.1) λG=>
 aN (fz q b.2 fzD y) λH=>
 aN (fz q b.2 fzD z) λJ=>
 aN (fz q b.2 fzD D.ng) λK=>
 aN (ve q b.2) λL=>r1 [E,F,G,H,J,K] L)
def Qbx(M:ah)(Q:Nat)(q:Nat)(r1:Rk)(u:Nat):Rk:=M.fx λrec a I=>Fg M Q q r1 u rec (a.getD 0 .undef) (a.getD 1 .undef) (a.getD 2 .undef) (a.getD 3 .undef) (a.getD 4 .undef) (a.getD 5 .undef) (a.getD 6 .undef) (a.getD 7 .undef) (a.getD 8 .undef) (a.getD 9 .undef) (a.getD 10 .undef) I
def yU(M:ah)(Q:Nat)(q:Nat)(r1:Rk)(S z3 z5 z21 z22 z23:V)(I:hN):Ro:=
 aN (pu (eB .lss .no z23.ng z22.ng)) λw=>
 br w.ng (
 aN (pu (eI 3 z23.ng z21.ng)) λr=>
 aN (pu (eL I true 3 r.ng)) λb=>
 let s:hN:=I++[.cells [(.str []),.ad,.ad]]
 aN (u5 s 3 (.ptr I.length 0) b.ng b.ng) λc=>
 aN (pu (eL c.2 true 3 (.ptr I.length 0))) λt=>
 aN (M.call 61 [S.ng.ng,t.ng] c.2) λa=>
 aN (pu (Qai z5.ng)) λu=>
 aN (fz a.2.length a.2 fzD S) λd=>
 aN (fz a.2.length a.2 fzD z3) λe=>
 aN (fz a.2.length a.2 fzD (.ptr I.length 0)) λf=>
 aN (fz a.2.length a.2 fzD .ad) λg=>
 aN (fz a.2.length a.2 fzD a.1) λh=>
 aN (fz a.2.length a.2 fzD z21) λi=>
 aN (fz a.2.length a.2 fzD z22) λj=>
 aN (fz a.2.length a.2 fzD z23) λk=>
 aN (fz a.2.length a.2 fzD z5) λl=>
 aN (fz a.2.length a.2 fzD u) λm=>
 aN (fz a.2.length a.2 fzD (.int .i64 0)) λn=>
 Qbx M Q q r1 a.2.length [d,e,f,g,h,i,j,k,l,m,n] a.2) (
 aN (fz q I fzD .any) λv=>
 aN (fz q I fzD z5) λo=>
 aN (ve q I) λp=>
 aN (oK false o) (nK Q p))
def PM(M:ah)(Q:Nat)(q:Nat):Rk:=M.fx λrec a I=>yU M Q q rec (a.getD 0 .undef) (a.getD 1 .undef) (a.getD 2 .undef) (a.getD 3 .undef) (a.getD 4 .undef) (a.getD 5 .undef) I
def Zr(M:ah)(N a1:V)(I:hN):Ro:=
 aN (bK I a1.ng) λb=>
 aN (pu (mz [(.int .i64 0),(.int .i64 0),(.str []),(.str []),.ad,.ad,(.str [])] [])) λx1=>
 aN (wS true 7 1 (.agg [(.int .i64 0),(.int .i64 0),(.str []),(.str []),.ad,.ad,(.str [])]) [(0,x1.ng)]) λi=>
 aN (pu (eL b.2 true 3 b.1.ng)) λj=>
 aN (pu (Qau N.ng.ng)) λk=>
 aN (pu (eF 0 k.ng)) λl=>
 aN (pu (eL b.2 false 1 l.ng)) λm=>
 aN (M.call 60 [j.ng,m.ng] b.2) λa=>
 aN (pu (Qai a.1.ng)) λn=>
 aN (fz a.2.length a.2 fzD N) λc=>
 aN (fz a.2.length a.2 fzD b.1) λd=>
 aN (fz a.2.length a.2 fzD i) λe=>
 aN (fz a.2.length a.2 fzD a.1) λf=>
 aN (fz a.2.length a.2 fzD n) λg=>
 aN (fz a.2.length a.2 fzD (.int .i64 0)) λh=>
 PM M I.length a.2.length [c,d,e,f,g,h] a.2
def Qhr(M:ah)(N a1:V)(I:hN):bW M CI [N,a1] I=Zr M N a1 I:=X0K
def Ey(M:ah)(N a1:V)(I:hN):Zr M N a1 I=Kg M N a1 I:=X0K
def Zz(M:ah)(N a1:V)(I:hN):bW M CI [N,a1] I=Kg M N a1 I:=(Qhr M N a1 I).trans (Ey M N a1 I)
def N4:Ev.Fn:=⟨19,[.tmp 4],T,T,(Yq 0 [Ch 3,xR 4] (Yj (Yq 1 [YR 5,NH 6 21 5,CX 7 6,Yv 8 7,xD 9 8 0,QZ 10 8 21 9,Q2 11 8 10,NC 12 8 11] (Ym 12 2 [xR 4])) (Yr 3 [Lg 13,Ya 14 1 3,vj 15 14,Ps 16 15,Yk 17 (.build [Y0,Y0,Yn,Yn,.ad,.ad,Yn] [(5,1,16)]),Yk 18 (.aw true 7 2 (.agg [Y0,Y0,Yn,Yn,.ad,.ad,Yn]) [(0,13),(1,17)] T),Yu 4 18])))⟩
def HW:=Am a1 I λf=> PC N f.2 21 M λg=> xb g.1 λa=> xj a N λh=> NT a h g.2 21 M λb=> Lj a b.1 λi=> xE a i λj=> br j.ng (bd (oK false .ad) (nK I.length b.2)) (Vz λk=> xi f.1 1 λl=> u9 l b.2 λm=> Vv m λc=> bd (pu (mz [(.int .i64 0),(.int .i64 0),(.str []),(.str []),.ad,.ad,(.str [])] [(5,1,c.ng)])) λd=> bd (wS true 7 2 (.agg [(.int .i64 0),(.int .i64 0),(.str []),(.str []),.ad,.ad,(.str [])]) [(0,k.ng),(1,d.ng)]) λe=> bd (oK false e) (nK I.length b.2))
def ZA:bW M N4 [N,a1] I=HW M N a1 I:=vi
def Mr:Ev.Fn:=⟨29,[.cell 4 true 7],T,T,(Yq 0 [Vb 2,Ch 3,Po 4] (Yj (Yq 1 [Ya 5 3 3,vj 6 5,Y6 7 6] (Yz 7 (.dH 2 [⟨Ya 8 2 3,0,[]⟩,⟨Yl 9 T 1 8,1,[]⟩,⟨Ya 10 3 3,2,[]⟩,⟨Yl 11 T 1 10,3,[]⟩,⟨Ya 12 2 2,4,[]⟩,⟨Yw 1 12 9 T,5,[3]⟩,⟨Ya 13 3 2,6,[]⟩,⟨Yw 1 13 11 T,7,[]⟩]) .skip)) (Yj (.dH 3 [⟨Ya 14 4 2,0,[]⟩,⟨Yl 15 T 1 14,1,[]⟩,⟨Ya 17 4 3,3,[]⟩,⟨Yl 18 T 1 17,4,[]⟩,⟨Yc 16 55 [15],2,[3]⟩,⟨Yk 19 (.app T true 3 48 16 18 true),5,[]⟩,⟨Ya 20 4 2,6,[]⟩,⟨Yw 1 20 19 true,7,[]⟩]) (Yj (.dH 4 [⟨Ya 21 5 2,0,[]⟩,⟨Yl 22 T 1 21,1,[]⟩,⟨Ya 24 5 3,3,[]⟩,⟨Yl 25 T 1 24,4,[]⟩,⟨Yc 23 56 [22],2,[3]⟩,⟨Yk 26 (.app T T 1 16 23 25 true),5,[]⟩,⟨Ya 27 5 2,6,[]⟩,⟨Yw 1 27 26 true,7,[]⟩]) (Yr 5 [Jh 28 7 2,J4 7 4 28])))))⟩
def oW:=xi z2 4 λt=> u9 t I λu=> xi z3 4 λg=> u9 g I λv=> Y_ g I λw=> D7 u w 55 M λr=> PJ g I r.2 λs=> Jl r.1 v s 3 48 λh=> xi z2 4 λi=> PI i h s λa=> xi z2 5 λj=> u9 j a.2 λk=> xi z3 5 λb=> u9 b a.2 λl=> Y_ b a.2 λm=> D7 k m 56 M λc=> PJ b a.2 c.2 λd=> Lk c.1 l d 1 16 λn=> xi z2 5 λo=> PI o n d λe=> zd z2 e.2 7 λp=> Ka z4 p e.2 7 λf=> bd (il f.2 true 7 z4) λq=> bd (oK false q) (nK Q f.2)
def Ms:=Am N I λd=> Am a1 d.2 λa=>
 let c:hN:=a.2++[.cells [(.int .i64 0),(.int .i64 0),(.str []),(.str []),.ad,.ad,(.str [])]]
 xi a.1 3 λe=> u9 e c λf=> Vo f λg=> br g.ng (xi a.1 2 λh=> u9 h c λi=> xi a.1 3 λb=> u9 b c λj=> xi d.1 2 λk=> Y_ b c λl=> Ka k i l 1 λm=> PJ b c m.2 λn=> xi d.1 3 λo=> Ka o j n 1 λp=> oW M I.length d.1 a.1 (.ptr a.2.length 0) p.2) (oW M I.length d.1 a.1 (.ptr a.2.length 0) c)
def uX:Ev.Fn:=⟨28,[.tmp 3],T,T,(Yq 0 [Vb 2,vY 3] (Yr 1 [Ya 4 1 2,vj 5 4,Ya 6 3 1,vj 7 6,NF 8 5 7,Yv 9 8,J2 10 9 1 1,GB 11 9 10,J6 12 9 11,xC 13 9 12,wz 14 13 2 1,Aj 15 13 14,wz 16 13 0 2,Aj 17 13 16,DV 18 13 15 17,YQ 19 9 13 18,Fl 20 9 19,Yv 21 20,J2 22 21 4 1,Y3 23 21 3 22,J2 24 21 2 2,GB 25 21 24,⟨some 26,(some (21,true)),.call 43 [23,25]⟩,Fl 27 21 26,Yv 3 27]))⟩
def m7:=Am N I λb=> xi b.1 1 λx1=> u9 x1 b.2 λq=> xi a1 3 λr=> u9 r b.2 λs=> Ze q s λc=> E3 c a1 1 λt=> NL c t b.2 λu=> Ll c u λv=> E2 c v λd=> bd (aU d false (pu (eF 2 a1.ng))) λf=> Lu d f b.2 λg=> bd (aU d false (pu (eF 0 b.1.ng))) λh=> Lu d h b.2 λi=> Rg d g i λj=> CH c d j λk=> xu c k λa=> E3 a a1 4 λl=> bd (aU a.ng true (pu (eL b.2 true 3 l.ng))) λm=> E3 a b.1 2 λn=> NL a n b.2 λo=> bd (fO a.ng true (M.call 43 [m.ng,o.ng] b.2) b.2) λe=> xu a e.1 λp=> bd (oK false p.ng) (nK I.length e.2)
def Cj:bW M uX [N,a1] I=m7 M N a1 I:=vi
end
section
variable(M:ah)(u q:Nat)(z:Rk)(n2:Nat)(r2:Rk)(n3:Nat)(r3:Rk)(n4:Nat)(r4:Rk)(n5:Nat)(N a1 a2 a3 a4 a5 a6 a7 a8 a9 a10 a11:V)(z0 z1 z2 S z4 z5 z6 z7 z8 z9 z10 z11 z12 Q z14 z15 z20 z21 z29 z30 z31 z38 z39 z40:V)(I:hN)
def Fu:Ev.Fn:=⟨9,[.tmp 4],T,T,(Yq 0 [vY 4] (Yr 1 [mA 5,Vb2 6,YS 7 63 5 6,YT 8 7,Yv 4 8]))⟩
def LS:=Q9 N a1 I 63 M λa=> Vj a.1 λx1=> bd (oK false x1.ng) (nK I.length a.2)
def QaX:bW M Fu [N,a1] I=LS M N a1 I:=vi
def L4:Ev.Fn:=⟨9,[.tmp 4],T,T,(Yq 0 [vY 4] (Yr 1 [mA 5,Vb2 6,YS 7 71 5 6,YT 8 7,Yv 4 8]))⟩
def L5:=Q9 N a1 I 71 M λa=> Vj a.1 λx1=> bd (oK false x1.ng) (nK I.length a.2)
def F9:bW M L4 [N,a1] I=L5 M N a1 I:=vi
def vA:Ev.Fn:=⟨55,[.tmp 4,.tmp 5],T,T,(Yq 0 [vJ 4,vJ 5] (Yj (Yq 1 [Lh 6 1] (.block 0 (.loop [0,1,6] [0,1,4,5] [] (Yj (Yq 2 [Yv 8 6,Yo 9 .leq .no 8 (Yi 4),Yv 10 9,xC 11 10 1,xC 12 10 6,Vcm 13 10 11 12,xC 14 10 0,Vc6 15 10 14,Veb 16 10 13 15,Fl 17 10 16] (Yz 17 .skip (.exit 0))) (Yj (.block 1 (Yq 4 [YR 20,Vb2 21,Vb2 22,Yv 23 6,A3 24 22 23,Vd5 25 20 21 24,NH 26 50 25] (Ym 26 5 [mA 27,Vb2 28,Vb2 29,Yv 30 6,A3 31 29 30,Vd5 32 27 28 31,NH 33 75 32,Yv 34 6,Yv 4 33,Yv 5 34]))) (vf 3 [Yv 18 6,vV 19 18,Yv 6 19])))))) (Yj (Yq 6 [Lh 7 3] (.block 2 (.loop [0,1,7] [4,5] [] (Yj (Yq 7 [Yv 35 7,YZ 36 35 1] (Yz 36 .skip (.exit 2))) (Yj (.block 3 (Yq 9 [Vb2 39,Yv 40 7,A3 41 39 40,YR 42,Yh 43 42,Yo 44 .leq .no 41 43,Yv 45 44,xC 46 45 0,xC 47 45 1,xC 48 45 1,xC 49 45 7,Vcm 50 45 48 49,⟨some 51,(some (45,true)),.cut 1 46 (some 47) (some 50) none⟩,yi 52 45 76 51,Fl 53 45 52] (Ym 53 10 [Yv 54 7,Lh 4 65533,Yv 5 54]))) (vf 8 [Yv 37 7,DD 38 37 1,Yv 7 38])))))) (Yr 11 [Lh 4 65533,Lh 5 1]))))⟩
def mN:=bd (pu (eB .gtr .no z7.ng.ng (.int .i64 1))) λc=> br c.ng (G7 z1 z7 λd=> wI z0 λe=> bd (pu (eB .leq .no d.ng e.ng)) λa=> E2 a z0 λf=> E2 a z1 λg=> E2 a z1 λh=> E2 a z7 λi=> Zi a h i λj=> bd (aU a.ng true (pu (yy 1 f.ng (some g.ng) (some j.ng) none))) λk=> Af a k I 76 M λb=> xu a b.1 λl=> br l.ng (bd (fz q b.2 fzD (.int .i64 65533)) λm=> Zq z7 b.2 q λn=> Cu b.2 q λo=> nK u o (.aR [V.aI m,V.aI n])) (PK z7 1 λp=> UF q b.2 [z0,z1,p.ng] z)) (vX I q λs=> vX I q λt=> Cu I q λr=> nK u r (.aR [V.aI (.int .i64 65533),V.aI (.int .i64 1)]))
def pP:=M.fx (xa (mN M u q))
def m8:=bd (pu (eB .leq .no z6.ng.ng (.int .i64 4))) λc=> E2 c z1 λx1=> E2 c z6 λp=> Zi c x1 p λr=> E2 c z0 λs=> Ra c s λt=> bd (aU c.ng true (pu (eB .leq .no r.ng t.ng))) λv=> xu c v λw=> br w.ng (G7 z1 z6 λx=> bd (pu (yy 1 z0.ng.ng (some z1.ng.ng) (some x.ng) none)) λy=> D7 y I 50 M λd=> br d.1.ng (G7 z1 z6 λe=> bd (pu (yy 1 z0.ng (some z1.ng.ng) (some e.ng) none)) λf=> D7 f d.2 75 M λa=> Vp z0 a.2 q λA=> u6 z1 a.2 q λB=> Vp a.1 a.2 q λg=> Zq z6 a.2 q λh=> Cu a.2 q λi=> nK u i (.aR [V.aI g,V.aI h])) (yh z6 λj=> UF q d.2 [z0,z1,j.ng] z)) (u6 z0 I q λk=> u6 z1 I q λl=> vX I q λC=> vX I q λD=> Cu I q λb=> u3 k b λm=> u3 l b λn=> v8 b 3 λo=> pP M u b.length [m,n,o] b)
def pQ:=M.fx (xa (m8 M u q))
def F':=u3 N I λa=> u3 a1 I λb=> v8 I 1 λc=> pQ M I.length I.length [a,b,c] I
def Gb:Ev.Fn:=⟨16,[.tmp 2],T,T,(Yq 0 [vY 2] (Yq 1 [YR 4,NH 5 75 4,Yv 3 5] (Yj (.dH 2 [⟨Yv 6 3,0,[]⟩,⟨Yc 7 77 [6],1,[]⟩,⟨Yv 8 7,2,[]⟩,⟨⟨some 9,(some (8,true)),.mv 3 T⟩,3,[]⟩,⟨⟨some 12,(some (8,true)),.mv 0 true⟩,6,[]⟩,⟨⟨some 13,(some (8,true)),.conv .cL 12⟩,7,[]⟩,⟨⟨some 10,(some (8,true)),.call 78 [9]⟩,4,[]⟩,⟨⟨some 11,(some (8,true)),.conv .cL 10⟩,5,[]⟩,⟨⟨some 14,(some (8,true)),.bin .eql .no 11 13⟩,8,[]⟩,⟨Yk 15 (.pick 8 14 Yf),9,[]⟩,⟨Yv 2 15,10,[]⟩]) .ret)))⟩
def we:=PC N I 75 M λb=> bd (M.call 77 [b.1.ng.ng.ng] b.2) λa=> NK a.1 b.1 λh=> gd a.1.ng true (PG a.1 N a.2 λi=> Af a.1 h a.2 78 M λc=> PG a.1 c.1 c.2 λj=> EB a.1 j i λk=> xu a.1 k λl=> bd (oK false l.ng) (nK I.length c.2)) (bd (aU a.1.ng true (pu (eC a.2 .cL .undef))) λm=> Af a.1 h a.2 78 M λd=> PG a.1 d.1 d.2 λe=> EB a.1 e m λf=> xu a.1 f λg=> bd (oK false g.ng) (nK I.length d.2))
def n':Ev.Fn:=⟨140,[.tmp 2],T,T,(Yq 0 [xR 2] (Yq 1 [Yk 16 (.aw T 1 1 Y0 [(0,(Yi 45))] T),Yu 3 16,vY 4] (Yj (Yq 2 [vJ 5] (.block 0 (.loop [0,3,4,5] [0,2,3,4] [] (Yj (Yq 3 [Yv 17 5,YR 18,Yh 19 18,Ak 20 17 19] (Yz 20 .skip (.exit 0))) (Yj (.block 1 (vf 5 [Yv 23 4,Yv 24 23,xD 25 24 0,xD 26 24 5,E0 27 24 3 25 26,wz 28 24 2 27,Aj 29 24 28,NC 30 24 29,Yv 4 30])) (vf 4 [Yv 21 5,vV 22 21,Yv 5 22])))))) (Yj (Yq 6 [vJ 6] (.block 2 (.loop [0,3,4,6] [2,3] [] (Yj (Yq 7 [Yv 31 6,YR 32,Yh 33 32,Ak 34 31 33] (Yz 34 .skip (.exit 2))) (Yj (.block 3 (Yq 9 [YR 37,Yv 38 6,Ye 39 3 37 38,Ya 40 1 39,vj 41 40,NH 42 52 41,Yu 7 42] (Yq 10 [vJ 8] (.block 4 (.loop [0,3,4,6,7,8] [0,2,3,4,6] [] (Yj (Yq 11 [Yv 43 8,Yv 44 7,Yh 45 44,Ak 46 43 45] (Yz 46 .skip (.exit 4))) (Yj (.block 5 (Yq 13 [Yu 49 3,Yv 50 7,Yv 51 8,mT 52 50 51,vj 53 52,Ae 54 53,Q0 55 8 49 54,Yu 3 55] (Yq 14 [Yv 56 4] (Yz 56 (vf 15 [Yu 57 3,Yv 58 7,Yv 59 8,mT 60 58 59,vj 61 60,NH 62 79 61,Ae 63 62,Q0 64 8 57 63,Yu 3 64]) .skip)))) (vf 12 [Yv 47 8,vV 48 47,Yv 8 48])))))))) (vf 8 [Yv 35 6,vV 36 35,Yv 6 36])))))) (Yq 16 [Yk 65 (.aw T 1 5 Y0 [(0,(Yi 32)),(1,(Yi 9)),(2,(Yi 10)),(3,(Yi 12)),(4,(Yi 13))] T),Yu 9 65] (Yj (Yq 17 [vJ 10] (.block 6 (.loop [3,9,10] [2,3] [] (Yj (Yq 18 [Yv 66 10,NG 67 66 5] (Yz 67 .skip (.exit 6))) (Yj (.block 7 (Yq 20 [Yv 70 3,Yv 71 9,Yv 72 10,mT 73 71 72,vj 74 73,YS 75 80 70 74,CX 76 75] (Yz 76 (Yq 21 [Yu 77 3,Yu 78 9,Yv 79 10,mT 80 78 79,vj 81 80,Ae 82 81,Q0 83 8 77 82,Yu 3 83] (.exit 6)) .skip))) (vf 19 [Yv 68 10,vV 69 68,Yv 10 69])))))) (Yq 22 [Lh 11 97] (Yj (.block 8 (.loop [3,11] [2,3,11] [] (Yj (Yq 23 [Yv 84 3,Yv 85 11,YS 86 80 84 85,Yv 87 86,xD 88 87 3,xD 89 87 11,QZ 90 87 79 89,Q3 91 87 80 88 90,NC 92 87 91] (Yz 92 .skip (.exit 8))) (.block 9 (Yq 24 [Yv 93 11,vV 94 93,Yv 11 94] (Yj (Yq 25 [Yv 95 11,Hx 96 95 123] (Yz 96 (vf 26 [Lh 11 48]) .skip)) (Yq 27 [Yv 97 11,Hx 98 97 58] (Yz 98 (vf 28 [Lh 11 256]) .skip)))))))) (Yq 29 [Yu 99 3,Yv 100 11,Ae 101 100,Q0 102 8 99 101,Yu 3 102] (Yq 30 [Va 103,Yu 12 103,J9 13] (.block 10 (.loop [3,12,13] [2] [] (.block 11 (Yq 31 [J9 14] (Yj (Yq 32 [vJ 15] (.block 12 (.loop [3,12,13,14,15] [2,3,12,13,14] [] (Yj (Yq 33 [Yv 104 15,Yv 105 3,Yh 106 105,Ak 107 104 106] (Yz 107 .skip (.exit 12))) (Yj (.block 13 (Yq 35 [Yv 110 3,Yv 111 15,mT 112 110 111,vj 113 112,Yv 114 13,Vdg 115 113 114,Yv 116 115,xC 117 116 14,Vb1 118 116 117 0,xC 119 116 118,xD 120 119 3,xD 121 119 15,E0 122 119 1 120 121,Aj 123 119 122,xD 124 119 14,Vd8 125 119 123 124,YQ 126 116 119 125,Fl 127 116 126] (Yz 127 (vf 36 [Yv 128 3,Yv 129 15,mT 130 128 129,vj 131 130,Yv 14 131]) .skip))) (vf 34 [Yv 108 15,vV 109 108,Yv 15 109])))))) (Yj (Yq 37 [Yv 132 14,NG 133 132 0] (Ym 133 38 [Yu 134 12,Yu 2 134])) (Yq 39 [Yu 135 12,Yv 136 14,Ae 137 136,Q0 138 8 135 137,Yu 12 138] (vf 40 [Yv 139 14,Yv 13 139]))))))))))))))))))⟩
def oX(M:ah)(u:Nat)(q:Nat)(z:Rk)(n2:Nat)(r2:Rk)(z0 S z4 z6 z7 z8:V)(I:hN):Ro:=yh z8 λa=> UF n2 I [z0,S,z4,z6,z7,a.ng] r2
def oa:=wI z7 λc=> A4 z8 c λd=> br d.ng (GH z8 z7 1 λe=> u9 e I λf=> NP f λg=> Lk S g I 1 8 λb=> br z4.ng.ng (GH z8 z7 1 λh=> u9 h I λi=> D7 i I 79 M λa=> NP a.1 λj=> Lk b j a.2 1 8 λk=> oX M u q z n2 r2 z0 k z4 z6 z7 z8 a.2) (oX M u q z n2 r2 z0 b z4 z6 z7 z8 I)) (u6 z0 I n2 λl=> vX I n2 λs=> u6 S I n2 λm=> u6 z4 I n2 λn=> u6 z6 I n2 λo=> Cu I n2 λp=> yh o λr=> UF q p [l,m,n,r.ng] z)
def oY:=M.fx (Al (oa M u q z n2))
def oc(M:ah)(u:Nat)(q:Nat)(z:Rk)(S z11:V)(I:hN):Ro:=UF q I [S,z11] z
def mO:=Vw z11 58 λa=> br a.ng (oc M u q z S (.int .i64 256) I) (oc M u q z S z11 I)
def m9(M:ah)(u:Nat)(q:Nat)(z:Rk)(n2:Nat)(r2:Rk)(S z12 Q z14 z15:V)(I:hN):Ro:=yh z15 λa=> UF n2 I [S,z12,Q,z14,a.ng] r2
def mD:=wI S λx=> A4 z15 x λy=> br y.ng (GH z15 S 1 λA=> u9 A I λB=> bd (pu (eB .gtr .no B.ng Q.ng.ng)) λc=> E2 c z14 λC=> Uer c C 0 λD=> E2 c D λa=> NO a S λf=> NO a z15 λg=> bd (aU a false (pu (eI 1 g.ng f.ng))) λh=> Lu a h I λi=> NO a z14 λj=> wu a i j λk=> CH c a k λl=> xu c l λm=> br m.ng (GH z15 S 1 λn=> u9 n I λo=> m9 M u q z n2 r2 S z12 Q o.ng z15 I) (m9 M u q z n2 r2 S z12 Q z14 z15 I)) (vX I n2 λE=> u6 S I n2 λp=> u6 z12 I n2 λe=> u6 Q I n2 λF=> u6 z14 I n2 λd=> Cu I n2 λb=> Fo d 0 λr=> br r.ng (u6 e b q λs=> Cu b q λt=> bd (oK false s) (nK u t)) (Ueq d λv=> Lk e v b 1 8 λw=> UF q b [p,w,d.ng.ng] z))
def oZ:=M.fx (D5 (mD M u q z n2))
def o5:=u3 S I λa=> u3 z12 I λb=> u3 Q I λc=> v8 I (-1) λd=> VD I λe=> oZ M u q z I.length [a,b,c,d,e] I
def mP:=M.fx (xa (o5 M u q))
def mE:=Q5 S z11 I 80 M λb=> xj b.1 S λi=> xj b.1 z11 λj=> NT b.1 j b.2 79 M λd=> Uev b.1 i d.1 d.2 80 M λa=> xE b.1 a.1 λk=> br k.ng (yh z11 λe=> Zf e 123 λl=> br l.ng (mO M u q z S (.int .i64 48) a.2) (mO M u q z S e.ng a.2)) (vX a.2 q λs=> u6 S a.2 q λm=> u6 z11 a.2 q λn=> Cu a.2 q λc=> Ueq n λo=> Lk m o c 1 8 λp=> BM λr=> u3 p c λf=> u3 r c λg=> v8 c (-1) λh=> mP M u c.length [f,g,h] c)
def mQ:=M.fx (AY (mE M u q))
def od:=u3 S I λa=> v8 I 97 λb=> mQ M u I.length [a,b] I
def m_(M:ah)(u:Nat)(q:Nat)(z:Rk)(z2 S:V)(I:hN):Ro:=u6 z2 I q λc=> u6 S I q λa=> Cu I q λb=> od M u a b
def oe:=Fo z10 5 λb=> br b.ng (GH z10 z9 1 λc=> u9 c I λd=> NQ S d I 80 M λa=> xb a.1 λe=> br e.ng (Ls z10 z9 1 λf=> u9 f a.2 λg=> NP g λh=> Lk S h a.2 1 8 λi=> m_ M u q z .any i a.2) (yh z10 λj=> UF q a.2 [S,z9,j.ng] z)) (m_ M u q z .any S I)
def na:=M.fx (xa (oe M u q))
def o7:=wI z0 λf=> A4 z6 f λg=> br g.ng (GH z6 z0 3 λh=> xi h 1 λi=> u9 i I λj=> D7 j I 52 M λa=> u3 z0 a.2 λk=> u3 S a.2 λl=> u3 z4 a.2 λm=> u3 z6 a.2 λn=> u3 a.1 a.2 λo=> VD a.2 λp=> oY M u q z a.2.length [k,l,m,n,o,p] a.2) (vX I q λt=> u6 S I q λr=> Cu I q λb=> bd (wS false 1 5 (.int .i64 0) [(0,(.int .i64 32)),(1,(.int .i64 9)),(2,(.int .i64 10)),(3,(.int .i64 12)),(4,(.int .i64 13))]) λs=> u3 r b λc=> u3 s b λd=> VD b λe=> na M u b.length [c,d,e] b)
def mR:=M.fx (xS (o7 M u q))
def og:=wI z0 λx1=> A4 z5 x1 λi=> br i.ng (Ue3 z4 z0 λj=> Ue3 z4 z5 λk=> bd (aU z4.ng.ng false (pu (eI 3 k.ng j.ng))) λl=> bd (aU z4.ng.ng false (pu (eF 2 l.ng))) λm=> bd (aU z4.ng.ng false (pu (eL I false 1 m.ng))) λn=> bd (pu (B3 z4.ng.ng.ng (.bool true) n.ng)) λo=> yh z5 λp=> UF q I [z0,S,o.ng,p.ng] z) (u6 z0 I q λf=> vX I q λr=> u6 S I q λg=> u6 z4 I q λh=> Cu I q λa=> u3 f a λb=> u3 g a λc=> u3 h a λd=> VD a λe=> mR M u a.length [b,c,d,e] a)
def o8:=M.fx (xS (og M u q))
def Gd:=bd (wS false 1 1 (.int .i64 0) [(0,(.int .i64 45))]) λe=> u3 N I λa=> u3 e I λb=> Zm I λc=> VD I λd=> o8 M I.length I.length [a,b,c,d] I
def Bg:Ev.Fn:=⟨29,[.tmp 2],T,T,(Yq 0 [xR 2] (Yq 1 [Va 8,YR 9,Vcd 10 9,Yu 3 8,Yu 4 10,vJ 5] (Yj (.block 0 (.loop [3,4,5] [2,3] [] (Yj (Yq 2 [Yv 11 5,Yv 12 4,Yh 13 12,Ak 14 11 13] (Yz 14 .skip (.exit 0))) (.block 1 (Yq 3 [Yv 16 4,Yv 17 5,YS 18 49 16 17,Yv 15 18,Yx 19 15 0,Yx 20 15 1,Yv 6 19,Yv 7 20] (Yq 4 [Yu 21 3,Yv 22 6,Ae 23 22,Q0 24 8 21 23,Yu 3 24] (vf 5 [Yv 25 5,Yv 26 7,A3 27 25 26,Yv 5 27]))))))) (Yr 6 [Yu 28 3,Yu 2 28]))))⟩
def o9:=wI z4 λd=> A4 z5 d λe=> br e.ng (Q5 z4 z5 I 49 M λa=> Uba a.1 0 λf=> Uba a.1 1 λg=> Y' f λh=> Lk S h a.2 1 8 λi=> NW z5 g λj=> UF q a.2 [i,z4,j.ng] z) (vX I q λk=> u6 S I q λb=> Cu I q λc=> bd (oK false b) (nK u c))
def o_:=M.fx (xa (o9 M u q))
def Gf:=BM λd=> Rh N I λx1=> u3 d I λa=> u3 x1 I λb=> VD I λc=> o_ M I.length I.length [a,b,c] I
def FF:Ev.Fn:=⟨34,[.tmp 2],T,T,(Yq 0 [Vb 1,vY 2] (Yj (Yq 1 [Ya 3 2 1,vj 4 3,NH 5 53 4,CX 6 5,Yv 7 6,wz 8 7 4 1,wz 9 7 1 8,Aj 10 7 9,QZ 11 7 53 10,Q2 12 7 11,NC 13 7 12] (Ym 13 2 [vY 2])) (Yj (Yq 3 [Ya 14 0 1,vj 15 14] (.block 0 (Yj (.block 2 (Yj (.block 1 (Yj (Yj (Yq 4 [Hx 17 15 2,Yv 16 17] (Yz 16 (.exit 1) .skip)) (Yq 5 [Hx 19 15 1,Yv 18 19] (Yz 18 (.exit 2) .skip))) (.exit 0))) (Yq 6 [Ya 20 3 1,vj 21 20,Vda 22 21] (Ym 22 7 [vY 2])))) (Yj (Yr 8 [Ya 23 3 1,vj 24 23,NH 25 53 24,Yv 2 25]) (.exit 0))))) (Yr 9 [Ya 26 0 1,vj 27 26,Hx 28 27 3,Yv 29 28,J2 30 29 3 1,GB 31 29 30,yi 32 29 54 31,Fl 33 29 32,Yv 2 33]))))⟩
def pa:=xi z1 3 λb=> u9 b I λc=> D7 c I 53 M λa=> bd (oK false a.1.ng) (nK u a.2)
def Ia:=Am N I λa=> xi a.1 2 λx1=> u9 x1 a.2 λt=> D7 t a.2 53 M λg=> xb g.1 λd=> Uaz d a.1 4 λu=> Uaz d u 1 λv=> xM d v g.2 λw=> NT d w g.2 53 M λb=> Lj d b.1 λx=> xE d x λh=> br h.ng (bd (oK false (.bool false)) (nK I.length b.2)) (Rc a.1 λi=> u9 i b.2 λe=> vt e 2 λj=> br j.ng.ng (xi a.1 3 λk=> u9 k b.2 λl=> Vq l λm=> br m.ng (bd (oK false (.bool false)) (nK I.length b.2)) (pa M I.length a.1 b.2)) (vt e 1 λn=> br n.ng.ng (pa M I.length a.1 b.2) (Rc a.1 λo=> u9 o b.2 λp=> vt p 3 λc=> E3 c a.1 3 λq=> NL c q b.2 λr=> Af c r b.2 54 M λf=> xu c f.1 λs=> bd (oK false s.ng) (nK I.length f.2))))
def Kh:Ev.Fn:=⟨40,[.tmp 4,.tmp 5,.tmp 6],T,true,(Yq 0 [Vb 2,xR 4,xR 5,vJ 6] (Yj (Yq 1 [Ya 10 2 2,vj 11 10,Yh 12 11,vJ 13] (.block 0 (.loop [1,4,5,6,11,12,13] [4,5,6] [4,5] (Yq 2 [Ak 14 13 12] (Yj (Yz 14 .skip (.exit 0)) (Yj (.block 1 (Yq 3 [mT 15 11 13,vj 16 15,Yv 8 16] (Yq 4 [Vb2 17,Yv 18 8,Ye 19 7 17 18,Jh 20 7 19,u' 9,J4 7 9 20] (Yj (Yq 5 [Ya 21 3 9,vj 22 21,Y6 23 22] (Yz 23 (vf 6 [Yu 24 4,Ya 25 3 9,vj 26 25,Vdx 27 82 24 26,Yu 4 27]) .skip)) (Yq 7 [Ya 28 1 9,vj 29 28] (Yz 29 (vf 8 [Yu 30 5,Ya 31 2 9,vj 32 31,Vdx 33 82 30 32,Yu 5 33]) (vf 9 [Yv 34 6,vV 35 34,Yv 6 35]))))))) (vf 10 [vV 36 13,Yv 13 36]))))))) (Yr 11 [Yu 37 4,Yu 38 5,Yv 39 6,Yu 4 37,Yu 5 38,Yv 6 39])))⟩
def Dh(M:ah)(u:Nat)(q:Nat)(z:Rk)(z1 z4 z5 z6 z11 z12 Q:V)(I:hN):Ro:=xy Q λb=> bd (VJ q [4,5] [(1,z1),(4,z4),(5,z5),(6,z6),(11,z11),(12,z12),(13,b.ng)] I) λa=>z a.1 a.2
def Av:=xi z9 1 λb=> u9 b I λc=> br c.ng (xi z9 2 λd=> u9 d I λe=> bd (M.call 82 [z5,e.ng] I) λa=> Dh M u q z z1 z4 a.1 z6 z11 z12 Q a.2) (yh z6 λf=> Dh M u q z z1 z4 z5 f.ng z11 z12 Q I)
def Aw:=yp Q z12 λl=> br l.ng (Ubh Q z11 1 λm=> u9 m I λn=> bd (pu (eI 7 n.ng.ng.ng z1.ng.ng)) λo=> zd o I 7 λe=>
 let f:hN:=I++[.cells [(.int .i64 0),(.bool false),(.str []),(.str []),(.int .i64 0),(.str []),(.bool false)]]
 CG e f I 7 0 λa=> Vi I 3 0 λg=> u9 g a.2 λh=> Vo h λi=> br i.ng (Vi I 3 0 λj=> u9 j a.2 λk=> bd (M.call 82 [z4,k.ng] a.2) λc=> Av M u q z z1 c.1 z5 z6 (.ptr I.length 0) z11 z12 Q c.2) (Av M u q z z1 z4 z5 z6 (.ptr I.length 0) z11 z12 Q a.2)) (bd (VJ q [4,5] [(4,z4),(5,z5),(6,z6)] I) λd=>
 let b:uZ:=d.1
 eU true u d.2 (.aR [V.aI (b.getD 0 .undef),V.aI (b.getD 1 .undef),V.aI (b.getD 2 .undef).ng.ng]))
def Ax:=M.fx (E1 (Aw M u q))
def N7:=Am N I λa=> xi a.1 2 λx1=> u9 x1 a.2 λi=> Cv i λj=> u3 a1 a.2 λb=> G5 a.2 λc=> G5 a.2 λd=> VD a.2 λe=> u3 i a.2 λf=> u3 j a.2 λg=> VD a.2 λh=> Ax M I.length a.2.length [b,c,d,e,f,g,h] a.2
def ZB:bW M Kh [N,a1] I=N7 M N a1 I:=vi
def FC:Ev.Fn:=⟨10,[.tmp 2],T,T,(Yq 0 [B7 2] (Yq 1 [Yv 3 (Ys [111])] (Yj (.block 0 (.loop [0,3] [2,3] [] (Yj (Yq 2 [YR 4,Yv 5 3,YS 6 44 4 5] (Yz 6 .skip (.exit 0))) (.block 1 (vf 3 [Yv 7 3,Yo 8 .add .no 7 (Ys [111]),Yv 3 8]))))) (Yr 4 [Yv 9 3,Yv 2 9]))))⟩
def vd:=Q5 z0 S I 44 M λa=> br a.1.ng (bd (pu (eB .add .no S.ng.ng (.str [111]))) λx1=> UF q a.2 [z0,x1.ng] z) (vX a.2 q λd=> u6 S a.2 q λb=> Cu a.2 q λc=> bd (oK false b.ng.ng) (nK u c))
def zT:=M.fx (AY (vd M u q))
def Mk:=u3 N I λa=> bd (fz I.length I fzD (.str [111])) λb=> zT M I.length I.length [a,b] I
def Gh:bW M FC [N] I=Mk M N I:=vi
def Lv:Ev.Fn:=⟨8,[.tmp 2],true,T,(Yq 0 [xR 2] (Yj (Yq 1 [YR 3,Yo 4 .eql .row 3 (.c .ad)] (Ym 4 2 [xR 2])) (Yr 3 [Va 5,mA 6,Q0 7 16 5 6,Yu 2 7])))⟩
def Lw(M:ah)(N:V)(I:hN):Ro:=Zp N λa=> br a.ng (bd (oK true .ad) (nK I.length I)) (BM λx1=> Lk x1 N I 1 16 λb=> bd (oK true b) (nK I.length I))
def QaR:bW M Lv [N] I=Lw M N I:=vi
def H2:Ev.Fn:=⟨34,[.tmp 6],T,T,(Yq 0 [xR 6] (Yq 1 [Yk 11 (.gZ),Yv 7 11] (Yj (Yq 2 [Yu 12 1,Yh 13 12,vJ 14] (.block 0 (.loop [0,2,6,7,12,13,14] [6] [] (Yq 3 [Ak 15 14 13] (Yj (Yz 15 .skip (.exit 0)) (Yj (.block 1 (Yq 4 [Ye 16 7 12 14,Jh 17 7 16,Po 9,J4 7 9 17] (Yq 5 [YR 18,Jh 19 7 9,Yv 20 2,BL 21 83 18 19 20,Yv 10 21] (Yq 6 [Yv 22 7,Yv 23 10,Vc3 24 22 23,CX 25 24] (Yz 25 (Yq 7 [Yv 26 7,Yv 27 10,YW 26 27] (vf 8 [Yu 28 6,Jh 29 7 9,ND 30 7 29,wY 31 7 112 28 30,Yu 6 31])) .skip))))) (vf 9 [vV 32 14,Yv 14 32]))))))) (Yr 10 [Yu 33 6,Yu 6 33]))))⟩
def Dj(M:ah)(u:Nat)(q:Nat)(z:Rk)(z0 z2 z6 z7 z12 Q z14:V)(I:hN):Ro:=xy z14 λa=> UF q I [z0,z2,z6,z7,z12,Q,a.ng] z
def Ay:=yp z14 Q λo=> br o.ng (Ubh z14 z12 7 λd=> zd d I 7 λe=>
 let f:hN:=I++[.cells [(.int .i64 0),(.int .i64 0),(.str []),(.str []),.ad,.ad,(.str [])]]
 CG e f I 7 0 λc=> G6 c.2 I 7 0 λg=> bd (M.call 83 [z0.ng.ng,g.ng,z2.ng.ng] c.2) λa=> bd (pu (Mo .s a.2 (.bool false) z7.ng.ng a.1.ng.ng.ng false)) λh=> xb h λi=> br i.ng (bd (JW .s a.2 z7.ng.ng a.1.ng.ng.ng (.bool true)) λb=> G6 b.2 I 7 0 λj=> G4 j λk=> Jl z6 k b.2 7 112 λl=> Dj M u q z z0 z2 l z7 z12 Q z14 b.2) (Dj M u q z z0 z2 z6 z7 z12 Q z14 a.2)) (u6 z6 I q λm=> Cu I q λn=> bd (oK false m) (nK u n))
def Cf:=M.fx (E1 (Ay M u q))
def N8:=Jm I λa=> Cv a1 λx1=> u3 N a.2 λb=> u3 a2 a.2 λc=> G5 a.2 λd=> yF a.1 a.2 λe=> u3 a1 a.2 λf=> u3 x1 a.2 λg=> VD a.2 λh=> Cf M I.length a.2.length [b,c,d,e,f,g,h] a.2
def ZC:bW M H2 [N,a1,a2] I=N8 M N a1 a2 I:=vi
def H4:Ev.Fn:=⟨82,[.tmp 4],T,T,(Yq 0 [Vb 2,xR 4] (Yq 1 [Jh 14 3 2,Vb2 15,YS 16 57 14 15,Yv 13 16,Yx 17 13 0,Yx 18 13 1,Yx 19 13 2,Yu 5 17,Yu 6 18,Yu 7 19] (Yj (Yq 2 [Yu 20 7,vJ 21] (.block 0 (.loop [1,2,4,6,20,21] [1,2,4,6] [6] (Yq 3 [Ak 22 21 20] (Yj (Yz 22 .skip (.exit 0)) (Yj (.block 1 (vf 4 [Yu 23 6,Yu 24 6,NH 25 58 24,Ps 26 25,YU 27 16 23 26,Yu 6 27])) (vf 5 [vV 28 21,Yv 21 28]))))))) (Yj (Yq 6 [Yu 29 6,Yh 30 29,vJ 31] (.block 2 (.loop [1,2,4,29,30,31] [4] [] (Yq 7 [Ak 32 31 30] (Yj (Yz 32 .skip (.exit 2)) (Yj (.block 3 (Yq 8 [mT 33 29 31,vj 34 33,Yv 9 34] (Yq 9 [Yv 35 9,Yk 36 (.build [Yn,.ad,.ad] [(0,1,35)]),Vc8 10,J4 3 10 36] (Yj (Yq 10 [Ya 37 2 2,vj 38 37,Yh 39 38,vJ 40] (.block 4 (.loop [1,2,4,9,10,29,30,31,38,39,40] [1,2,4,10,29,30,31] [] (Yq 11 [Ak 41 40 39] (Yj (Yz 41 .skip (.exit 4)) (Yj (.block 5 (Yq 12 [mT 42 38 40,vj 43 42,Yv 12 43] (Yq 13 [Vb2 44,Yv 45 12,Ye 46 7 44 45,Ya 47 1 46,vj 48 47,CX 49 48,Yv 50 49,xD 51 50 1,xD 52 50 12,E0 53 50 7 51 52,wz 54 50 2 53,Aj 55 50 54,xD 56 50 9,DV 57 50 55 56,NC 58 50 57] (Yz 58 (.dH 14 [⟨Ya 59 1 10,0,[]⟩,⟨Yk 60 (.loadT 59),1,[]⟩,⟨Yv 61 12,2,[]⟩,⟨Yk 62 (.aw T 1 1 Y0 [(0,61)] T),3,[]⟩,⟨Ya 64 2 10,5,[]⟩,⟨Yk 65 (.loadT 64),6,[]⟩,⟨Yv 66 1,7,[]⟩,⟨Yv 67 12,8,[]⟩,⟨Ye 68 7 66 67,9,[]⟩,⟨Ya 69 4 68,10,[]⟩,⟨Yl 70 true 3 69,11,[]⟩,⟨Yk 71 (.aw true 3 1 (.agg [Y0,Yn,Yb]) [(0,70)] T),12,[]⟩,⟨Yk 63 (.app T T 1 8 60 62 true),4,[5,10]⟩,⟨Ya 73 1 10,14,[]⟩,⟨Yk 72 (.app T true 3 32 65 71 true),13,[]⟩,⟨Yw 1 73 63 true,15,[]⟩,⟨Ya 74 2 10,16,[]⟩,⟨Yw 1 74 72 true,17,[]⟩]) .skip)))) (vf 15 [vV 75 40,Yv 40 75]))))))) (vf 16 [Yu 76 4,Jh 77 3 10,Yk 78 (.aw true 3 1 (.agg [Yn,.ad,.ad]) [(0,77)] T),wY 79 3 64 76 78,Yu 4 79]))))) (vf 17 [vV 80 31,Yv 31 80]))))))) (Yr 18 [Yu 81 4,Yu 4 81])))))⟩
def Dk(M:ah)(u:Nat)(q:Nat)(z:Rk)(n2:Nat)(r2:Rk)(z1 z2 z4 z9 z10 z29 z30 z31 z38 z39 z40:V)(I:hN):Ro:=xy z40 λa=> UF n2 I [z1,z2,z4,z9,z10,z29,z30,z31,z38,z39,a.ng] r2
def Az:=yp z40 z39 λj=> br j.ng (Ubh z40 z38 1 λk=> u9 k I λb=> bd (pu (eI 7 b.ng.ng.ng z1.ng.ng)) λl=> xi l 1 λm=> u9 m I λn=> xb n λa=> xj a z1 λo=> ED a b λp=> Vs a p o 7 λr=> Uaz a r 2 λs=> xM a s I λt=> xj a z9 λv=> Vu a t v λw=> xE a w λx=> br x.ng (xi z10 1 λy=> Vx y I λc=> Y' b λA=> xi z10 2 λe=> Vx e c.2 λd=> bd (pu (eI 7 b.ng.ng.ng z1.ng.ng)) λB=> xi B 4 λf=> zd f d.2 3 λC=> bd (wS true 3 1 (.agg [(.int .i64 0),(.str []),(.bool false)]) [(0,C.ng)]) λD=> bd (ZU [VH c.2 e.ng,xN true 3 f.ng] d.2) λh=> Lk c.1 A h 1 8 λE=> bd (w_ [VH c.2 e.ng,xN true 3 f.ng] d.2 h) λi=> xi z10 1 λF=> Jl d.1 D i 3 32 λG=> PI F E i λH=> xi z10 2 λJ=> PI J G H.2 λK=> Dk M u q z n2 r2 z1 z2 z4 z9 z10 z29 z30 z31 z38 z39 z40 K.2) (Dk M u q z n2 r2 z1 z2 z4 z9 z10 z29 z30 z31 z38 z39 z40 I)) (u6 z1 I n2 λL=> u6 z2 I n2 λN=> u6 z4 I n2 λO=> u6 z10 I n2 λP=> u6 z29 I n2 λQ=> u6 z30 I n2 λR=> u6 z31 I n2 λS=> Cu I n2 λg=> zd P g 3 λU=> bd (wS true 3 1 (.agg [(.str []),.ad,.ad]) [(0,U.ng)]) λV=> Jl O V g 3 64 λX=> xy S λa=> UF q g [L,N,X,Q,R,a.ng] z)
def Cg:=M.fx (C9 (Az M u q z n2))
def Dl:=yp z31 z30 λe=> br e.ng (Ubh z31 z29 1 λf=> u9 f I λb=> bd (pu (mz [(.str []),.ad,.ad] [(0,1,b.ng.ng.ng)])) λg=>
 let h:hN:=I++[.cells [(.str []),.ad,.ad]]
 CG g h I 3 0 λa=> xi z2 2 λi=> u9 i a.2 λc=> Cv c λj=> u3 z1 a.2 λk=> u3 z2 a.2 λl=> u3 z4 a.2 λm=> yF b a.2 λn=> Lo a.2 I λo=> u3 z29 a.2 λp=> u3 z30 a.2 λr=> u3 z31 a.2 λs=> u3 c a.2 λt=> u3 j a.2 λv=> VD a.2 λw=> Cg M u q z a.2.length [k,l,m,n,o,p,r,s,t,v,w] a.2) (u6 z4 I q λx=> Cu I q λd=> bd (oK false x) (nK u d))
def AA:=M.fx (Al (Dl M u q))
def Dm:=yp z21 z20 λn=> br n.ng (PC z6 I 58 M λl=> Vv l.1 λo=> Zj z6 o l.2 1 16 λm=> xy z21 λj=> bd (VJ q [6] [(1,z1),(2,z2),(4,z4),(6,m.1),(20,z20),(21,j.ng)] m.2) λc=>z c.1 c.2) (bd (VJ q [6] [(1,z1),(2,z2),(4,z4),(6,z6)] I) λa=>
 let b:uZ:=a.1
 bd (pu (Qai (b.getD 3 .undef).ng)) λk=>bd (fz a.2.length a.2 fzD (b.getD 0 .undef)) λd=>bd (fz a.2.length a.2 fzD (b.getD 1 .undef)) λe=>bd (fz a.2.length a.2 fzD (b.getD 2 .undef)) λf=>bd (fz a.2.length a.2 fzD (b.getD 3 .undef)) λg=>u3 k a.2 λh=> VD a.2 λi=> AA M u a.2.length [d,e,f,g,h,i] a.2)
def Dn:=M.fx (Al (Dm M u q))
def Rv:=Am N I λh=> zd h.1 h.2 3 λx1=> Q9 x1 a1 h.2 57 M λa=> Uba a.1 0 λk=> Uba a.1 1 λi=> Uba a.1 2 λj=> u3 a1 a.2 λb=> u3 h.1 a.2 λc=> G5 a.2 λd=> u3 i a.2 λe=> u3 j a.2 λf=> VD a.2 λg=> Dn M I.length a.2.length [b,c,d,e,f,g] a.2
def N9:Ev.Fn:=⟨39,[.tmp 4],T,T,(Yq 0 [Ch 3,xR 4] (Yj (.dH 1 [⟨Ya 9 2 3,0,[]⟩,⟨Yl 10 T 1 9,1,[]⟩,⟨Yv 11 0,2,[]⟩,⟨Yk 12 (.dh 11),3,[]⟩,⟨Ya 13 2 12,4,[]⟩,⟨Yl 14 T 1 13,5,[]⟩,⟨Yv 15 0,6,[]⟩,⟨Yk 16 (.dh 15),7,[]⟩,⟨Ya 17 1 16,8,[]⟩,⟨Yl 18 T 1 17,9,[]⟩,⟨Yo 19 .sub .no 14 18,10,[]⟩,⟨Yk 20 (.mm true [19,(Yi 0)]),11,[]⟩,⟨Yc 21 84 [10,20],12,[]⟩,⟨Yv 8 21,13,[]⟩,⟨Yx 22 8 0,14,[]⟩,⟨Yx 23 8 1,15,[]⟩,⟨Yx 24 8 2,16,[]⟩,⟨Yv 5 22,17,[]⟩,⟨Yv 6 23,18,[]⟩,⟨Yv 7 24,19,[]⟩]) (Yq 2 [YR 25,yX 26 25,Ya 27 1 26,vj 28 27,Yv 29 6,A3 30 28 29,yX 31 25,Ya 32 1 31,J4 1 32 30] (Yj (Yq 3 [Yv 33 7,J8 34 33] (Yz 34 (vf 4 [YR 35,yX 36 35,Ya 37 3 36,Yw 1 37 Yt T]) .skip)) (Yr 5 [Yv 38 5,Yv 4 38])))))⟩
def Do(M:ah)(u:Nat)(z5:V)(I:hN):Ro:=bd (oK false z5.ng.ng) (nK u I)
def Kj:=Am a1 I λb=> xi b.1 2 λx1=> u9 x1 b.2 λr=> Uaj N λs=> xi s 2 λt=> u9 t b.2 λu=> Uaj N λv=> xi v 1 λw=> u9 w b.2 λx=> bd (pu (eB .sub .no u.ng x.ng)) λy=> bd (pu (qC true [y.ng,(.int .i64 0)])) λe=> Vn r e b.2 84 M λa=> Uba a.1 0 λc=> Uba a.1 1 λf=> Uba a.1 2 λg=> Uaj N λh=> xi h 1 λi=> u9 i a.2 λj=> bd (pu (eB .add .no j.ng f.ng.ng.ng)) λk=> Uaj N λl=> xi l 1 λm=> Ka m k a.2 1 λd=> Lq g λn=> br n.ng (Uaj N λo=> xi o 3 λp=> bd (u5 d.2 1 p.ng (.bool true) (.bool true)) λq=> Do M I.length c.ng q.2) (Do M I.length c.ng d.2)
def ZD:bW M N9 [N,a1] I=Kj M N a1 I:=vi
def Mt:Ev.Fn:=⟨27,[.cell 8 true 7],T,T,(Yq 0 [Vb 4,Yk 7 (.box 3),Po 8] (Yq 1 [Ya 9 4 4,vj 10 9,NH 11 55 10,Ya 12 4 4,Yw 1 12 11 true] (Yj (Yq 2 [Ya 13 2 7,vj 14 13,CX 15 14] (Yz 15 (vf 3 [Ya 16 4 4,Yk 17 (.loadT 16),Vb2 18,Yv 19 2,Ya 20 1 7,vj 21 20,Yk 22 (.build [Yn,Yn,Yn] [(0,1,18),(1,1,19),(2,1,21)]),Yk 23 (.aw true 3 1 (.agg [Yn,Yn,Yn]) [(0,22)] T),wY 24 3 48 17 23,Ya 25 4 4,Yw 1 25 24 true]) .skip)) (Yr 4 [Jh 26 7 4,J4 7 8 26]))))⟩
def pc(M:ah)(u:Nat)(z4 z8:V)(I:hN):Ro:=zd z4 I 7 λc=> Ka z8 c I 7 λb=> bd (il b.2 true 7 z8) λa=> bd (oK false a) (nK u b.2)
def Mu:=Am N I λb=> Am a3 b.2 λc=>
 let p:hN:=c.2++[.cells [(.int .i64 0),(.int .i64 0),(.str []),(.str []),.ad,.ad,(.str [])]]
 xi b.1 4 λr=> u9 r p λs=> D7 s p 55 M λq=> xi b.1 4 λt=> PI t q.1 q.2 λd=> xi c.1 2 λe=> u9 e d.2 λf=> xb f λg=> br g.ng (xi b.1 4 λh=> Vx h d.2 λa=> xi c.1 1 λi=> u9 i a.2 λj=> bd (pu (mz [(.str []),(.str []),(.str [])] [(0,1,a1.ng.ng),(1,1,a2.ng.ng),(2,1,j.ng)])) λk=> bd (wS true 3 1 (.agg [(.str []),(.str []),(.str [])]) [(0,k.ng)]) λl=> Jl a.1 l a.2 3 48 λm=> xi b.1 4 λn=> PI n m a.2 λo=> pc M I.length b.1 (.ptr c.2.length 0) o.2) (pc M I.length b.1 (.ptr c.2.length 0) d.2)
def D6:Ev.Fn:=⟨8,[.tmp 2],true,T,(Yq 0 [xR 2] (Yj (Yq 1 [YR 3,Yo 4 .eql .row 3 (.c .ad)] (Ym 4 2 [xR 2])) (Yr 3 [Yk 5 (.aw true 3 0 (.agg []) [] T),mA 6,wY 7 3 48 5 6,Yu 2 7])))⟩
def D9(M:ah)(N:V)(I:hN):Ro:=Zp N λa=> br a.ng (bd (oK true .ad) (nK I.length I)) (bd (wS true 3 0 (.agg []) []) λx1=> Jl x1 N I 3 48 λb=> bd (oK true b) (nK I.length I))
def Gi:Ev.Fn:=⟨67,[.tmp 4],T,T,(Yq 0 [Vb 2,vY 4] (Yj (Yq 1 [Jh 7 3 2,NH 8 64 7] (Ym 8 2 [vY 4])) (Yq 3 [Jh 10 3 2,Vb2 11,YS 12 65 10 11,Yv 9 12,Yx 13 9 0,Yx 14 9 1,J4 3 2 13,Yv 1 14] (Yj (Yq 4 [Vdr 15 2,vj 16 15] (.block 0 (Yq 5 [Hx 18 16 2,Yv 17 18] (Yz 17 (Yr 6 [Vb2 19,Ya 20 1 2,vj 21 20,NF 22 19 21,Yv 4 22]) (Yq 7 [Hx 24 16 3,Yv 23 24] (Yz 23 (Yj (.dH 8 [⟨Yv 25 1,0,[]⟩,⟨Ya 27 1 2,2,[]⟩,⟨Yl 28 T 1 27,3,[]⟩,⟨Yc 26 66 [25],1,[2]⟩,⟨Yc 29 44 [26,28],4,[]⟩,⟨Yv 4 29,5,[]⟩]) .ret) (Yq 9 [Hx 31 16 4,Yv 30 31] (Yz 30 (Yq 10 [Vb2 33,Ya 34 1 2,vj 35 34,YS 36 67 33 35,Yv 32 36,Yx 37 32 0,Yx 38 32 1,Yv 5 37,Yv 6 38] (Yr 11 [Yv 39 6,Yv 40 39,xC 41 40 5,Vdt 42 40 41,xC 43 40 42,xD 44 43 5,⟨some 45,(some (43,T)),.idx 44 (Yi 0)⟩,Pz 46 43 45 45,YQ 47 40 43 46,Fl 48 40 47,Yv 4 48])) (Yq 12 [Hx 50 16 5,Yv 49 50] (Yz 49 (Yr 13 [Vb2 51,Ya 52 1 2,vj 53 52,YS 54 68 51 53,Yv 4 54]) (Yq 14 [Hx 56 16 6,Yv 55 56] (Yz 55 (Yr 15 [Vb2 57,Ya 58 1 2,vj 59 58,YS 60 69 57 59,Yv 4 60]) (Yq 16 [Hx 62 16 7,Yv 61 62] (Ym 61 17 [Vb2 63,Ya 64 1 2,vj 65 64,YS 66 70 63 65,Yv 4 66])))))))))))))) (Yr 18 [oA 4])))))⟩
def mU:=Am N I λb=> zd b.1 b.2 3 λx1=> D7 x1 b.2 64 M λo=> br o.1.ng (bd (oK false (.bool false)) (nK I.length o.2)) (zd b.1 o.2 3 λV=> Q9 V a1 o.2 65 M λp=> Uba p.1 0 λX=> Uba p.1 1 λg=> Ka b.1 X p.2 3 λa=> Rc b.1 λo=> u9 o a.2 λh=> vt h 2 λq=> br q.ng.ng (xi b.1 1 λr=> u9 r a.2 λs=> bd (pu (eB .eql .no g.ng.ng.ng s.ng)) λt=> bd (oK false t.ng) (nK I.length a.2)) (vt h 3 λu=> br u.ng.ng (xi b.1 1 λe=> u9 e a.2 λv=> Y_ e a.2 λw=> bd (M.call 66 [g.ng.ng.ng] w) λi=> PJ e a.2 i.2 λx=> Vn i.1 v x 44 M λj=> bd (oK false j.1.ng) (nK I.length j.2)) (vt h 4 λy=> br y.ng.ng (xi b.1 1 λz=> u9 z a.2 λA=> bd (M.call 67 [g.ng.ng.ng,A.ng] a.2) λf=> Uba f.1 0 λk=> Uba f.1 1 λc=> bd (aU c.ng.ng.ng true (some k.ng.ng)) λB=> bd (aU c.ng.ng.ng true (pu (eB .eql .no B.ng (.str [])))) λC=> bd (aU c.ng.ng.ng true (some C.ng)) λd=> bd (aU d false (some k.ng.ng)) λD=> bd (aU d false (pu (Wx (.int .i64 0) D.ng))) λE=> bd (aU d false (pu (eB .eql .no E.ng (.int .u8 45)))) λF=> bd (aU c.ng.ng.ng true (pu (B3 d.ng (.bool true) F.ng))) λG=> Lr c G λH=> bd (oK false H.ng) (nK I.length f.2)) (vt h 5 λJ=> br J.ng.ng (xi b.1 1 λK=> u9 K a.2 λL=> bd (M.call 68 [g.ng.ng.ng,L.ng] a.2) λl=> bd (oK false l.1.ng) (nK I.length l.2)) (vt h 6 λO=> br O.ng.ng (xi b.1 1 λP=> u9 P a.2 λQ=> bd (M.call 69 [g.ng.ng.ng,Q.ng] a.2) λm=> bd (oK false m.1.ng) (nK I.length m.2)) (vt h 7 λR=> br R.ng.ng (xi b.1 1 λS=> u9 S a.2 λU=> bd (M.call 70 [g.ng.ng.ng,U.ng] a.2) λn=> bd (oK false n.1.ng) (nK I.length n.2)) (bd (oK false (.bool true)) (nK I.length a.2))))))))
def H_:Ev.Fn:=⟨19,[.tmp 4],T,T,(Yq 0 [vJ 4] (Yj (Yq 1 [YR 6,Yh 7 6,vJ 8] (.block 0 (.loop [0,1,7,8] [4] [] (Yq 2 [Ak 9 8 7] (Yj (Yz 9 .skip (.exit 0)) (Yj (.block 1 (Yq 3 [Yv 10 8,Yv 5 10] (Yq 4 [Vb2 11,YR 12,Yv 13 5,Ye 14 3 12 13,Jh 15 3 14,YX 16 11 15] (Ym 16 5 [Yv 17 5,Yv 4 17])))) (vf 6 [vV 18 8,Yv 8 18]))))))) (Yr 7 [J9 4])))⟩
def By:=yp z8 z7 λx1=> br x1.ng (zf z8 z0 3 λc=> zd c I 3 λd=> Vt z1 d I M λa=> br a.1.ng (NR z8 a.2 q λe=> Cu a.2 q λf=> bd (oK false e) (nK u f)) (xy z8 λg=> UF q a.2 [z0,z1,z7,g.ng] z)) (vX I q λh=> Cu I q λb=> bd (oK false (.int .i64 (-1))) (nK u b))
def Dr:=M.fx (xS (By M u q))
def Md:=wI N λe=> u3 N I λa=> u3 a1 I λb=> u3 e I λc=> VD I λd=> Dr M I.length I.length [a,b,c,d] I
def QaY:bW M H_ [N,a1] I=Md M N a1 I:=vi
end
section
variable(M:ah)(z q:Nat)(S:Rk)(n2:Nat)(r2:Rk)(n3:Nat)(r3:Rk)(n4:Nat)(r4:Rk)(n5:Nat)(u a1 a2 a3 a4 a5 a6 a7 a8 a9 a10 a11:V)(N Q z3 z4 z5 z6 z7 z8 z9 z10 z11 z12 z13 z14 z20 z21 z22 z32 z33 z34:V)(I:hN)
def HF:Ev.Fn:=⟨19,[.tmp 4],T,T,(Yq 0 [vJ 4] (Yj (Yq 1 [YR 6,Yh 7 6,vJ 8] (.block 0 (.loop [0,1,7,8] [4] [] (Yq 2 [Ak 9 8 7] (Yj (Yz 9 .skip (.exit 0)) (Yj (.block 1 (Yq 3 [Yv 10 8,Yv 5 10] (Yq 4 [Vb2 11,YR 12,Yv 13 5,mT 14 12 13,vj 15 14,NF 16 11 15] (Ym 16 5 [Yv 17 5,Yv 4 17])))) (vf 6 [vV 18 8,Yv 8 18]))))))) (Yr 7 [J9 4])))⟩
def A6(M:ah)(z:Nat)(q:Nat)(S:Rk)(N Q z7 z8:V)(I:hN):Ro:=yp z8 z7 λx1=> br x1.ng (zf z8 N 1 λb=> u9 b I λc=> GJ Q c λd=> br d.ng (NR z8 I q λe=> Cu I q λf=> bd (oK false e) (nK z f)) (xy z8 λg=> UF q I [N,Q,z7,g.ng] S)) (vX I q λh=> Cu I q λa=> bd (oK false (.int .i64 (-1))) (nK z a))
def A7:=M.fx (xS (A6 M z q))
def LA:=wI u λe=> u3 u I λa=> u3 a1 I λb=> u3 e I λc=> VD I λd=> A7 M I.length I.length [a,b,c,d] I
def Gj:bW M HF [u,a1] I=LA M u a1 I:=vi
def Bh:Ev.Fn:=⟨33,[.tmp 2],T,T,(Yq 0 [vJ 2] (Yq 1 [Yk 6 (.aw T 1 5 Y0 [(0,(Yi 0)),(1,(Yi 0)),(2,(Yi 192)),(3,(Yi 224)),(4,(Yi 240))] T),Yu 3 6] (Yj (.dH 2 [⟨Yv 7 0,0,[]⟩,⟨Ye 8 1 7 (Yi 0),1,[]⟩,⟨Yl 9 T 1 8,2,[]⟩,⟨Yk 10 (.conv (.toInt .i64) 9),3,[]⟩,⟨Yu 11 3,4,[]⟩,⟨Yv 12 0,5,[]⟩,⟨Yh 13 12,6,[]⟩,⟨Ye 14 1 11 13,7,[]⟩,⟨Yl 15 T 1 14,8,[]⟩,⟨Yo 16 .sub .no 10 15,9,[]⟩,⟨Yv 4 16,10,[]⟩]) (Yj (Yq 3 [Lh 5 1] (.block 0 (.loop [0,4,5] [2,4] [] (Yj (Yq 4 [Yv 17 5,YR 18,Yh 19 18,Ak 20 17 19] (Yz 20 .skip (.exit 0))) (Yj (.block 1 (vf 6 [Yv 23 4,Yo 24 .mul .no (Yi 64) 23,YR 25,Yv 26 5,mT 27 25 26,vj 28 27,Hy 29 28,A3 30 24 29,DD 31 30 128,Yv 4 31])) (vf 5 [Yv 21 5,vV 22 21,Yv 5 22])))))) (Yr 7 [Yv 32 4,Yv 2 32])))))⟩
def pd(M:ah)(z:Nat)(q:Nat)(S:Rk)(N z4 z5:V)(I:hN):Ro:=wI N λj=> A4 z5 j λk=> br k.ng (bd (pu (eB .mul .no (.int .i64 64) z4.ng.ng)) λa=> GH z5 N 1 λb=> u9 b I λc=> Kb c I λd=> bd (pu (eB .add .no a.ng d.ng)) λe=> Q_ e 128 λf=> yh z5 λg=> UF q I [N,f.ng,g.ng] S) (vX I q λl=> u6 z4 I q λh=> Cu I q λi=> bd (oK false h.ng.ng) (nK z i))
def pf:=M.fx (xa (pd M z q))
def Gk:=bd (wS false 1 5 (.int .i64 0) [(0,(.int .i64 0)),(1,(.int .i64 0)),(2,(.int .i64 192)),(3,(.int .i64 224)),(4,(.int .i64 240))]) λd=> PB u 1 0 λx1=> u9 x1 I λe=> Kb e I λf=> wI u λg=> Ubh g d 1 λh=> u9 h I λi=> bd (pu (eB .sub .no f.ng i.ng)) λj=> u3 u I λa=> yF j I λb=> v8 I 1 λc=> pf M I.length I.length [a,b,c] I
def Bj:Ev.Fn:=⟨21,[.tmp 2],T,T,(Yq 0 [vY 2] (Yj (Yq 1 [YR 4,Yh 5 4,vV 6 5,Yv 3 6] (.block 0 (.loop [0,3] [2] [] (Yj (Yq 2 [Yv 7 3,Yo 8 .leq .no 7 (Yi 4)] (Yz 8 .skip (.exit 0))) (Yj (.block 1 (Yq 4 [YR 11,Yv 12 3,Yc 13 94 [11,(.c (.int .u8 128)),12],NH 14 50 13,Yv 15 14,xD 16 15 0,xD 17 15 3,Vdu 18 15 94 16 191 17,QZ 19 15 50 18,NC 20 15 19] (Ym 20 5 [oA 2]))) (vf 3 [Yv 9 3,vV 10 9,Yv 3 10])))))) (Yr 6 [vY 2])))⟩
def mS:=bd (pu (eB .leq .no z3.ng.ng (.int .i64 4))) λi=> br i.ng (bd (M.call 94 [N.ng.ng,(.int .u8 128),z3.ng.ng] I) λg=> D7 g.1 g.2 50 M λa=> xj a.1 N λj=> xj a.1 z3 λk=> bd (fO a.1.ng false (M.call 94 [j.ng,(.int .u8 191),k.ng] a.2) a.2) λh=> NT a.1 h.1 h.2 50 M λb=> xE a.1 b.1 λl=> br l.ng (Ke b.2 q λc=> Cu b.2 q λd=> bd (oK false c) (nK z d)) (yh z3 λe=> UF q b.2 [N,e.ng] S)) (vX I q λm=> Cu I q λf=> bd (oK false (.bool false)) (nK z f))
def pS:=M.fx (AY (mS M z q))
def Gr:=wI u λc=> xy c λx1=> u3 u I λa=> yF x1 I λb=> pS M I.length I.length [a,b] I
def Gx:Ev.Fn:=⟨17,[.tmp 2],T,T,(Yq 0 [vY 2] (Yr 1 [YR 3,YT 4 3,Yv 5 4,xC 6 5 0,Vb1 7 5 6 1114112,Fl 8 5 7,Yv 9 8,xC 10 9 0,Vb1 11 9 10 55296,xC 12 9 11,xD 13 12 0,J5 14 12 13 57343,YQ 15 9 12 14,Fl 16 9 15,Yv 2 16]))⟩
def HS(M:ah)(u:V)(I:hN):Ro:=Vg u 0 λb=> E2 b u λx1=> Uer b x1 1114112 λe=> xu b e λa=> E2 a u λf=> Uer a f 55296 λg=> E2 a g λc=> NO c u λh=> bd (aU c false (pu (eB .gtr .no h.ng (.int .i64 57343)))) λi=> CH a c i λj=> xu a j λd=> bd (oK false d.ng) (nK I.length I)
def HT:Ev.Fn:=⟨54,[.tmp 2],T,T,(Yq 0 [xR 2] (Yj (Yq 1 [YR 3,NG 4 3 128] (Ym 4 2 [YR 5,wX 6 5,J7 7 6,Yu 2 7])) (Yj (Yq 3 [YR 8,NG 9 8 2048] (Ym 9 4 [YR 10,Px 11 10 64,B6 12 192 11,wX 13 12,YR 14,Py 15 14 64,B6 16 128 15,wX 17 16,Yk 18 (.aw T 1 2 (.int .u8 0) [(0,13),(1,17)] T),Yu 2 18])) (Yj (Yq 5 [YR 19,NG 20 19 65536] (Ym 20 6 [YR 21,Px 22 21 4096,B6 23 224 22,wX 24 23,YR 25,Px 26 25 64,Py 27 26 64,B6 28 128 27,wX 29 28,YR 30,Py 31 30 64,B6 32 128 31,wX 33 32,Yk 34 (.aw T 1 3 (.int .u8 0) [(0,24),(1,29),(2,33)] T),Yu 2 34])) (Yr 7 [YR 35,Px 36 35 262144,B6 37 240 36,wX 38 37,YR 39,Px 40 39 4096,Py 41 40 64,B6 42 128 41,wX 43 42,YR 44,Px 45 44 64,Py 46 45 64,B6 47 128 46,wX 48 47,YR 49,Py 50 49 64,B6 51 128 50,wX 52 51,Yk 53 (.aw T 1 4 (.int .u8 0) [(0,38),(1,43),(2,48),(3,52)] T),Yu 2 53])))))⟩
def qa(M:ah)(u:V)(I:hN):Ro:=Fo u 128 λD=> br D.ng (Q6 u I λx1=> bd (wS false 1 1 (.int .u8 0) [(0,x1.ng)]) λE=> bd (oK false E) (nK I.length I)) (Fo u 2048 λF=> br F.ng (Jn u 64 λG=> Ln G 192 λH=> yG H I λJ=> Ue0 u λK=> Ln K 128 λL=> yG L I λN=> bd (wS false 1 2 (.int .u8 0) [(0,J.ng),(1,N.ng)]) λa=> bd (oK false a) (nK I.length I)) (Fo u 65536 λb=> br b.ng (Jn u 4096 λc=> Ln c 224 λd=> yG d I λe=> Jn u 64 λf=> bd (pu (eB .rem .no f.ng (.int .i64 64))) λg=> Ln g 128 λh=> yG h I λi=> Ue0 u λj=> Ln j 128 λk=> yG k I λl=> bd (wS false 1 3 (.int .u8 0) [(0,e.ng),(1,i.ng),(2,l.ng)]) λm=> bd (oK false m) (nK I.length I)) (Jn u 262144 λn=> Ln n 240 λo=> yG o I λp=> Jn u 4096 λq=> bd (pu (eB .rem .no q.ng (.int .i64 64))) λr=> Ln r 128 λs=> yG s I λt=> Jn u 64 λv=> bd (pu (eB .rem .no v.ng (.int .i64 64))) λw=> Ln w 128 λx=> yG x I λy=> Ue0 u λz=> Ln z 128 λA=> yG A I λB=> bd (wS false 1 4 (.int .u8 0) [(0,p.ng),(1,t.ng),(2,y.ng),(3,B.ng)]) λC=> bd (oK false C) (nK I.length I))))
def HU:Ev.Fn:=⟨20,[.tmp 2],T,T,(Yq 0 [vJ 2] (Yj (Yq 1 [YR 3,Li 4 3 65,Yv 5 4,xC 6 5 0,J3 7 5 6 90,Fl 8 5 7] (Ym 8 2 [YR 9,wO 10 9 32,Yv 2 10])) (Yj (Yq 3 [YR 11,Li 12 11 97,Yv 13 12,xC 14 13 0,J3 15 13 14 122,Fl 16 13 15] (Ym 16 4 [YR 17,DD 18 17 32,Yv 2 18])) (Yr 5 [YR 19,Yv 2 19]))))⟩
def HV(M:ah)(u:V)(I:hN):Ro:=Vg u 65 λa=> E2 a u λx1=> HA a x1 90 λc=> xu a c λd=> br d.ng (bd (pu (eB .add .no u.ng.ng (.int .i64 32))) λe=> bd (oK false e.ng) (nK I.length I)) (Vg u 97 λb=> E2 b u λf=> HA b f 122 λg=> xu b g λh=> br h.ng (PK u 32 λi=> bd (oK false i.ng) (nK I.length I)) (bd (oK false u.ng.ng) (nK I.length I)))
def Bl:Ev.Fn:=⟨18,[.tmp 4],T,T,(Yq 0 [vY 4] (Yj (Yq 1 [vJ 5] (.block 0 (.loop [0,1,5] [4] [] (Yj (Yq 2 [Yv 6 5,YR 7,Yh 8 7,Ak 9 6 8] (Yz 9 .skip (.exit 0))) (Yj (.block 1 (Yq 4 [YR 12,Yv 13 5,mT 14 12 13,vj 15 14,Vb2 16,NF 17 15 16] (Ym 17 5 [oA 4]))) (vf 3 [Yv 10 5,vV 11 10,Yv 5 11])))))) (Yr 6 [vY 4])))⟩
def oh(M:ah)(z:Nat)(q:Nat)(S:Rk)(N Q z5:V)(I:hN):Ro:=wI N λb=> A4 z5 b λx1=> br x1.ng (GH z5 N 1 λc=> u9 c I λd=> Za d Q λe=> br e.ng (Ke I q λf=> Cu I q λg=> bd (oK false f) (nK z g)) (yh z5 λh=> UF q I [N,Q,h.ng] S)) (vX I q λi=> Cu I q λa=> bd (oK false (.bool false)) (nK z a))
def pg:=M.fx (xa (oh M z q))
def HX:=u3 u I λa=> u3 a1 I λb=> VD I λc=> pg M I.length I.length [a,b,c] I
def My:Ev.Fn:=⟨6,[.tmp 2],T,T,(Yq 0 [vY 2] (Yr 1 [YR 3,Vcd 4 3,NH 5 81 4,Yv 2 5]))⟩
def Il:=Rh u I λb=> D7 b I 81 M λa=> bd (oK false a.1.ng) (nK I.length a.2)
def H':Ev.Fn:=⟨6,[.tmp 2],T,T,(Yq 0 [vY 2] (Yr 1 [Yk 3 (.gb 10 1 T (.g 1) none none),YR 4,YS 5 44 3 4,Yv 2 5]))⟩
def Mh:=bd (pu (BU 10 1 false (M.G.g 1).ng none none)) λb=> Q9 b u I 44 M λa=> bd (oK false a.1.ng) (nK I.length a.2)
def Ic:Ev.Fn:=⟨13,[.tmp 4],true,true,(Yq 0 [xR 4] (Yj (Yq 1 [YR 5,Vb2 6,YS 7 44 5 6] (Ym 7 2 [mA 8,Yu 4 8])) (Yr 3 [mA 9,Vb2 10,Ps 11 10,YU 12 16 9 11,Yu 4 12])))⟩
def Mq:=Q5 u a1 I 44 M λa=> br a.1.ng (bd (oK true u) (eU true I.length a.2)) (Ue2 a1 λx1=> Zj u x1 a.2 1 16 λb=> bd (oK true b.1) (eU true I.length b.2))
def QbA:bW M Ic [u,a1] I=Mq M u a1 I:=vi
def L7:Ev.Fn:=⟨75,[.tmp 4,.tmp 5,.tmp 6],T,T,(Yq 0 [xR 4,vJ 5,Y1 6] (Yq 1 [YR 11,NH 12 98 11,Yk 13 (.gZ),Yk 14 (.gZ),Yk 15 (.build [.ad,.ad,.ad,.cg,.cg,.ad,Y0] [(1,1,12),(3,1,13),(4,1,14)]),Yk 16 (.box 15),Yv 7 16] (Yq 2 [YR 17,Yh 18 17,Yk 19 (.da T 1 1 Yb 18 18 T),Yu 8 19] (Yj (Yq 3 [mA 20,Yh 21 20,vJ 22] (.block 0 (.loop [1,7,8,20,21,22] [1,4,5,6,7,8] [] (Yq 4 [Ak 23 22 21] (Yj (Yz 23 .skip (.exit 0)) (Yj (.block 1 (Yq 5 [Yv 24 22,Ye 25 3 20 22,Jh 26 3 25,CF 10,Yv 9 24,J4 3 10 26] (Yj (Yq 6 [Ya 27 1 10,vj 28 27,Vcd 29 28,NH 30 81 29,CX 31 30] (Ym 31 7 [Yv 32 9,Yc 33 22 [(Yi 1),32],xR 4,vJ 5,Yv 6 33])) (.dH 8 [⟨Yv 34 7,0,[]⟩,⟨Yv 35 7,1,[]⟩,⟨Yk 36 (.dh 35),2,[]⟩,⟨Ya 37 0 36,3,[]⟩,⟨Yk 38 (.loadT 37),4,[]⟩,⟨Yl 39 true 3 10,5,[]⟩,⟨Yc 40 99 [39],6,[4]⟩,⟨Yk 41 (.aw T 1 1 .bc [(0,40)] T),7,[]⟩,⟨Yk 42 (.app T T 1 16 38 41 true),8,[]⟩,⟨Yk 43 (.dh 34),9,[]⟩,⟨Ya 44 0 43,10,[]⟩,⟨Yw 1 44 42 true,11,[]⟩])))) (vf 9 [vV 45 22,Yv 22 45]))))))) (Yj (.dH 10 [⟨Yv 46 7,0,[]⟩,⟨Yk 47 (.dh 46),1,[]⟩,⟨Ya 48 4 47,2,[]⟩,⟨Yl 49 T 1 48,3,[]⟩,⟨Yv 50 8,4,[]⟩,⟨Yc 51 100 [50],5,[3]⟩,⟨⟨none,none,.uT .s 49 51 Yt⟩,6,[]⟩]) (Yq 11 [Yv 52 7,Yu 53 8,Yk 54 (.build [.ad,Yn,Yb] [(0,1,53),(2,1,Yt)]),Yk 55 (.aw true 3 1 (.agg [.ad,Yn,Yb]) [(0,54)] T),yX 56 52,Ya 57 5 56,Yw 1 57 55 true] (Yj (Yq 12 [Yv 58 7,Vb2 59,YS 60 101 58 59,CX 61 60] (Yz 61 (Yj (.dH 13 [⟨Yv 62 7,0,[]⟩,⟨Yk 63 (.dh 62),1,[]⟩,⟨Ya 64 6 63,2,[]⟩,⟨Yl 65 T 1 64,3,[]⟩,⟨Yc 66 22 [(Yi 21),(Yi 0)],4,[3]⟩,⟨Yv 4 (.c .ad),5,[]⟩,⟨Yv 5 65,6,[]⟩,⟨Yv 6 66,7,[]⟩]) .ret) .skip)) (Yj (.dH 14 [⟨Yv 67 7,0,[]⟩,⟨Yk 68 (.dh 67),1,[]⟩,⟨Ya 69 5 68,2,[]⟩,⟨Yl 70 T 1 69,3,[]⟩,⟨Yv 71 7,4,[]⟩,⟨Yk 72 (.dh 71),5,[]⟩,⟨Ya 73 6 72,6,[]⟩,⟨Yl 74 T 1 73,7,[]⟩,⟨Yu 4 70,8,[]⟩,⟨Yv 5 74,9,[]⟩,⟨Yv 6 (.c .bc),10,[]⟩]) .ret))))))))⟩
def nb:=yp z22 z21 λx8=> br x8.ng (Ubh z22 z20 3 λx9=> zd x9 I 3 λp=>
 let r:hN:=I++[.cells [(.int .i64 0),(.str []),(.bool false)]]
 CG p r I 3 0 λf=> Vi I 1 0 λs=> u9 s f.2 λt=> bd (eC f.2 .bz t.ng) λu=> D7 u f.2 81 M λd=> xb d.1 λv=> br v.ng (bd (M.call 22 [(.int .i64 1),z22.ng.ng.ng.ng] d.2) λa=> u6 Q a.2 q λf=> Re a.2 q λw=> bd (fz q a.2 fzD (.int .i64 0)) λx=> Vp a.1 a.2 q λy=> u6 z7 a.2 q λf=> u6 z8 a.2 q λf=> Cu a.2 q λA=> nK z A (.aR [V.aI w,V.aI x,V.aI y])) (Uaj z7 λB=> Rc B λg=> Vx g d.2 λe=> G6 e.2 I 3 0 λC=> bd (ZU [VH d.2 g.ng] e.2) λD=> D7 C D 99 M λk=> bd (w_ [VH d.2 g.ng] e.2 k.2) λl=> bd (wS false 1 1 .bc [(0,k.1.ng)]) λE=> Lk e.1 E l 1 16 λF=> Uaj z7 λG=> Rc G λH=> PI H F l λJ=> xy z22 λK=> UF q J.2 [Q,z7,z8,z20,z21,K.ng] S)) (u6 Q I q λL=> vX I q λa=> vX I q λa=> vX I q λa=> u6 z7 I q λc=> u6 z8 I q λm=> Cu I q λh=> Uaj c λN=> xi N 4 λi=> u9 i h λO=> Y_ i h λP=> PC m P 100 M λn=> PJ i h n.2 λR=> bd (JW .s R O.ng n.1.ng (.bool true)) λU=> bd (pu (mz [.ad,(.str []),(.bool false)] [(0,1,m.ng),(2,1,(.bool true))])) λX=> bd (wS true 3 1 (.agg [.ad,(.str []),(.bool false)]) [(0,X.ng)]) λa=> Uaj c λd=> xi d 5 λd=> PI d a U.2 λa=> Q5 c L a.2 101 M λb=> xb b.1 λa=> br a.ng (Uaj c λa=> xi a 6 λj=> u9 j b.2 λa=> Y_ j b.2 λd=> Ue1 d M λo=> PJ j b.2 o.2 λd=> nK z d (.aR [V.aI .ad,V.aI a.ng,V.aI o.1.ng])) (Uaj c λa=> xi a 5 λa=> u9 a b.2 λa=> Uaj c λc=> xi c 6 λc=> u9 c b.2 λc=> nK z b.2 (.aR [V.aI a,V.aI c.ng,V.aI .bc])))
def ph:=M.fx (Al (nb M z q))
def L8:=PC u I 98 M λh=> Jm h.2 λi=> Jm i.2 λj=> bd (pu (mz [.ad,.ad,.ad,.cg,.cg,.ad,(.int .i64 0)] [(1,1,h.1.ng),(3,1,i.1.ng),(4,1,j.1.ng)])) λl=> Am l j.2 λa=> wI u λk=> bd (gH false 1 1 (.bool false) k.ng k.ng) λm=> Cv u λn=> u3 a1 a.2 λb=> yF a.1 a.2 λc=> u3 m a.2 λd=> u3 u a.2 λe=> u3 n a.2 λf=> VD a.2 λg=> ph M I.length a.2.length [b,c,d,e,f,g] a.2
def H5:Ev.Fn:=⟨21,[.tmp 2],T,T,(Yq 0 [Vb 1,vY 2] (Yj (Yq 1 [Ya 3 0 1,vj 4 3] (.block 0 (Yj (.block 3 (Yj (.block 2 (Yj (.block 1 (Yj (Yj (Yj (Yq 2 [Hx 6 4 1,Yv 5 6] (Yz 5 .skip (Yq 3 [Hx 7 4 2,Yv 5 7] (Yz 5 .skip (vf 4 [Hx 8 4 4,Yv 5 8]))))) (Yz 5 (.exit 1) .skip)) (Yj (Yq 5 [Hx 10 4 3,Yv 9 10] (Yz 9 (.exit 2) .skip)) (Yj (Yq 6 [Hx 12 4 5,Yv 11 12] (Yz 11 .skip (Yq 7 [Hx 13 4 6,Yv 11 13] (Yz 11 .skip (vf 8 [Hx 14 4 7,Yv 11 14]))))) (Yz 11 (.exit 3) .skip)))) (.exit 0))) (Yj (Yr 9 [vY 2]) (.exit 0)))) (Yq 10 [Ya 15 1 1,vj 16 15,NH 17 85 16] (Ym 17 11 [oA 2])))) (Yj (Yr 12 [Ya 18 1 1,vj 19 18,Vda 20 19,Yv 2 20]) (.exit 0))))) (Yr 13 [oA 2])))⟩
def QeI(M:ah)(z:Nat)(Q:V)(I:hN):Ro:=xi Q 1 λa=> u9 a I λb=> Vq b λc=> bd (oK false c.ng) (nK z I)
def QdW:=br z11.ng (QeI M z Q I) (bd (oK false (.bool true)) (nK z I))
def QdX:=br z5.ng (bd (oK false (.bool false)) (nK z I)) (vt z4 3 λe=> br e.ng.ng (xi Q 1 λf=> u9 f I λg=> D7 g I 85 M λc=> br c.1.ng (bd (oK false (.bool true)) (nK z c.2)) (QeI M z Q c.2)) (vt z4 5 λa=> br a.ng.ng (QdW M z Q a.ng I) (vt z4 6 λb=> br b.ng.ng (QdW M z Q b.ng I) (vt z4 7 λd=> QdW M z Q d.ng I))))
def nc:=Am u I λa=> Rc a.1 λx1=> u9 x1 a.2 λb=> vt b 1 λc=> br c.ng.ng (QdX M I.length a.1 b c.ng a.2) (vt b 2 λd=> br d.ng.ng (QdX M I.length a.1 b d.ng a.2) (vt b 4 λe=> QdX M I.length a.1 b e.ng a.2))
def H8:Ev.Fn:=⟨16,[.cell 4 true 3,.tmp 5],T,T,(Yq 0 [Vb 2,CF 4,B7 5] (Yj (Yq 1 [Ya 6 2 2,vj 7 6] (Yz 7 (vf 2 [Ya 8 1 2,vj 9 8,NH 10 86 9,Vb2 11,NH 12 86 11,Ya 13 1 2,J4 1 13 10,Yv 1 12]) .skip)) (Yr 3 [Jh 14 3 2,Vb2 15,J4 3 4 14,Yv 5 15])))⟩
def pj(M:ah)(z:Nat)(Q b z4:V)(I:hN):Ro:=zd b I 3 λc=> Ka z4 c I 3 λa=> bd (il a.2 true 3 z4) λd=> nK z a.2 (.aR [V.aI d,V.aI Q.ng.ng])
def Bm:=Am u I λa=>
 let c:hN:=a.2++[.cells [(.int .i64 0),(.str []),(.bool false)]]
 xi a.1 2 λg=> u9 g c λh=> br h.ng (xi a.1 1 λi=> u9 i c λj=> D7 j c 86 M λf=> PC a1 f.2 86 M λb=> xi a.1 1 λd=> Ka d f.1 b.2 1 λe=> pj M I.length b.1.ng a.1 (.ptr a.2.length 0) e.2) (pj M I.length a1 a.1 (.ptr a.2.length 0) c)
def Rz:Ev.Fn:=⟨5,[.tmp 2],T,T,(Yq 0 [xR 2] (Yr 1 [YR 3,Yc 4 87 [3,(.f 88)],Yu 2 4]))⟩
def RA:=bd (M.call 87 [u.ng.ng,(.fn 88 [] [])] I) λa=> bd (oK false a.1) (nK I.length a.2)
def LJ:Ev.Fn:=⟨11,[.tmp 4,.tmp 5],T,T,(Yq 0 [B7 4,vY 5] (Yr 1 [YR 6,Vb2 7,YS 8 90 6 7,Yx 9 8 0,Yx 10 8 1,Yv 4 9,Yv 5 10]))⟩
def Ea:=Q5 u a1 I 90 M λa=> VE a.1 0 λx1=> VE a.1 1 λb=> nK I.length a.2 (.aR [V.aI x1.ng,V.aI b.ng])
def Im:Ev.Fn:=⟨8,[.tmp 4],T,T,(Yq 0 [vY 4] (Yr 1 [YR 5,Vb2 6,YS 7 91 5 6,Yv 4 7]))⟩
def Ir:=Q5 u a1 I 91 M λa=> bd (oK false a.1.ng) (nK I.length a.2)
def IC:Ev.Fn:=⟨8,[.tmp 4],T,T,(Yq 0 [vY 4] (Yr 1 [YR 5,Vb2 6,YS 7 92 5 6,Yv 4 7]))⟩
def ID:=Q5 u a1 I 92 M λa=> bd (oK false a.1.ng) (nK I.length a.2)
def Bn:Ev.Fn:=⟨20,[.tmp 6],T,T,(Yq 0 [xR 6] (Yq 1 [Va 8,mA 9,Pr 10 8 9,Yu 7 10] (Yj (.block 0 (.loop [1,2,7] [6,7] [] (Yj (Yq 2 [Yv 11 7,Yh 12 11,Yv 13 2,Ak 14 12 13] (Yz 14 .skip (.exit 0))) (.block 1 (vf 3 [Yu 15 7,Vb2 16,J7 17 16,Pr 18 15 17,Yu 7 18]))))) (Yr 4 [Yu 19 7,Yu 6 19]))))⟩
def pn(M:ah)(z:Nat)(q:Nat)(S:Rk)(Q c z7:V)(I:hN):Ro:=wI z7 λd=> bd (pu (eB .lss .no d.ng c.ng.ng)) λe=> br e.ng (bd (wS false 1 1 (.int .u8 0) [(0,Q.ng.ng)]) λf=> PE z7 f I λg=> UF q I [Q,c,g] S) (vX I q λh=> u6 z7 I q λa=> Cu I q λb=> bd (oK false a) (nK z b))
def pT:=M.fx (xa (pn M z q))
def IR:=BM λd=> PE d u I λx1=> u3 a1 I λa=> u3 a2 I λb=> u3 x1 I λc=> pT M I.length I.length [a,b,c] I
def Ej:Ev.Fn:=⟨16,[.tmp 2],T,T,(Yq 0 [vY 2] (Yj (Yq 1 [YR 5,Yh 6 5,vJ 7] (.block 0 (.loop [0,5,6,7] [0,2] [] (Yq 2 [Ak 8 7 6] (Yj (Yz 8 .skip (.exit 0)) (Yj (.block 1 (Yq 3 [mT 9 5 7,vj 10 9,Yv 4 10] (Yq 4 [Yv 11 4,xh 12 11 0] (Ym 12 5 [vY 2])))) (vf 6 [vV 13 7,Yv 7 13]))))))) (Yr 7 [mA 14,NH 15 95 14,Yv 2 15])))⟩
def zX:=yp z7 z6 λx1=> br x1.ng (Ubh z7 z5 1 λd=> u9 d I λe=> bd (pu (eB .eql .no e.ng.ng.ng (.int .u8 0))) λf=> br f.ng (u6 N I q λk=> Cw I q λg=> Cu I q λh=> bd (oK false g) (nK z h)) (xy z7 λi=> UF q I [N,z5,z6,i.ng] S)) (u6 N I q λb=> vX I q λj=> Cu I q λc=> D7 b c 95 M λa=> bd (oK false a.1.ng) (nK z a.2))
def yT:=M.fx (xS (zX M z q))
def zY:=wI u λe=> u3 u I λa=> yF u I λb=> u3 e I λc=> VD I λd=> yT M I.length I.length [a,b,c,d] I
def zF:Ev.Fn:=⟨51,[.tmp 2],T,T,(Yq 0 [xR 2] (Yq 1 [Yk 9 (.aw T 1 1 Y0 [(0,(Yi 45))] true),Yu 3 9] (Yq 2 [YR 10,Yc 11 107 [10,(.f 108)],Yv 4 11] (Yj (Yq 3 [mA 12,Yh 13 12,vJ 14] (.block 0 (.loop [3,4,12,13,14] [2,3] [3] (Yq 4 [Ak 15 14 13] (Yj (Yz 15 .skip (.exit 0)) (Yj (.block 1 (Yq 5 [Ye 16 3 12 14,Jh 17 3 16,CF 6,J4 3 6 17] (Yq 6 [Ya 18 1 6,vj 19 18,NH 20 109 19,Yh 21 20,vJ 22] (.block 2 (.loop [3,4,12,13,14,20,21,22] [2,3,4,12,13,14] [3] (Yq 7 [Ak 23 22 21] (Yj (Yz 23 .skip (.exit 2)) (Yj (.block 3 (Yq 8 [mT 24 20 22,vj 25 24,Yv 8 25] (Yq 9 [Yu 26 3,Yv 27 8,Ae 28 27,YU 29 8 26 28,Yu 3 29] (Yq 10 [Yv 30 4] (Yz 30 (vf 11 [Yu 31 3,Yv 32 8,NH 33 110 32,Ae 34 33,YU 35 8 31 34,Yu 3 35]) .skip))))) (vf 12 [vV 36 22,Yv 22 36]))))))))) (vf 13 [vV 37 14,Yv 14 37]))))))) (Yq 14 [Yu 38 3,Yu 39 3,NH 40 111 39,YU 41 8 38 40,Yu 3 41] (Yq 15 [Yu 42 3,Yu 43 3,NH 44 112 43,Ae 45 44,YU 46 8 42 45,Yu 3 46] (Yq 16 [Yv 47 3,NH 48 113 47] (Yr 17 [Yu 49 3,NH 50 114 49,Yu 2 50]))))))))⟩
def Bk(M:ah)(z:Nat)(q:Nat)(S:Rk)(n2:Nat)(r2:Rk)(z3 z4 z12 z13 z14 z20 z21 z22:V)(I:hN):Ro:=xy z22 λb=> bd (VJ n2 [3] [(3,z3),(4,z4),(12,z12),(13,z13),(14,z14),(20,z20),(21,z21),(22,b.ng)] I) λa=>r2 a.1 a.2
def Bo:=yp z22 z21 λh=> br h.ng (Ubh z22 z20 1 λi=> u9 i I λc=> Y' c λj=> Zj z3 j I 1 8 λb=> br z4.ng.ng (bd (M.call 110 [c.ng.ng.ng] b.2) λd=> NP d.1 λk=> Zj b.1 k d.2 1 8 λe=> Bk M z q S n2 r2 e.1 z4 z12 z13 z14 z20 z21 z22 e.2) (Bk M z q S n2 r2 b.1 z4 z12 z13 z14 z20 z21 z22 b.2)) (bd (VJ n2 [3] [(2,.any),(3,z3),(4,z4),(12,z12),(13,z13),(14,z14)] I) λf=>
 let a:uZ:=f.1
 bd (pu (eB .add .no (a.getD 5 .undef).ng (.int .i64 1))) λl=>bd (VJ q [3] [(3,(a.getD 1 .undef)),(4,(a.getD 2 .undef)),(12,(a.getD 3 .undef)),(13,(a.getD 4 .undef)),(14,l.ng)] f.2) λg=>S g.1 g.2)
def x_:=M.fx (GF (Bo M z q S n2))
def zK:=yp z14 z13 λv=> br v.ng (Ubh z14 z12 3 λw=> zd w I 3 λx=>
 let y:hN:=I++[.cells [(.int .i64 0),(.str []),(.bool false)]]
 CG x y I 3 0 λu=> Vi I 1 0 λA=> u9 A u.2 λB=> D7 B u.2 109 M λa=> Cv a.1 λi=> u3 z3 a.2 λj=> u3 z4 a.2 λk=> u3 z12 a.2 λl=> u3 z13 a.2 λm=> u3 z14 a.2 λn=> u3 a.1 a.2 λo=> u3 i a.2 λp=> VD a.2 λr=> x_ M z q S a.2.length [j,k,l,m,n,o,p,r] a.2) (bd (VJ q [3] [(2,.any),(3,z3)] I) λd=>
 let e:uZ:=d.1
 bd (M.call 111 [(e.getD 1 .undef).ng.ng] d.2) λf=>bd (G' false false 1 8 f.2 (e.getD 1 .undef) f.1.ng) λb=>PC b.1 b.2 112 M λg=> NP g.1 λs=> Zj b.1 s g.2 1 8 λc=> PC c.1 c.2 113 M λt=> D7 c.1 t.2 114 M λh=> bd (oK false h.1) (nK z h.2))
def Bp:=M.fx (D5 (zK M z q))
def LW:=bd (QM false 1 1 (.int .i64 0) [(0,(.int .i64 45))] I) λg=> bd (M.call 107 [u.ng.ng,(.fn 108 [] [])] g.2) λa=> Cv u λh=> u3 g.1 a.2 λb=> yF a.1 a.2 λc=> u3 u a.2 λd=> u3 h a.2 λe=> VD a.2 λf=> Bp M I.length a.2.length [b,c,d,e,f] a.2
def HE:Ev.Fn:=⟨52,[.tmp 2],T,T,(Yq 0 [Vb 1,Y1 2] (Yj (.dH 1 [⟨Ya 4 1 1,0,[]⟩,⟨Yl 5 T 1 4,1,[]⟩,⟨Ya 7 2 1,3,[]⟩,⟨Yl 8 T 1 7,4,[]⟩,⟨Yk 3 (.alloc [.ad,Yb]),6,[]⟩,⟨Yc 6 109 [5],2,[3,4]⟩,⟨Yk 9 (.build [.ad,Yb] [(0,1,6),(1,1,8)]),5,[]⟩,⟨Yw 2 3 9 T,7,[]⟩]) (Yj (Yq 2 [Jh 10 3 1,NH 11 64 10] (Ym 11 3 [Vd4 12,B8 13 186 12,Yv 2 13])) (Yj (Yq 4 [Ya 14 0 1,vj 15 14] (.block 0 (Yq 5 [Hx 17 15 2,Yv 16 17] (Yz 16 (Yr 6 [Jh 18 2 3,Mp 19 18,B8 20 188 19,Yv 2 20]) (Yq 7 [Hx 22 15 3,Yv 21 22] (Yz 21 (Yr 8 [Jh 23 2 3,Mp 24 23,Mp 25 24,B8 26 190 25,Yv 2 26]) (Yq 9 [Hx 28 15 4,Yv 27 28] (Yz 27 (Yr 10 [Jh 29 2 3,Mp 30 29,Mp 31 30,B8 32 191 31,Yv 2 32]) (Yq 11 [Hx 34 15 5,Yv 33 34] (Yz 33 (Yr 12 [Jh 35 2 3,Mp 36 35,Mp 37 36,B8 38 192 37,Yv 2 38]) (Yq 13 [Hx 40 15 6,Yv 39 40] (Yz 39 (Yr 14 [Jh 41 2 3,NH 42 115 41,B8 43 194 42,Yv 2 43]) (Yq 15 [Hx 45 15 7,Yv 44 45] (Ym 44 16 [Jh 46 2 3,NH 47 115 46,Yk 48 (.build [.ad,Yb,.ad] [(0,3,47)]),B8 49 197 48,Yv 2 49])))))))))))))) (Yr 17 [Vd4 50,B8 51 198 50,Yv 2 51])))))⟩
def Lz:=Am u I λb=> xi b.1 1 λx1=> u9 x1 b.2 λJ=> xi b.1 2 λg=> u9 g b.2 λK=>
 let G:hN:=b.2++[.cells [.ad,(.bool false)]]
 bd (ZU [xN false 1 g.ng,.made b.2.length] G) λL=> D7 J L 109 M λH=> bd (w_ [xN false 1 g.ng,.made b.2.length] G H.2) λN=> bd (pu (mz [.ad,(.bool false)] [(0,1,H.1.ng),(1,1,K.ng)])) λO=> CG O N b.2 2 0 λd=> zd b.1 d.2 3 λh=> D7 h d.2 64 M λa=> br a.1.ng (bd (pu (mz [] [])) λi=> bd (oK false (.bE 186 i.ng)) (nK I.length a.2)) (Rc b.1 λj=> u9 j a.2 λc=> vt c 2 λk=> br k.ng.ng (G6 a.2 b.2 2 0 λl=> Jj l λm=> bd (oK false (.bE 188 m.ng)) (nK I.length a.2)) (vt c 3 λn=> br n.ng.ng (G6 a.2 b.2 2 0 λo=> Jj o λp=> Jj p λq=> bd (oK false (.bE 190 q.ng)) (nK I.length a.2)) (vt c 4 λr=> br r.ng.ng (G6 a.2 b.2 2 0 λs=> Jj s λt=> Jj t λv=> bd (oK false (.bE 191 v.ng)) (nK I.length a.2)) (vt c 5 λw=> br w.ng.ng (G6 a.2 b.2 2 0 λx=> Jj x λy=> Jj y λz=> bd (oK false (.bE 192 z.ng)) (nK I.length a.2)) (vt c 6 λA=> br A.ng.ng (G6 a.2 b.2 2 0 λB=> D7 B a.2 115 M λe=> bd (oK false (.bE 194 e.1.ng)) (nK I.length e.2)) (vt c 7 λC=> br C.ng.ng (G6 a.2 b.2 2 0 λD=> D7 D a.2 115 M λf=> bd (pu (mz [.ad,(.bool false),.ad] [(0,3,f.1.ng)])) λE=> bd (oK false (.bE 197 E.ng)) (nK I.length f.2)) (bd (pu (mz [] [])) λF=> bd (oK false (.bE 198 F.ng)) (nK I.length a.2))))))))
def HD:Ev.Fn:=⟨23,[.tmp 2],T,T,(Yq 0 [B7 2] (Yq 1 [YR 6,Yh 7 6,Yk 8 (.da T 1 1 (.int .u8 0) 7 7 true),Yu 3 8] (Yj (Yq 2 [mA 9,Yh 10 9,vJ 11] (.block 0 (.loop [3,9,10,11] [2,3] [] (Yq 3 [Ak 12 11 10] (Yj (Yz 12 .skip (.exit 0)) (Yj (.block 1 (Yq 4 [Yv 13 11,mT 14 9 11,vj 15 14,Yv 4 13,Yv 5 15] (Yq 5 [Yv 16 5] (Yz 16 (vf 6 [Yv 17 3,Yv 18 4,mT 19 17 18,Vc 1 19 1]) .skip)))) (vf 7 [vV 20 11,Yv 11 20]))))))) (Yr 8 [Yu 21 3,YY 22 21,Yv 2 22]))))⟩
def vp(M:ah)(z:Nat)(q:Nat)(S:Rk)(z3 z9 z10 z11:V)(I:hN):Ro:=xy z11 λa=> UF q I [z3,z9,z10,a.ng] S
def vq:=yp z11 z10 λh=> br h.ng (Ubh z11 z9 1 λb=> u9 b I λc=> br c.ng.ng.ng (zf z11 z3 1 λd=> Jk d I 1 1 λe=> vp M z q S z3 z9 z10 z11 e.2) (vp M z q S z3 z9 z10 z11 I)) (vX I q λi=> u6 z3 I q λf=> Cu I q λa=> Jo f a λg=> bd (oK false g.ng) (nK z a))
def A5:=M.fx (xS (vq M z q))
def Ly:=wI u λf=> bd (ej false 1 1 (.int .u8 0) f.ng f.ng I) λa=> Cv u λg=> u3 a.1 a.2 λb=> u3 u a.2 λc=> u3 g a.2 λd=> VD a.2 λe=> A5 M I.length a.2.length [b,c,d,e] a.2
def IS:bW M HD [u] I=Ly M u I:=vi
def GM:Ev.Fn:=⟨95,[.tmp 4],T,T,(Yq 0 [vY 4] (Yq 1 [YR 11,YR 12,yX 13 12,Vdr 14 13,vj 15 14,Yh 16 15,Yk 17 (.da T 1 8 Y0 16 16 T),Yk 18 (.build [.ad,Y0,Y0] [(0,1,17),(1,1,(Yi (-1)))]),YS 19 116 11 18] (Yj (Yq 2 [vJ 5] (.block 0 (.loop [0,1,5] [4] [] (Yj (Yq 3 [Yv 20 5,YR 21,yX 22 21,Ya 23 2 22,vj 24 23,Yh 25 24,Ak 26 20 25] (Yz 26 .skip (.exit 0))) (Yj (.block 1 (Yq 5 [YR 29,yX 30 29,Ya 31 1 30,vj 32 31,Yh 33 32,vJ 34] (.block 2 (.loop [0,1,5,32,33,34] [0,1,4,5] [] (Yq 6 [Ak 35 34 33] (Yj (Yz 35 .skip (.exit 2)) (Yj (.block 3 (Yq 7 [mT 36 32 34,vj 37 36,Yv 7 37] (Yj (Yq 8 [YR 38,yX 39 38,Ya 40 6 39,vj 41 40,Vb2 42,Mv 43 41 42] (Ym 43 9 [vY 4])) (Yq 10 [YR 44,yX 45 44,Ya 46 6 45,vj 47 46,vV 48 47,yX 49 44,Ya 50 6 49,J4 1 50 48] (Yq 11 [YR 51,yX 52 51,Vdr 53 52,vj 54 53,Yh 55 54,Yk 56 (.da T 1 8 Y0 55 55 true),Yu 8 56] (Yj (Yq 12 [YR 57,yX 58 57,Vdr 59 58,vj 60 59,Yh 61 60,vJ 62] (.block 4 (.loop [0,1,5,7,8,32,33,34,60,61,62] [0,1,4,5,7,8,32,33,34] [] (Yq 13 [Ak 63 62 61] (Yj (Yz 63 .skip (.exit 4)) (Yj (.block 5 (Yq 14 [Yv 64 62,mT 65 60 62,vj 66 65,Yv 9 64,Yv 10 66] (.dH 15 [⟨Yv 67 8,0,[]⟩,⟨Yv 68 9,1,[]⟩,⟨Yv 69 10,2,[]⟩,⟨Yv 70 0,3,[]⟩,⟨Yk 71 (.dh 70),4,[]⟩,⟨Ya 72 2 71,5,[]⟩,⟨Yl 73 T 1 72,6,[]⟩,⟨Yv 74 5,7,[]⟩,⟨Ye 75 3 73 74,8,[]⟩,⟨Ya 76 0 75,9,[]⟩,⟨Yl 77 T 1 76,10,[]⟩,⟨Yv 78 9,11,[]⟩,⟨Ye 79 1 77 78,12,[]⟩,⟨Yl 80 T 1 79,13,[]⟩,⟨Yv 81 7,14,[]⟩,⟨Yk 82 (.eQ 38246481765307975497974547450699476918647 69),15,[]⟩,⟨Yk 83 (.cg 38246481765307975497974547450699476918647 [(186,T),(188,T),(189,true),(190,T),(191,T),(192,T),(194,T),(196,true),(197,T),(198,T)] 82),16,[]⟩,⟨Yv 84 69,17,[]⟩,⟨Yk 85 (.dS 84 [(186,211,none),(188,213,none),(189,213,(some (0,2))),(190,215,none),(191,219,none),(192,220,none),(194,222,none),(196,222,(some (0,3))),(197,223,none),(198,225,none)] [80,81]),18,[]⟩,⟨Ye 86 1 67 68,19,[]⟩,⟨Yw 1 86 85 T,20,[]⟩]))) (vf 16 [vV 87 62,Yv 62 87]))))))) (vf 17 [YR 88,Yu 89 8,Yv 90 5,Yv 91 7,Yk 92 (.build [.ad,Y0,Y0] [(0,1,89),(1,1,90),(2,1,91)]),YS 93 116 88 92]))))))) (vf 18 [vV 94 34,Yv 34 94])))))))) (vf 4 [Yv 27 5,vV 28 27,Yv 5 28])))))) (Yr 19 [oA 4]))))⟩
def Dt(M:ah)(z:Nat)(q:Nat)(S:Rk)(n2:Nat)(r2:Rk)(n3:Nat)(r3:Rk)(N Q z5 z7 z8 z32 z33 z34 b c a:V)(I:hN):Ro:=yp a c λh=> br h.ng (Ubh a b 1 λi=> u9 i I λd=> Uaj N λj=> xi j 2 λk=> u9 k I λl=> Ls z5 l 3 λm=> Rc m λn=> u9 n I λo=> bd (pu (eI 1 a.ng.ng.ng.ng o.ng)) λp=> u9 p I λr=> bd (pu (ny 38246481765307975497974547450699476918647 d.ng.ng.ng)) λs=> bd (pu (O4 38246481765307975497974547450699476918647 [(186,false),(188,false),(189,true),(190,false),(191,false),(192,false),(194,false),(196,true),(197,false),(198,false)] s.ng)) λH=> bd (KH M I d.ng.ng.ng.ng [(186,211,none),(188,213,none),(189,213,(some (0,2))),(190,215,none),(191,219,none),(192,220,none),(194,222,none),(196,222,(some (0,3))),(197,223,none),(198,225,none)] [r.ng,z7.ng.ng]) λe=> zf a z8 1 λt=> Ka t e.1 e.2 1 λu=> xy a λv=> UF n3 u.2 [N,Q,z5,z7,z8,z32,z33,z34,b,c,v.ng] r3) (u6 N I n3 λf=> u6 Q I n3 λw=> vX I n3 λJ=> u6 z5 I n3 λg=> u6 z7 I n3 λx=> u6 z8 I n3 λy=> u6 z32 I n3 λA=> u6 z33 I n3 λB=> u6 z34 I n3 λC=> Cu I n3 λD=> bd (pu (mz [.ad,(.int .i64 0),(.int .i64 0)] [(0,1,y.ng),(1,1,g.ng.ng),(2,1,x.ng.ng)])) λE=> NQ f E D 116 M λF=> xy C λG=> UF n2 F.2 [f,w,g,A,B,G.ng] r2)
def Du:=M.fx (C9 (Dt M z q S n2 r2 n3))
def Ci:=yp z34 z33 λr=> br r.ng (Ubh z34 z32 1 λs=> u9 s I λt=> Uaj N λu=> xi u 6 λv=> u9 v I λw=> bd (pu (eB .geq .no w.ng Q.ng.ng)) λx=> br x.ng (u6 N I n2 λr=> u6 Q I n2 λr=> Cw I n2 λy=> u6 z5 I n2 λr=> Cu I n2 λb=> u6 y b q λA=> Cu b q λB=> bd (oK false A) (nK z B)) (Uaj N λC=> xi C 6 λD=> u9 D I λE=> xy E λF=> Uaj N λG=> xi G 6 λH=> Ka H F I 1 λc=> Uaj N λJ=> Rc J λK=> u9 K c.2 λL=> Cv L λd=> bd (ej false 1 8 (.int .i64 0) d.ng d.ng c.2) λa=> Uaj N λO=> Rc O λP=> u9 P a.2 λe=> Cv e λR=> u3 N a.2 λU=> u3 Q a.2 λV=> u3 z5 a.2 λX=> yF t a.2 λb=> u3 a.1 a.2 λc=> u3 z32 a.2 λf=> u3 z33 a.2 λg=> u3 z34 a.2 λh=> u3 e a.2 λi=> u3 R a.2 λj=> VD a.2 λk=> Du M z q S n2 r2 a.2.length [U,V,X,b,c,f,g,h,i,j,k] a.2)) (u6 N I n2 λl=> u6 Q I n2 λm=> vX I n2 λa=> u6 z5 I n2 λn=> Cu I n2 λo=> yh n λp=> UF q o [l,m,p.ng] S)
def zn:=M.fx (Al (Ci M z q S n2))
def Dv:=Uaj N λo=> xi o 2 λp=> u9 p I λr=> Cv r λi=> A4 z5 i λj=> br j.ng (Uaj N λk=> xi k 1 λl=> u9 l I λa=> Cv a λm=> u3 N I λb=> u3 Q I λc=> u3 z5 I λd=> u3 a I λe=> u3 m I λf=> VD I λg=> zn M z q S I.length [b,c,d,e,f,g] I) (vX I q λn=> Cu I q λh=> bd (oK false (.bool true)) (nK z h))
def yw:=M.fx (xa (Dv M z q))
def Oa:=Uaj u λf=> Rc f λx1=> u9 x1 I λg=> Cv g λe=> bd (gH false 1 8 (.int .i64 0) e.ng e.ng) λh=> bd (pu (mz [.ad,(.int .i64 0),(.int .i64 0)] [(0,1,h.ng),(1,1,(.int .i64 (-1)))])) λi=> NQ u i I 116 M λa=> u3 u a.2 λb=> u3 a1 a.2 λc=> VD a.2 λd=> yw M I.length a.2.length [b,c,d] a.2
def ZI:bW M GM [u,a1] I=Oa M u a1 I:=vi
def Bs:Ev.Fn:=⟨15,[.tmp 2],T,T,(Yq 0 [vY 2] (Yj (Yq 1 [YR 4,Y4 5 4,vJ 6] (.block 0 (.loop [0,5,6] [2] [] (Yq 2 [Ak 7 6 5] (Yj (Yz 7 .skip (.exit 0)) (Yj (.block 1 (Yq 3 [Yv 8 6,Yv 3 8] (Yq 4 [YR 9,Yv 10 3,Yk 11 (.idx 9 10),Yc 12 89 [(Ys [32,9,10,12,13]),11],YT 13 12] (Ym 13 5 [oA 2])))) (vf 6 [vV 14 6,Yv 6 14]))))))) (Yr 7 [vY 2])))⟩
def oi:=yp z6 z5 λx1=> br x1.ng (bd (pu (Wx z6.ng.ng.ng.ng N.ng.ng)) λc=> bd (M.call 89 [(.str [32,9,10,12,13]),c.ng] I) λa=> Vj a.1 λd=> br d.ng (Ke a.2 q λe=> Cu a.2 q λf=> bd (oK false e) (nK z f)) (xy z6 λg=> UF q a.2 [N,z5,g.ng] S)) (vX I q λh=> Cu I q λb=> bd (oK false (.bool false)) (nK z b))
def po:=M.fx (xa (oi M z q))
def IT:=PF u λd=> u3 u I λa=> u3 d I λb=> VD I λc=> po M I.length I.length [a,b,c] I
end
section
variable(M:ah)(z q:Nat)(Q:Rk)(n2:Nat)(r2:Rk)(n3:Nat)(r3:Rk)(n4:Nat)(r4:Rk)(n5:Nat)(N a1 a2 a3 a4 a5 a6 a7 a8 a9 a10 a11:V)(u z1 z2 z3 z4 S z6 z8 z9 z10 z14 z42 z43 z44:V)(I:hN)
def H1:Ev.Fn:=⟨25,[.tmp 2],T,T,(Yq 0 [B7 2] (Yq 1 [YR 6,Yk 7 (.ey 6),Yu 3 7] (Yj (Yq 2 [Yv 8 3,Yh 9 8,vJ 10] (.block 0 (.loop [3,8,9,10] [2,3] [] (Yq 3 [Ak 11 10 9] (Yj (Yz 11 .skip (.exit 0)) (Yj (.block 1 (Yq 4 [Yv 12 10,mT 13 8 10,vj 14 13,Yv 4 12,Yv 5 14] (vf 5 [Yv 15 3,Yv 16 4,Yv 17 5,Hy 18 17,NH 19 102 18,wX 20 19,mT 21 15 16,J4 1 21 20]))) (vf 6 [vV 22 10,Yv 10 22]))))))) (Yr 7 [Yu 23 3,YY 24 23,Yv 2 24]))))⟩
def Di:=yp z10 z9 λf=> br f.ng (Ubh z10 z8 1 λg=> u9 g I λh=> Lm h I λi=> D7 i I 102 M λb=> yG b.1 b.2 λj=> zf z10 z3 1 λk=> Ka k j b.2 1 λl=> xy z10 λc=> UF q l.2 [z3,z8,z9,c.ng] Q) (vX I q λm=> u6 z3 I q λd=> Cu I q λa=> Jo d a λe=> bd (oK false e.ng) (nK z a))
def E7:=M.fx (xS (Di M z q))
def Ki:=bd (Qw1 I N.ng.ng) λa=> wI a.1 λx1=> u3 a.1 a.2 λb=> yF a.1 a.2 λc=> u3 x1 a.2 λd=> VD a.2 λe=> E7 M I.length a.2.length [b,c,d,e] a.2
def wm:Ev.Fn:=⟨65,[.tmp 4],T,T,(Yq 0 [xR 4] (Yq 1 [Yk 12 (.da true 2 16 (.agg [Y0,Y0]) (Yi 0) (Yi 32) T),Yu 5 12] (Yq 2 [J9 6] (Yj (Yq 3 [YR 13,Yk 14 (.kN 13)] (.block 0 (.loop [0,1,5,6,14] [0,4,5,6] [] (Yq 4 [Yk 15 (.kH 14),Yx 16 15 0] (Yj (Yz 16 .skip (.exit 0)) (.block 1 (Yq 5 [Yx 17 15 1,Yx 18 15 2,Yv 7 17,Yv 8 18] (Yq 6 [Vb2 19,Yv 20 8,YX 21 19 20] (Yz 21 (Yq 7 [Yv 22 6,YT 23 22] (Yz 23 (Yq 8 [Yu 24 5,Yv 25 6,Yv 26 7,Vdj 27 25 26,Yk 28 (.aw true 2 1 (.agg [Y0,Y0]) [(0,27)] T),wY 29 2 16 24 28,Yu 5 29] (vf 9 [Yv 30 6,Yk 31 (.un .xor 30),Yv 6 31])) .skip)) (Yq 10 [Yv 32 6,NG 33 32 0] (Yz 33 (vf 11 [Yv 34 7,Yv 6 34]) .skip))))))))))) (Yj (Yq 12 [Yv 35 6,YT 36 35] (Yz 36 (vf 13 [Yu 37 5,Yv 38 6,YR 39,Y4 40 39,Vdj 41 38 40,Yk 42 (.aw true 2 1 (.agg [Y0,Y0]) [(0,41)] T),wY 43 2 16 37 42,Yu 5 43]) .skip)) (Yq 14 [Yv 44 5,Yh 45 44,Yk 46 (.da T 1 16 Yn 45 45 true),Yu 9 46] (Yj (Yq 15 [Yu 47 5,Yh 48 47,vJ 49] (.block 2 (.loop [0,9,47,48,49] [4,9] [] (Yq 16 [Ak 50 49 48] (Yj (Yz 50 .skip (.exit 2)) (Yj (.block 3 (Yq 17 [Yv 51 49,Ye 52 2 47 49,Jh 53 2 52,Yk 11 (.alloc [Y0,Y0]),Yv 10 51,J4 2 11 53] (vf 18 [Yv 54 9,Yv 55 10,YR 56,Vdr 57 11,vj 58 57,Ya 59 1 11,vj 60 59,Yk 61 (.ga 56 (some 58) (some 60)),mT 62 54 55,J4 1 62 61]))) (vf 19 [vV 63 49,Yv 49 63]))))))) (Yr 20 [Yu 64 9,Yu 4 64]))))))))⟩
def mF(M:ah)(z:Nat)(q:Nat)(Q:Rk)(u z1 S z6 z14:V)(I:hN):Ro:=UF q I [u,z1,S,z6,z14] Q
def pq(M:ah)(z:Nat)(q:Nat)(Q:Rk)(u z9 c d a:V)(I:hN):Ro:=yp a d λe=> br e.ng (Ubh a c 2 λf=> zd f I 2 λg=>
 let h:hN:=I++[.cells [(.int .i64 0),(.int .i64 0)]]
 CG g h I 2 0 λb=> NU I λi=> u9 i b.2 λj=> Vi I 1 0 λk=> u9 k b.2 λl=> bd (pu (AP u.ng.ng (some j.ng) (some l.ng))) λm=> zf a z9 1 λn=> Ka n m b.2 1 λo=> xy a λp=> UF q o.2 [u,z9,c,d,p.ng] Q) (vX I q λt=> u6 z9 I q λr=> Cu I q λs=> bd (oK false r) (nK z s))
def pr:=M.fx (D5 (pq M z q))
def QdQ:=wI S λb=> bd (ej false 1 16 (.str []) b.ng b.ng I) λa=> Cv S λc=> u3 u a.2 λd=> u3 a.1 a.2 λe=> u3 S a.2 λf=> u3 c a.2 λg=> VD a.2 λh=> pr M z a.2.length [d,e,f,g,h] a.2
def mG:=bd (gk I z14.ng) λb=> VE b.1 0 λv=> br v.ng (VE b.1 1 λe=> VE b.1 2 λh=> bd (Qfc M b.2 z1.ng.ng [h.ng.ng.ng]) λa=> br a.1.ng (Vg z6 0 λi=> br i.ng (bd (pu (mz [(.int .i64 0),(.int .i64 0)] [(0,1,z6.ng.ng),(1,1,e.ng.ng.ng)])) λj=> bd (wS true 2 1 (.agg [(.int .i64 0),(.int .i64 0)]) [(0,j.ng)]) λk=> Jl S k a.2 2 16 λl=> bd (pu (fk .xor z6.ng.ng)) λm=> mF M z q Q u z1 l m.ng z14 a.2) (mF M z q Q u z1 S z6 z14 a.2)) (Fo z6 0 λn=> br n.ng (mF M z q Q u z1 S e.ng.ng.ng z14 a.2) (mF M z q Q u z1 S z6 z14 a.2))) (u6 u b.2 q λc=> vX b.2 q λw=> u6 S b.2 q λf=> u6 z6 b.2 q λg=> Cu b.2 q λd=> Vg g 0 λo=> br o.ng (PF c λp=> bd (pu (mz [(.int .i64 0),(.int .i64 0)] [(0,1,g.ng.ng),(1,1,p.ng)])) λr=> bd (wS true 2 1 (.agg [(.int .i64 0),(.int .i64 0)]) [(0,r.ng)]) λs=> Jl f s d 2 16 λt=> QdQ M z c t d) (QdQ M z c f d))
def pw:=M.fx (D5 (mG M z q))
def QdS:=bd (gH true 2 16 (.agg [(.int .i64 0),(.int .i64 0)]) (.int .i64 0) (.int .i64 32)) λg=> bd (jY I N.ng.ng) λa=> u3 N a.2 λb=> u3 a1 a.2 λc=> u3 g a.2 λd=> v8 a.2 (-1) λe=> u3 a.1 a.2 λf=> pw M I.length a.2.length [b,c,d,e,f] a.2
def Bw:Ev.Fn:=⟨11,[.tmp 2],T,T,(Yq 0 [vY 2] (Yq 1 [YR 3,Yo 4 .lss .no 3 (.c (.int .i32 128)),Yv 5 4,xC 6 5 0,Vdy 7 5 6,⟨some 8,(some (5,true)),.call 89 [(Ys [32,9,10,13,12]),7]⟩,⟨some 9,(some (5,true)),.bin .geq .no 8 (Yi 0)⟩,Fl 10 5 9,Yv 2 10] .ret))⟩
def qj:=bd (pu (eB .lss .no N.ng.ng (.int .i32 128))) λa=> E2 a N λx1=> bd (aU a.ng true (pu (eC I (.toInt .u8) x1.ng))) λc=> bd (fO a.ng true (M.call 89 [(.str [32,9,10,13,12]),c.ng] I) I) λb=> bd (aU a.ng true (pu (eB .geq .no b.1.ng (.int .i64 0)))) λd=> xu a d λe=> bd (oK false e.ng) (nK I.length b.2)
def Ef:Ev.Fn:=⟨15,[.tmp 4,.tmp 5],T,T,(Yq 0 [B7 4,vY 5] (Yj (Yq 1 [YR 6,Vb2 7,YS 8 91 6 7,CX 9 8] (Ym 9 2 [YR 10,Yv 4 10,vY 5])) (Yr 3 [YR 11,Vb2 12,Y4 13 12,Yk 14 (.ga 11 (some 13) none),Yv 4 14,oA 5])))⟩
def Fy:=Q5 N a1 I 91 M λa=> xb a.1 λx1=> br x1.ng (nK I.length a.2 (.aR [V.aI N.ng.ng,V.aI (.bool false)])) (PF a1 λb=> bd (pu (AP N.ng.ng (some b.ng) none)) λc=> nK I.length a.2 (.aR [V.aI c.ng,V.aI (.bool true)]))
def El:Ev.Fn:=⟨18,[.tmp 4],T,T,(Yq 0 [vY 4] (Yr 1 [YR 5,Y4 6 5,Vb2 7,Y4 8 7,Mv 9 6 8,Yv 10 9,xC 11 10 0,xC 12 10 1,Vb3 13 10 12,Vd0 14 10 11 13,xC 15 10 1,Pq 16 10 14 15,Fl 17 10 16,Yv 4 17]))⟩
def Em(M:ah)(N a1:V)(I:hN):Ro:=PF N λb=> PF a1 λx1=> bd (pu (eB .geq .no b.ng x1.ng)) λa=> E2 a N λc=> E2 a a1 λd=> Zb a d λe=> bd (aU a.ng true (pu (AP c.ng none (some e.ng)))) λf=> E2 a a1 λg=> EB a f g λh=> xu a h λi=> bd (oK false i.ng) (nK I.length I)
def FA:Ev.Fn:=⟨21,[.tmp 4],T,T,(Yq 0 [vY 4] (Yr 1 [YR 5,Y4 6 5,Vb2 7,Y4 8 7,Mv 9 6 8,Yv 10 9,xC 11 10 0,xC 12 10 0,Vb3 13 10 12,xC 14 10 1,Vb3 15 10 14,Vec 16 10 13 15,Vd1 17 10 11 16,xC 18 10 1,Pq 19 10 17 18,Fl 20 10 19,Yv 4 20]))⟩
def Me(M:ah)(N a1:V)(I:hN):Ro:=PF N λe=> PF a1 λx1=> bd (pu (eB .geq .no e.ng x1.ng)) λa=> E2 a N λf=> E2 a N λg=> Zb a g λh=> E2 a a1 λi=> Zb a i λj=> bd (aU a.ng true (pu (eB .sub .no h.ng j.ng))) λk=> bd (aU a.ng true (pu (AP f.ng (some k.ng) none))) λl=> E2 a a1 λb=> EB a l b λc=> xu a c λd=> bd (oK false d.ng) (nK I.length I)
def wo:Ev.Fn:=⟨188,[.tmp 2],T,T,(Yq 0 [vY 2] (Yq 1 [YR 7,YR 8,Yh 9 8,mA 10,Yh 11 10,Yk 12 (.cut 1 7 none (some 9) (some 11)),Yv 0 12] (Yj (.block 0 (.loop [0] [2] [] (Yj (Yq 2 [YR 13,Yh 14 13,YZ 15 14 0] (Yz 15 .skip (.exit 0))) (.block 1 (Yq 3 [YR 16,Ye 17 1 16 (Yi 0),vj 18 17,Yv 3 18] (Yj (Yq 4 [Yv 19 3,Vf 20 19 128] (Yz 20 (Yq 5 [mA 21,Vcy 22 21,Yv 0 22] (Yj (Yq 6 [YR 23,Yh 24 23,YZ 25 24 8,Yv 26 25,xC 27 26 0,yi 28 26 105 27,Vdl 29 26 28 9259542123273814144,⟨some 30,(some (26,true)),.bin .eql .no 29 (.c (.int .u64 0))⟩,Fl 31 26 30] (Yz 31 (Yq 7 [mA 32,Pw 33 32 8,Yv 0 33] (Yj (.dH 8 [⟨Yv 34 0,0,[]⟩,⟨Yh 35 34,1,[]⟩,⟨Yo 36 .gtr .no 35 (Yi 16),2,[]⟩,⟨Yv 37 36,3,[]⟩,⟨⟨some 38,(some (37,true)),.mv 0 T⟩,4,[]⟩,⟨⟨some 40,(some (37,true)),.mv 0 T⟩,6,[]⟩,⟨⟨some 41,(some (37,true)),.cut 1 40 (some (Yi 8)) none none⟩,7,[]⟩,⟨⟨some 39,(some (37,true)),.call 105 [38]⟩,5,[]⟩,⟨⟨some 42,(some (37,true)),.call 105 [41]⟩,8,[]⟩,⟨⟨some 43,(some (37,true)),.bin .or .no 39 42⟩,9,[]⟩,⟨⟨some 44,(some (37,true)),.bin .and .no 43 (.c (.int .u64 9259542123273814144))⟩,10,[]⟩,⟨⟨some 45,(some (37,true)),.bin .eql .no 44 (.c (.int .u64 0))⟩,11,[]⟩,⟨Yk 46 (.pick 37 45 Yf),12,[]⟩]) (Yz 46 (Yq 9 [mA 47,Pw 48 47 16,Yv 0 48] (.block 2 (.loop [0] [0,2] [] (Yj (Yj (.dH 10 [⟨Yv 49 0,0,[]⟩,⟨Yh 50 49,1,[]⟩,⟨Yo 51 .gtr .no 50 (Yi 32),2,[]⟩,⟨Yv 52 51,3,[]⟩,⟨⟨some 53,(some (52,true)),.mv 0 T⟩,4,[]⟩,⟨⟨some 55,(some (52,true)),.mv 0 T⟩,6,[]⟩,⟨⟨some 56,(some (52,true)),.cut 1 55 (some (Yi 8)) none none⟩,7,[]⟩,⟨⟨some 59,(some (52,true)),.mv 0 T⟩,10,[]⟩,⟨⟨some 60,(some (52,true)),.cut 1 59 (some (Yi 16)) none none⟩,11,[]⟩,⟨⟨some 62,(some (52,true)),.mv 0 T⟩,13,[]⟩,⟨⟨some 63,(some (52,true)),.cut 1 62 (some (Yi 24)) none none⟩,14,[]⟩,⟨⟨some 54,(some (52,true)),.call 105 [53]⟩,5,[]⟩,⟨⟨some 57,(some (52,true)),.call 105 [56]⟩,8,[]⟩,⟨⟨some 58,(some (52,true)),.bin .or .no 54 57⟩,9,[]⟩,⟨⟨some 61,(some (52,true)),.call 105 [60]⟩,12,[]⟩,⟨⟨some 64,(some (52,true)),.call 105 [63]⟩,15,[]⟩,⟨⟨some 65,(some (52,true)),.bin .or .no 61 64⟩,16,[]⟩,⟨⟨some 66,(some (52,true)),.bin .or .no 58 65⟩,17,[]⟩,⟨⟨some 67,(some (52,true)),.bin .and .no 66 (.c (.int .u64 9259542123273814144))⟩,18,[]⟩,⟨⟨some 68,(some (52,true)),.bin .eql .no 67 (.c (.int .u64 0))⟩,19,[]⟩,⟨Yk 69 (.pick 52 68 Yf),20,[]⟩]) (Yz 69 .skip (.exit 2))) (.block 3 (vf 11 [mA 70,Pw 71 70 32,Yv 0 71])))))) .skip))) .skip)) (.exit 1))) .skip)) (Yq 12 [Yv 72 3,Yk 73 (.fQ 256 1 (.g 2) 72),vj 74 73,Yv 4 74] (Yq 13 [Yv 75 4,zZ 76 75 7,Hy 77 76,Yv 5 77] (Yq 14 [Yv 78 4,Pp 79 78 4,Yk 80 (.fQ 16 2 (.g 3) 79),Jh 81 2 80,Yk 6 (.alloc [(.int .u8 0),(.int .u8 0)]),J4 2 6 81] (Yq 15 [Yv 82 5] (.block 4 (Yq 17 [Hx 84 82 2,Yv 83 84] (Yz 83 (Yj (Yj (.dH 18 [⟨Yv 85 0,0,[]⟩,⟨Yh 86 85,1,[]⟩,⟨Yo 87 .lss .no 86 (Yi 2),2,[]⟩,⟨Yv 88 87,3,[]⟩,⟨⟨some 89,(some (88,T)),.mv 0 T⟩,4,[]⟩,⟨⟨some 90,(some (88,T)),.bT 1 89 (Yi 1)⟩,5,[]⟩,⟨⟨some 91,(some (88,T)),.load T 1 90⟩,6,[]⟩,⟨⟨some 92,(some (88,T)),.cu 0 6⟩,7,[]⟩,⟨⟨some 93,(some (88,T)),.load T 1 92⟩,8,[]⟩,⟨⟨some 94,(some (88,T)),.bin .lss .no 91 93⟩,9,[]⟩,⟨Yk 95 (.pick 88 Yt 94),10,[]⟩,⟨Yv 96 95,11,[]⟩,⟨⟨some 97,(some (96,T)),.cu 1 6⟩,12,[]⟩,⟨⟨some 98,(some (96,T)),.load T 1 97⟩,13,[]⟩,⟨⟨some 99,(some (96,T)),.mv 0 T⟩,14,[]⟩,⟨⟨some 100,(some (96,T)),.bT 1 99 (Yi 1)⟩,15,[]⟩,⟨⟨some 101,(some (96,T)),.load T 1 100⟩,16,[]⟩,⟨⟨some 102,(some (96,T)),.bin .lss .no 98 101⟩,17,[]⟩,⟨Yk 103 (.pick 96 Yt 102),18,[]⟩]) (Ym 103 19 [vY 2])) (vf 20 [mA 104,Pw 105 104 2,Yv 0 105])) (Yq 21 [Hx 107 82 3,Yv 106 107] (Yz 106 (Yj (Yj (.dH 22 [⟨Yv 108 0,0,[]⟩,⟨Yh 109 108,1,[]⟩,⟨Yo 110 .lss .no 109 (Yi 3),2,[]⟩,⟨Yv 111 110,3,[]⟩,⟨⟨some 112,(some (111,T)),.mv 0 T⟩,4,[]⟩,⟨⟨some 113,(some (111,T)),.bT 1 112 (Yi 1)⟩,5,[]⟩,⟨⟨some 114,(some (111,T)),.load T 1 113⟩,6,[]⟩,⟨⟨some 115,(some (111,T)),.cu 0 6⟩,7,[]⟩,⟨⟨some 116,(some (111,T)),.load T 1 115⟩,8,[]⟩,⟨⟨some 117,(some (111,T)),.bin .lss .no 114 116⟩,9,[]⟩,⟨Yk 118 (.pick 111 Yt 117),10,[]⟩,⟨Yv 119 118,11,[]⟩,⟨⟨some 120,(some (119,T)),.cu 1 6⟩,12,[]⟩,⟨⟨some 121,(some (119,T)),.load T 1 120⟩,13,[]⟩,⟨⟨some 122,(some (119,T)),.mv 0 T⟩,14,[]⟩,⟨⟨some 123,(some (119,T)),.bT 1 122 (Yi 1)⟩,15,[]⟩,⟨⟨some 124,(some (119,T)),.load T 1 123⟩,16,[]⟩,⟨⟨some 125,(some (119,T)),.bin .lss .no 121 124⟩,17,[]⟩,⟨Yk 126 (.pick 119 Yt 125),18,[]⟩,⟨Yv 127 126,19,[]⟩,⟨⟨some 128,(some (127,T)),.mv 0 T⟩,20,[]⟩,⟨⟨some 129,(some (127,T)),.bT 1 128 (Yi 2)⟩,21,[]⟩,⟨⟨some 130,(some (127,T)),.load T 1 129⟩,22,[]⟩,⟨⟨some 131,(some (127,T)),.bin .lss .no 130 (.c (.int .u8 128))⟩,23,[]⟩,⟨Yk 132 (.pick 127 Yt 131),24,[]⟩,⟨Yv 133 132,25,[]⟩,⟨⟨some 134,(some (133,T)),.mv 0 T⟩,26,[]⟩,⟨⟨some 135,(some (133,T)),.bT 1 134 (Yi 2)⟩,27,[]⟩,⟨⟨some 136,(some (133,T)),.load T 1 135⟩,28,[]⟩,⟨⟨some 137,(some (133,T)),.bin .lss .no (.c (.int .u8 191)) 136⟩,29,[]⟩,⟨Yk 138 (.pick 133 Yt 137),30,[]⟩]) (Ym 138 23 [vY 2])) (vf 24 [mA 139,Pw 140 139 3,Yv 0 140])) (Yq 25 [Hx 142 82 4,Yv 141 142] (Yz 141 (Yj (Yj (.dH 26 [⟨Yv 143 0,0,[]⟩,⟨Yh 144 143,1,[]⟩,⟨Yo 145 .lss .no 144 (Yi 4),2,[]⟩,⟨Yv 146 145,3,[]⟩,⟨⟨some 147,(some (146,T)),.mv 0 T⟩,4,[]⟩,⟨⟨some 148,(some (146,T)),.bT 1 147 (Yi 1)⟩,5,[]⟩,⟨⟨some 149,(some (146,T)),.load T 1 148⟩,6,[]⟩,⟨⟨some 150,(some (146,T)),.cu 0 6⟩,7,[]⟩,⟨⟨some 151,(some (146,T)),.load T 1 150⟩,8,[]⟩,⟨⟨some 152,(some (146,T)),.bin .lss .no 149 151⟩,9,[]⟩,⟨Yk 153 (.pick 146 Yt 152),10,[]⟩,⟨Yv 154 153,11,[]⟩,⟨⟨some 155,(some (154,T)),.cu 1 6⟩,12,[]⟩,⟨⟨some 156,(some (154,T)),.load T 1 155⟩,13,[]⟩,⟨⟨some 157,(some (154,T)),.mv 0 T⟩,14,[]⟩,⟨⟨some 158,(some (154,T)),.bT 1 157 (Yi 1)⟩,15,[]⟩,⟨⟨some 159,(some (154,T)),.load T 1 158⟩,16,[]⟩,⟨⟨some 160,(some (154,T)),.bin .lss .no 156 159⟩,17,[]⟩,⟨Yk 161 (.pick 154 Yt 160),18,[]⟩,⟨Yv 162 161,19,[]⟩,⟨⟨some 163,(some (162,T)),.mv 0 T⟩,20,[]⟩,⟨⟨some 164,(some (162,T)),.bT 1 163 (Yi 2)⟩,21,[]⟩,⟨⟨some 165,(some (162,T)),.load T 1 164⟩,22,[]⟩,⟨⟨some 166,(some (162,T)),.bin .lss .no 165 (.c (.int .u8 128))⟩,23,[]⟩,⟨Yk 167 (.pick 162 Yt 166),24,[]⟩,⟨Yv 168 167,25,[]⟩,⟨⟨some 169,(some (168,T)),.mv 0 T⟩,26,[]⟩,⟨⟨some 170,(some (168,T)),.bT 1 169 (Yi 2)⟩,27,[]⟩,⟨⟨some 171,(some (168,T)),.load T 1 170⟩,28,[]⟩,⟨⟨some 172,(some (168,T)),.bin .lss .no (.c (.int .u8 191)) 171⟩,29,[]⟩,⟨Yk 173 (.pick 168 Yt 172),30,[]⟩,⟨Yv 174 173,31,[]⟩,⟨⟨some 175,(some (174,T)),.mv 0 T⟩,32,[]⟩,⟨⟨some 176,(some (174,T)),.bT 1 175 (Yi 3)⟩,33,[]⟩,⟨⟨some 177,(some (174,T)),.load T 1 176⟩,34,[]⟩,⟨⟨some 178,(some (174,T)),.bin .lss .no 177 (.c (.int .u8 128))⟩,35,[]⟩,⟨Yk 179 (.pick 174 Yt 178),36,[]⟩,⟨Yv 180 179,37,[]⟩,⟨⟨some 181,(some (180,T)),.mv 0 T⟩,38,[]⟩,⟨⟨some 182,(some (180,T)),.bT 1 181 (Yi 3)⟩,39,[]⟩,⟨⟨some 183,(some (180,T)),.load T 1 182⟩,40,[]⟩,⟨⟨some 184,(some (180,T)),.bin .lss .no (.c (.int .u8 191)) 183⟩,41,[]⟩,⟨Yk 185 (.pick 180 Yt 184),42,[]⟩]) (Ym 185 27 [vY 2])) (vf 28 [mA 186,Pw 187 186 4,Yv 0 187])) (Yr 16 [vY 2])))))))))))))))))) (Yr 29 [oA 2]))))⟩
def QdV(M:ah)(z:Nat)(q:Nat)(Q:Rk)(u:V)(I:hN):Ro:=UF q I [u] Q
def QdO(M:ah)(z:Nat)(q:Nat)(Q:Rk)(z2:V)(I:hN):Ro:=u6 z2 I q λa=> Cu I q λb=> bd (oK false a) (nK z b)
def my:=QdV M z q Q u I
def oj:=wI u λf=> Q4 f 32 λa=> E2 a u λg=> E2 a u λh=> Vr a h 1 8 λi=> E2 a u λj=> Vr a j 1 16 λk=> E2 a u λl=> Vr a l 1 24 λm=> Af a g I 105 M λc=> Af a i c.2 105 M λd=> Kd a c.1 d.1 λn=> Af a k d.2 105 M λe=> Af a m e.2 105 M λb=> Kd a e.1 b.1 λo=> Kd a n o λp=> Zc a p λr=> VC a r λs=> xu a s λt=> br t.ng (E4 u 1 32 λv=> UF n2 b.2 [v.ng] r2) (u6 u b.2 n2 λw=> vX b.2 n2 λy=> Cu b.2 n2 λx=> my M z q Q w x)
def pU:=M.fx (GD (oj M z q Q n2))
def QdL:=wI u λx7=> Q4 x7 0 λx8=> br x8.ng (PB u 1 0 λx9=> u9 x9 I λw=> bd (pu (eB .lss .no w.ng.ng.ng (.int .u8 128))) λa0=> br a0.ng (E4 u 1 1 λs=> PH s λa1=> Q4 a1 8 λo=> NK o s λa2=> Af o a2 I 105 M λt=> Zc o t.1 λa3=> VC o a3 λa4=> xu o a4 λo=> br o.ng (bd (pu (yy 1 s.ng.ng (some (.int .i64 8)) none none)) λp=> PH p λo=> Q4 o 16 λd=> NK d p λo=> NK d p λa5=> Vr d a5 1 8 λa6=> Af d o t.2 105 M λx=> Af d a6 x.2 105 M λr=> Kd d x.1 r.1 λo=> Zc d o λo=> VC d o λo=> xu d o λd=> br d.ng (bd (pu (yy 1 p.ng.ng (some (.int .i64 16)) none none)) λd=> yF d r.2 λd=> pU M z q Q r.2.length [d] r.2) (my M z q Q p.ng r.2)) (my M z q Q s.ng t.2)) (bd (pu (B4 256 1 w.ng.ng.ng (M.G.g 2).ng)) λd=> u9 d I λy=> bd (pu (eB .and .no y.ng.ng.ng (.int .u8 7))) λd=> Kb d I λv=> bd (pu (eB .shr .no y.ng.ng.ng (.int .u64 4))) λd=> bd (pu (B4 16 2 d.ng (M.G.g 3).ng)) λd=> zd d I 2 λd=>
 let o:hN:=I++[.cells [(.int .u8 0),(.int .u8 0)]]
 CG d o I 2 0 λa=> Zf v 2 λd=> br d.ng.ng (wI u λd=> Zo d 2 λk=> xj k u λd=> Ubg k d 1 1 λd=> xM k d a.2 λd=> Uey k I λo=> xM k o a.2 λo=> An k d o λd=> xE k d λl=> Uez l I λd=> xM l d a.2 λd=> xj l u λk=> Ubg l k 1 1 λk=> xM l k a.2 λk=> An l d k λd=> xE l d λd=> br d.ng (QdO M z q Q (.bool false) a.2) (E4 u 1 2 λd=> QdV M z q Q d.ng a.2)) (Zf v 3 λd=> br d.ng.ng (wI u λd=> Zo d 3 λm=> xj m u λd=> Ubg m d 1 1 λd=> xM m d a.2 λd=> Uey m I λk=> xM m k a.2 λk=> An m d k λd=> xE m d λn=> Uez n I λd=> xM n d a.2 λd=> xj n u λk=> Ubg n k 1 1 λk=> xM n k a.2 λA=> An n d A λB=> xE n B λe=> xj e u λC=> Ubg e C 1 2 λD=> xM e D a.2 λE=> Vy e E λF=> xE e F λf=> xj f u λG=> Ubg f G 1 2 λH=> xM f H a.2 λJ=> Zn f J λK=> xE f K λL=> br L.ng (QdO M z q Q (.bool false) a.2) (E4 u 1 3 λN=> QdV M z q Q N.ng a.2)) (Zf v 4 λO=> br O.ng.ng (wI u λP=> Zo P 4 λb=> xj b u λR=> Ubg b R 1 1 λS=> xM b S a.2 λU=> Uey b I λV=> xM b V a.2 λX=> An b U X λd=> xE b d λc=> Uez c I λb=> xM c b a.2 λb=> xj c u λd=> Ubg c d 1 1 λd=> xM c d a.2 λd=> An c b d λb=> xE c b λg=> xj g u λb=> Ubg g b 1 2 λb=> xM g b a.2 λb=> Vy g b λb=> xE g b λh=> xj h u λb=> Ubg h b 1 2 λb=> xM h b a.2 λb=> Zn h b λb=> xE h b λi=> xj i u λb=> Ubg i b 1 3 λb=> xM i b a.2 λb=> Vy i b λb=> xE i b λj=> xj j u λb=> Ubg j b 1 3 λb=> xM j b a.2 λb=> Zn j b λb=> xE j b λb=> br b.ng (QdO M z q Q (.bool false) a.2) (E4 u 1 4 λb=> QdV M z q Q b.ng a.2)) (QdO M z q Q (.bool false) a.2))))) (vX I q λa=> Cu I q λa=> bd (oK false (.bool true)) (nK z a))
def om:=M.fx (GD (QdL M z q))
def JQ:=wI N λb=> Cv N λx1=> bd (pu (yy 1 N.ng.ng none (some b.ng) (some x1.ng))) λc=> yF c I λa=> om M I.length I.length [a] I
def HO:Ev.Fn:=⟨9,[.tmp 4],T,T,(Yq 0 [vY 4] (Yr 1 [mA 5,Vb2 6,YS 7 122 5 6,YT 8 7,Yv 4 8]))⟩
def QeD:=Q9 N a1 I 122 M λa=> Vj a.1 λx1=> bd (oK false x1.ng) (nK I.length a.2)
def wF:Ev.Fn:=⟨5,[.tmp 2],T,T,(Yq 0 [Vb 1,vY 2] (Yr 1 [Ya 3 2 1,vj 4 3,Yv 2 4]))⟩
def wG(M:ah)(N:V)(I:hN):Ro:=Am N I λa=> xi a.1 2 λx1=> u9 x1 a.2 λb=> bd (oK false b.ng) (nK I.length a.2)
def LF:Ev.Fn:=⟨8,[.tmp 2],T,T,(Yq 0 [xR 2] (Yr 1 [YR 3,Vdo 4 120 3,Vcd 5 4,NH 6 123 5,Vcy 7 6,Yv 2 7]))⟩
def LG:=bd (pu (eB .add .no (.str [120]) N.ng.ng)) λb=> bd (eC I .bz b.ng) λx1=> D7 x1 I 123 M λa=> E4 a.1 1 1 λc=> bd (oK false c.ng) (nK I.length a.2)
def HP:Ev.Fn:=⟨15,[.tmp 2],T,T,(Yq 0 [vJ 2] (Yj (Yq 1 [YR 4,NH 5 102 4,Yv 3 5] (Yq 2 [Yv 6 3,Li 7 6 97,Yv 8 7,xC 9 8 3,J3 10 8 9 122,Fl 11 8 10] (Ym 11 3 [YR 12,Yo 13 .xor .no 12 (Yi 32),Yv 2 13]))) (Yr 4 [YR 14,Yv 2 14])))⟩
def LO:=PC N I 102 M λa=> bd (pu (eB .geq .no a.1.ng.ng.ng (.int .i64 97))) λx1=> NK x1 a.1 λb=> HA x1 b 122 λc=> xu x1 c λd=> br d.ng (bd (pu (eB .xor .no N.ng.ng (.int .i64 32))) λe=> bd (oK false e.ng) (nK I.length a.2)) (bd (oK false N.ng.ng) (nK I.length a.2))
def LH:Ev.Fn:=⟨17,[.tmp 2],T,T,(Yq 0 [xR 2] (Yj (Yq 1 [Yk 5 (.kN (Ys [32,9,10,12,13]))] (.block 0 (.loop [0,5] [2] [] (Yq 2 [Yk 6 (.kH 5),Yx 7 6 0] (Yj (Yz 7 .skip (.exit 0)) (.block 1 (Yq 3 [Yx 8 6 2,Yv 4 8] (Yq 4 [YR 9,Yv 10 4,Hy 11 10,YS 12 124 9 11,CX 13 12] (Ym 13 5 [Yv 14 4,Hy 15 14,Ae 16 15,Yu 2 16]))))))))) (Yr 6 [xR 2])))⟩
def oq:=bd (gk I S.ng) λa=> VE a.1 0 λf=> br f.ng (VE a.1 2 λe=> Lm e a.2 λg=> NQ u g a.2 124 M λb=> xb b.1 λh=> br h.ng (Lm e b.2 λi=> NP i λj=> u6 j b.2 q λk=> Cu b.2 q λc=> bd (oK false k) (nK z c)) (UF q b.2 [u,S] Q)) (vX a.2 q λl=> Cu a.2 q λd=> bd (oK false .ad) (nK z d))
def pW:=M.fx (AY (oq M z q))
def Fp:=bd (jY I (.str [32,9,10,12,13])) λa=> u3 N a.2 λb=> u3 a.1 a.2 λc=> pW M I.length a.2.length [b,c] a.2
def QbB:bW M LH [N] I=Fp M N I:=vi
def Eb:Ev.Fn:=⟨25,[.tmp 2],T,T,(Yq 0 [Vb 1,vJ 2] (Yq 1 [Yk 7 (.iZ 125 [] [1]),Yv 3 7] (Yj (Yq 2 [Yk 8 (.kN (Ys [97,98,99,100,101,102,103,104,105,106,107,108,109,110,111,112,113,114,115,116,117,118,119,120,121,122,48,49,50,51,52,53,54,55,56,57]))] (.block 0 (.loop [3,8] [2,3] [] (Yq 3 [Yk 9 (.kH 8),Yx 10 9 0] (Yj (Yz 10 .skip (.exit 0)) (.block 1 (Yq 4 [Yx 11 9 2,Yv 5 11] (Yq 5 [Yv 12 3,Yv 13 5,Hy 14 13,YX 15 12 14] (Ym 15 6 [Yv 16 5,Hy 17 16,Yv 2 17]))))))))) (Yq 7 [Lh 6 256] (Yj (.block 2 (.loop [3,6] [2,6] [] (Yj (Yq 8 [Yv 18 3,Yv 19 6,YX 20 18 19,CX 21 20] (Yz 21 .skip (.exit 2))) (.block 3 (vf 9 [Yv 22 6,vV 23 22,Yv 6 23]))))) (Yr 10 [Yv 24 6,Yv 2 24]))))))⟩
def Bb:=bd (Qfc M I z3.ng.ng [z6.ng.ng]) λa=> xb a.1 λb=> br b.ng (yh z6 λc=> UF q a.2 [z3,c.ng] Q) (vX a.2 q λf=> u6 z6 a.2 q λd=> Cu a.2 q λe=> bd (oK false d.ng.ng) (nK z e))
def xU:=M.fx (AY (Bb M z q))
def xV:=bd (gk I z8.ng) λb=> VE b.1 0 λi=> br i.ng (VE b.1 2 λh=> Lm h b.2 λj=> Vt z3 j b.2 M λc=> br c.1.ng (Lm h c.2 λk=> Vp k c.2 q λl=> u6 z3 c.2 q λn=> Cu c.2 q λd=> bd (oK false l) (nK z d)) (UF q c.2 [z3,z8] Q)) (vX b.2 q λm=> u6 z3 b.2 q λe=> Cu b.2 q λa=> u3 e a λf=> v8 a 256 λg=> xU M z a.length [f,g] a)
def Bc:=M.fx (AY (xV M z q))
def LK:=Am N I λd=> bd (jY d.2 (.str [97,98,99,100,101,102,103,104,105,106,107,108,109,110,111,112,113,114,115,116,117,118,119,120,121,122,48,49,50,51,52,53,54,55,56,57])) λa=> bd (fz a.2.length a.2 fzD (.fn 125 [] [d.1.ng])) λb=> u3 a.1 a.2 λc=> Bc M I.length a.2.length [b,c] a.2
def QbC:bW M Eb [N] I=LK M N I:=vi
def HN:Ev.Fn:=⟨61,[.tmp 2],T,T,(Yq 0 [xR 2] (Yj (Yq 1 [YR 6,Yh 7 6,NG 8 7 2] (Ym 8 2 [mA 9,Yu 2 9])) (Yj (Yq 3 [Lh 3 1] (.block 0 (.loop [0,3] [0,2] [] (Yj (Yq 4 [Yv 10 3,YR 11,Yh 12 11,Ak 13 10 12] (Yz 13 .skip (.exit 0))) (Yj (.block 1 (Yj (.dH 6 [⟨Yv 16 0,0,[]⟩,⟨Yv 17 3,1,[]⟩,⟨Ye 18 1 16 17,2,[]⟩,⟨Yl 19 T 1 18,3,[]⟩,⟨Yv 20 0,4,[]⟩,⟨Yv 21 3,5,[]⟩,⟨Yo 22 .sub .no 21 (Yi 1),6,[]⟩,⟨Ye 23 1 20 22,7,[]⟩,⟨Yl 24 T 1 23,8,[]⟩,⟨Yo 25 .eql .no 19 24,9,[]⟩]) (Yz 25 (Yq 7 [YR 26,Yv 27 3,Vdc 28 26 27,Yv 4 28] (Yj (Yq 8 [Lh 5 1] (.block 2 (.loop [0,3,4,5] [0,2,3] [] (Yj (Yq 9 [Yv 29 5,Yv 30 4,Yh 31 30,Ak 32 29 31] (Yz 32 .skip (.exit 2))) (Yj (.block 3 (Yj (.dH 11 [⟨Yv 35 4,0,[]⟩,⟨Yv 36 5,1,[]⟩,⟨Ye 37 1 35 36,2,[]⟩,⟨Yl 38 T 1 37,3,[]⟩,⟨Yv 39 4,4,[]⟩,⟨Yv 40 5,5,[]⟩,⟨Yo 41 .sub .no 40 (Yi 1),6,[]⟩,⟨Ye 42 1 39 41,7,[]⟩,⟨Yl 43 T 1 42,8,[]⟩,⟨Yo 44 .neq .no 38 43,9,[]⟩]) (Yz 44 (Yq 12 [YR 45,Yv 46 3,Yv 47 4,Yv 48 5,mT 49 47 48,vj 50 49,mT 51 45 46,J4 1 51 50] (vf 13 [Yv 52 3,vV 53 52,Yv 3 53])) .skip))) (vf 10 [Yv 33 5,vV 34 33,Yv 5 34])))))) (Yq 14 [YR 54,Yv 55 3,Vdc 56 54 55,⟨none,none,.lb 1 Y0 56⟩] (Yr 15 [mA 57,Yv 58 3,Yk 59 (.cut 1 57 none (some 58) none),Yv 2 59])))) .skip))) (vf 5 [Yv 14 3,vV 15 14,Yv 3 15])))))) (Yr 16 [mA 60,Yu 2 60]))))⟩
def px(M:ah)(z:Nat)(q:Nat)(Q:Rk)(n2:Nat)(r2:Rk)(u z3 z4 S:V)(I:hN):Ro:=yh S λa=> UF n2 I [u,z3,z4,a.ng] r2
def ot:=wI z4 λd=> A4 S d λe=> br e.ng (GH S z4 1 λf=> u9 f I λg=> PK S 1 λh=> bd (pu (eI 1 h.ng z4.ng.ng)) λi=> u9 i I λj=> Kc g j λk=> br k.ng (GH S z4 1 λl=> u9 l I λm=> GH z3 u 1 λn=> Ka n m I 1 λo=> yh z3 λp=> px M z q Q n2 r2 u p.ng z4 S o.2) (px M z q Q n2 r2 u z3 z4 S I)) (u6 u I n2 λa=> vX I n2 λx=> u6 z3 I n2 λc=> Cu I n2 λr=> bd (pu (yy 1 a.ng.ng (some c.ng.ng) none none)) λs=> bd (kV 1 (.int .i64 0) r s.ng) λb=> bd (pu (yy 1 a.ng none (some c.ng.ng) none)) λt=> Vp a b.2 q λy=> Vp t b.2 q λv=> Cu b.2 q λw=> bd (oK false v) (nK z w))
def py:=M.fx (xS (ot M z q Q n2))
def Bd:=wI u λi=> A4 z3 i λj=> br j.ng (GH z3 u 1 λk=> u9 k I λl=> PK z3 1 λm=> bd (pu (eI 1 m.ng u.ng.ng)) λn=> u9 n I λo=> Ze l o λp=> br p.ng (bd (pu (yy 1 u.ng.ng (some z3.ng.ng) none none)) λa=> u3 u I λb=> u3 z3 I λc=> yF a I λd=> v8 I 1 λe=> py M z q Q I.length [b,c,d,e] I) (yh z3 λf=> UF q I [u,f.ng] Q)) (u6 u I q λg=> vX I q λr=> Cu I q λh=> bd (oK false g) (nK z h))
def Be:=M.fx (AY (Bd M z q))
def LM:=wI N λc=> Zo c 2 λx1=> br x1.ng (bd (oK false N) (nK I.length I)) (u3 N I λa=> v8 I 1 λb=> Be M I.length I.length [a,b] I)
def QbD:bW M HN [N] I=LM M N I:=vi
def HC:Ev.Fn:=⟨33,[.cell 2 true 3],T,T,(Yq 0 [Vb 1,Yk 2 (.alloc [.ad,Yb,.ad])] (Yj (.dH 1 [⟨Yl 6 true 2 1,0,[]⟩,⟨Yl 7 true 2 1,1,[]⟩,⟨Yk 3 (.alloc [.ad,Yb,.ad]),6,[]⟩,⟨Yc 8 128 [7],2,[0,2]⟩,⟨Yo 9 .add .no 8 (Yi 1),3,[]⟩,⟨Yk 10 (.da T 1 8 Y0 9 9 true),4,[]⟩,⟨Yk 11 (.build [.ad,Yb,.ad] [(0,2,6),(2,1,10)]),5,[]⟩,⟨Yw 3 3 11 T,7,[]⟩]) (Yq 2 [vJ 4] (Yj (Yq 3 [Lh 5 1] (.block 0 (.loop [1,2,3,4,5] [2,3] [] (Yj (Yq 4 [Yv 12 5,Jh 13 2 1,NH 14 128 13,Ak 15 12 14] (Yz 15 .skip (.exit 0))) (Yj (.block 1 (Yj (.dH 6 [⟨Yl 18 true 3 3,0,[]⟩,⟨Yv 19 4,1,[]⟩,⟨Ya 20 0 1,2,[]⟩,⟨Yl 21 T 1 20,3,[]⟩,⟨Yv 22 5,4,[]⟩,⟨Ye 23 1 21 22,5,[]⟩,⟨Yl 24 T 1 23,6,[]⟩,⟨Yc 25 129 [18,19,24],7,[]⟩,⟨Yv 4 25,8,[]⟩]) (vf 7 [Ya 26 2 3,vj 27 26,Yv 28 5,vV 29 28,Yv 30 4,mT 31 27 29,J4 1 31 30]))) (vf 5 [Yv 16 5,vV 17 16,Yv 5 17])))))) (Yr 8 [Jh 32 3 3,J4 3 2 32])))))⟩
def wM:=zd z1 I 2 λf=> D7 f I 128 M λa=> A4 S a.1 λg=> br g.ng (zd z3 a.2 3 λh=> Rc z1 λi=> u9 i a.2 λj=> Ls S j 1 λk=> u9 k a.2 λl=> bd (M.call 129 [h.ng,z4.ng.ng,l.ng] a.2) λb=> xi z3 2 λm=> u9 m b.2 λn=> yh S λo=> Ubh o n 1 λp=> bd (u5 b.2 1 p.ng b.1.ng.ng.ng b.1.ng.ng.ng) λr=> yh S λs=> UF q r.2 [z1,z2,z3,b.1.ng,s.ng] Q) (u6 z2 a.2 q λc=> u6 z3 a.2 q λt=> Cu a.2 q λd=> zd t d 3 λu=> Ka c u d 3 λe=> bd (il e.2 true 3 c) λv=> bd (oK false v) (nK z e.2))
def zz:=M.fx (D5 (wM M z q))
def Lx:=Am N I λb=>
 let c:hN:=b.2++[.cells [.ad,(.bool false),.ad]]
 zd b.1 c 2 λn=> zd b.1 c 2 λo=>
 let j:hN:=c++[.cells [.ad,(.bool false),.ad]]
 bd (ZU [xN true 2 b.1.ng,.made c.length] j) λp=> D7 o p 128 M λk=> bd (w_ [xN true 2 b.1.ng,.made c.length] j k.2) λq=> xy k.1 λl=> bd (ej false 1 8 (.int .i64 0) l.ng l.ng q) λm=> bd (pu (mz [.ad,(.bool false),.ad] [(0,2,n.ng),(2,1,m.1.ng)])) λd=> CG d m.2 c 3 0 λa=> u3 b.1 a.2 λe=> Lo a.2 b.2 λf=> Lo a.2 c λg=> VD a.2 λh=> v8 a.2 1 λi=> zz M I.length a.2.length [e,f,g,h,i] a.2
def Kl:Ev.Fn:=⟨96,[],T,T,(Yq 0 [Ch 3] (Yj (Yq 1 [Vdr 9 3,vj 10 9,NH 11 130 10,Yv 4 11] (Yq 2 [YR 12,yX 13 12,Ya 14 3 13,vj 15 14,Yv 16 4,Vc3 17 15 16] (Yz 17 .ret (vf 3 [YR 18,yX 19 18,Ya 20 3 19,vj 21 20,Yv 22 4,YW 21 22])))) (Yj (.dH 4 [⟨Yv 23 0,0,[]⟩,⟨Yv 24 0,1,[]⟩,⟨Yk 25 (.dh 24),2,[]⟩,⟨Ya 26 2 25,3,[]⟩,⟨Yk 27 (.loadT 26),4,[]⟩,⟨Yl 28 true 3 3,5,[]⟩,⟨Yk 29 (.aw true 3 1 (.agg [.ad,Y0,Y0]) [(0,28)] T),6,[]⟩,⟨Yk 30 (.app T true 3 40 27 29 true),7,[]⟩,⟨Yk 31 (.dh 23),8,[]⟩,⟨Ya 32 2 31,9,[]⟩,⟨Yw 1 32 30 true,10,[]⟩]) (Yq 5 [YR 33,yX 34 33,Vdr 35 34,vj 36 35,Yh 37 36,Vd7 38 37 37,Yu 5 38] (Yj (Yq 6 [YR 39,yX 40 39,Vdr 41 40,vj 42 41,Yh 43 42,vJ 44] (.block 0 (.loop [0,3,5,42,43,44] [0,5] [] (Yq 7 [Ak 45 44 43] (Yj (Yz 45 .skip (.exit 0)) (Yj (.block 1 (Yq 8 [Yv 46 44,mT 47 42 44,vj 48 47,Yv 6 46,Yv 7 48] (.dH 9 [⟨Yv 49 5,0,[]⟩,⟨Yv 50 6,1,[]⟩,⟨Yv 51 7,2,[]⟩,⟨Ya 52 0 3,3,[]⟩,⟨Yl 53 T 1 52,4,[]⟩,⟨Yv 54 6,5,[]⟩,⟨Ye 55 1 53 54,6,[]⟩,⟨Yl 56 T 1 55,7,[]⟩,⟨Yk 57 (.eQ 659130616164424093774968721475005761670262055287 51),8,[]⟩,⟨Yk 58 (.cg 659130616164424093774968721475005761670262055287 [(186,T),(188,T),(189,true),(190,T),(191,T),(192,true),(194,T),(196,true),(197,true),(198,T)] 57),9,[]⟩,⟨Yv 59 51,10,[]⟩,⟨Yk 60 (.dS 59 [(186,210,none),(188,212,none),(189,212,(some (0,2))),(190,214,none),(191,218,none),(192,212,(some (0,2))),(194,221,none),(196,221,(some (0,3))),(197,221,(some (0,3))),(198,224,none)] [56]),11,[]⟩,⟨Ye 61 1 49 50,12,[]⟩,⟨Yw 1 61 60 T,13,[]⟩]))) (vf 10 [vV 62 44,Yv 44 62]))))))) (Yq 11 [Yv 63 5,NH 64 100 63,Yv 8 64] (Yq 12 [YR 65,yX 66 65,Ya 67 4 66,vj 68 67,Yv 69 8,Vc3 70 68 69,CX 71 70] (Yz 71 (Yq 13 [YR 72,yX 73 72,Ya 74 4 73,vj 75 74,Yv 76 8,YW 75 76] (.dH 14 [⟨Yv 77 0,0,[]⟩,⟨Yv 78 0,1,[]⟩,⟨Yk 79 (.dh 78),2,[]⟩,⟨Ya 80 5 79,3,[]⟩,⟨Yk 81 (.loadT 80),4,[]⟩,⟨Yu 82 5,5,[]⟩,⟨Yv 83 0,6,[]⟩,⟨Yv 84 0,7,[]⟩,⟨Yk 85 (.dh 84),8,[]⟩,⟨Ya 86 2 85,9,[]⟩,⟨Yl 87 T 1 86,10,[]⟩,⟨Yh 88 87,11,[]⟩,⟨Yo 89 .sub .no 88 (Yi 1),12,[]⟩,⟨Yc 90 131 [83,89],13,[4]⟩,⟨Yk 91 (.build [.ad,Yn,Yb] [(0,1,82),(1,1,90)]),14,[]⟩,⟨Yk 92 (.aw true 3 1 (.agg [.ad,Yn,Yb]) [(0,91)] T),15,[]⟩,⟨Yk 93 (.app T true 3 48 81 92 true),16,[]⟩,⟨Yk 94 (.dh 77),17,[]⟩,⟨Ya 95 5 94,18,[]⟩,⟨Yw 1 95 93 true,19,[]⟩])) .skip))))))))⟩
def AB:=yp z44 z43 λk=> br k.ng (Ubh z44 z42 1 λl=> u9 l I λf=> Rc z3 λm=> u9 m I λn=> bd (pu (eI 1 z44.ng.ng.ng.ng n.ng)) λo=> u9 o I λp=> bd (pu (ny 659130616164424093774968721475005761670262055287 f.ng.ng.ng)) λr=> bd (pu (O4 659130616164424093774968721475005761670262055287 [(186,false),(188,false),(189,true),(190,false),(191,false),(192,true),(194,false),(196,true),(197,true),(198,false)] r.ng)) λk=> bd (KH M I f.ng.ng.ng.ng [(186,210,none),(188,212,none),(189,212,(some (0,2))),(190,214,none),(191,218,none),(192,212,(some (0,2))),(194,221,none),(196,221,(some (0,3))),(197,221,(some (0,3))),(198,224,none)] [p.ng]) λg=> zf z44 S 1 λs=> Ka s g.1 g.2 1 λt=> xy z44 λv=> UF q t.2 [u,z3,S,z42,z43,v.ng] Q) (u6 u I q λb=> u6 S I q λh=> Cu I q λw=> PC h w 100 M λa=> Uaj b λx=> xi x 4 λy=> u9 y a.2 λA=> Zd A a.1 a.2 λB=> xb B λC=> br C.ng (Uaj b λD=> xi D 4 λE=> u9 E a.2 λF=> VF F a.1 a.2 λd=> Uaj b λG=> xi G 5 λe=> Vx e d.2 λc=> Uaj b λH=> xi H 2 λJ=> u9 J c.2 λK=> Cv K λL=> Q_ L 1 λN=> bd (ZU [VH d.2 e.ng] c.2) λO=> NQ b N O 131 M λi=> bd (w_ [VH d.2 e.ng] c.2 i.2) λj=> bd (pu (mz [.ad,(.str []),(.bool false)] [(0,1,h.ng),(1,1,i.1.ng)])) λP=> bd (wS true 3 1 (.agg [.ad,(.str []),(.bool false)]) [(0,P.ng)]) λR=> Jl c.1 R j 3 48 λU=> Uaj b λV=> xi V 5 λX=> PI X U j λb=> nK z b.2 (.aR [])) (nK z a.2 (.aR [])))
def DA:=M.fx (Al (AB M z q))
def Km:=Am a1 I λd=> Rc d.1 λx1=> u9 x1 d.2 λC=> D7 C d.2 130 M λc=> Uaj N λD=> xi D 3 λE=> u9 E c.2 λF=> Zd F c.1 c.2 λG=> br G.ng (nK I.length c.2 (.aR [])) (Uaj N λH=> xi H 3 λJ=> u9 J c.2 λh=> VF h c.1 c.2 λi=> Uaj N λj=> xi j 2 λk=> Vx k i.2 λb=> zd d.1 b.2 3 λl=> bd (wS true 3 1 (.agg [.ad,(.int .i64 0),(.int .i64 0)]) [(0,l.ng)]) λm=> Jl b.1 m b.2 3 40 λn=> Uaj N λo=> xi o 2 λp=> PI p n b.2 λe=> Uaj N λq=> Rc q λr=> u9 r e.2 λs=> Cv s λf=> bd (ej false 1 1 (.bool false) f.ng f.ng e.2) λa=> Uaj N λt=> Rc t λu=> u9 u a.2 λg=> Cv g λv=> u3 N a.2 λw=> u3 d.1 a.2 λx=> u3 a.1 a.2 λy=> u3 g a.2 λz=> u3 v a.2 λA=> VD a.2 λB=> DA M I.length a.2.length [w,x,y,z,A,B] a.2)
def ZL:bW M Kl [N,a1] I=Km M N a1 I:=vi
def R4:Ev.Fn:=⟨8,[.tmp 6],T,T,(Yq 0 [Vb 3,vJ 6] (Yr 1 [Vb2 7,Yv 6 7]))⟩
def R5(M:ah)(N a1 a2:V)(I:hN):Ro:=Am N I λa=> bd (oK false a1.ng.ng) (nK I.length a.2)
def N':Ev.Fn:=⟨18,[.tmp 6],T,T,(Yq 0 [Vb 3,vJ 6] (Yj (Yq 1 [Vb2 7,Yo 8 .neq .no 7 (Yi (-1)),Yv 9 8,J2 10 9 0 3,Y3 11 9 2 10,xC 12 9 1,xC 13 9 2,Vc0 14 9 146 11 12 13,Fl 15 9 14] (Ym 15 2 [Vb2 16,vV 17 16,Yv 6 17])) (Yr 3 [J9 6])))⟩
def RC:=Am N I λa=> bd (pu (eB .neq .no a1.ng.ng (.int .i64 (-1)))) λx1=> E3 x1 a.1 0 λc=> bd (aU x1.ng true (pu (eL a.2 true 2 c.ng))) λd=> E2 x1 a1 λe=> E2 x1 a2 λf=> bd (fO x1.ng true (M.call 146 [d.ng,e.ng,f.ng] a.2) a.2) λb=> xu x1 b.1 λg=> br g.ng (yh a1 λh=> bd (oK false h.ng) (nK I.length b.2)) (bd (oK false (.int .i64 (-1))) (nK I.length b.2))
def NZ:Ev.Fn:=⟨33,[.tmp 6],T,T,(Yq 0 [Vb 3,vJ 6] (Yj (.block 0 (Yq 1 [Vb2 8,Vdr 9 3,Vdr 10 9,Jh 11 2 10,NH 12 128 11,Vdg 13 8 12,Yv 7 13] (Yz 7 (Yr 2 [Vb2 14,Yv 6 14]) (Yq 3 [Yv 16 2,NH 17 216 16,CX 18 17,Yv 15 18] (Yz 15 (Yr 4 [Vdr 19 3,Jh 20 2 19,Vb2 21,Yv 22 2,BL 23 213 20 21 22,Yv 6 23]) (Yq 5 [Vb2 25,Vdr 26 3,Vdr 27 26,Jh 28 2 27,NH 29 128 28,NF 30 25 29,Yv 24 30] (Ym 24 6 [Vb2 31,vV 32 31,Yv 6 32]))))))) (Yr 7 [vJ 6])))⟩
def Rp:=Am N I λb=> Rc b.1 λx1=> Rc x1 λk=> zd k b.2 2 λl=> D7 l b.2 128 M λe=> Vl a1 e.1 λm=> br m.ng.ng (bd (oK false a1.ng.ng) (nK I.length e.2)) (PC a2 e.2 216 M λc=> xb c.1 λn=> br n.ng.ng (Rc b.1 λo=> zd o c.2 2 λp=> Zk p a1 a2 c.2 213 M λd=> bd (oK false d.1.ng) (nK I.length d.2)) (Rc b.1 λf=> Rc f λg=> zd g c.2 2 λh=> D7 h c.2 128 M λa=> GJ a1 a.1 λi=> br i.ng.ng (yh a1 λj=> bd (oK false j.ng) (nK I.length a.2)) (bd (oK false (.int .i64 0)) (nK I.length a.2))))
end
section
variable(M:ah)(N z:Nat)(r1:Rk)(n2:Nat)(r2:Rk)(n3:Nat)(r3:Rk)(n4:Nat)(r4:Rk)(n5:Nat)(q u a2 a3 a4 a5 a6 a7 a8 a9 a10 a11:V)(Q z1 z2 S z4 z5 z6 z7 z8:V)(I:hN)
def RP:Ev.Fn:=⟨34,[.tmp 6],T,T,(Yq 0 [Vb 3,vJ 6] (Yj (.block 0 (Yj (Yq 1 [Vb2 8,Vdr 9 3,Vdr 10 9,Jh 11 2 10,NH 12 128 11,Vdg 13 8 12,Yv 7 13] (Yz 7 .skip (vf 2 [Vb2 14,Vdr 15 3,Vdr 16 15,Jh 17 2 16,NH 18 128 17,NF 19 14 18,Yv 20 19,xC 21 20 2,Vd 22 20 21 45,Fl 23 20 22,Yv 7 23]))) (Ym 7 3 [Vdr 24 3,Vdr 25 24,Jh 26 2 25,NH 27 128 26,vV 28 27,Yv 6 28]))) (Yr 4 [Vdr 29 3,Jh 30 2 29,Vb2 31,Yv 32 2,BL 33 213 30 31 32,Yv 6 33])))⟩
def ox:=br z7.ng (Rc S λx1=> Rc x1 λc=> zd c I 2 λd=> D7 d I 128 M λa=> xy a.1 λe=> bd (oK false e.ng) (nK N a.2)) (Rc S λf=> zd f I 2 λg=> Zk g z1 z2 I 213 M λb=> bd (oK false b.1.ng) (nK N b.2))
def Kn:=Am q I λc=> Rc c.1 λn=> Rc n λf=> zd f c.2 2 λg=> D7 g c.2 128 M λa=> Vl u a.1 λd=> br d.ng.ng (ox M I.length u a2 c.1 d.ng a.2) (Rc c.1 λh=> Rc h λi=> zd i a.2 2 λj=> D7 j a.2 128 M λe=> GJ u e.1 λb=> E2 b a2 λk=> Q8 b k 45 λl=> xu b l λm=> ox M I.length u a2 c.1 m.ng e.2)
def Ih:Ev.Fn:=⟨19,[.tmp 6],T,T,(Yq 0 [Vb 3,vJ 6] (Yj (Yq 1 [Vb2 7,Vdr 8 3,Vdr 9 8,Jh 10 2 9,NH 11 128 10,NF 12 7 11] (Ym 12 2 [Vb2 13,Yv 6 13])) (Yr 3 [Vdr 14 3,Jh 15 2 14,Vb2 16,Yv 17 2,BL 18 213 15 16 17,Yv 6 18])))⟩
def Kq:=Am q I λa=> Rc a.1 λx1=> Rc x1 λd=> zd d a.2 2 λe=> D7 e a.2 128 M λb=> GJ u b.1 λf=> br f.ng (bd (oK false u.ng.ng) (nK I.length b.2)) (Rc a.1 λg=> zd g b.2 2 λh=> Zk h u a2 b.2 213 M λc=> bd (oK false c.1.ng) (nK I.length c.2))
def D_:Ev.Fn:=⟨11,[.tmp 6],T,T,(Yq 0 [Vb 3,vJ 6] (Yr 1 [Jh 7 3 3,Vb2 8,Yv 9 2,BL 10 129 7 8 9,Yv 6 10]))⟩
def QaV:=Am q I λa=> zd a.1 a.2 3 λx1=> Zk x1 u a2 a.2 129 M λb=> bd (oK false b.1.ng) (nK I.length b.2)
def Ik:Ev.Fn:=⟨19,[.tmp 6],T,T,(Yq 0 [Vb 3,vJ 6] (Yj (Yq 1 [Vb2 7,Vdr 8 3,Vdr 9 8,Jh 10 2 9,NH 11 128 10,NF 12 7 11] (Ym 12 2 [Vb2 13,Yv 6 13])) (Yr 3 [Vdr 14 3,Jh 15 3 14,Vb2 16,Yv 17 2,BL 18 222 15 16 17,Yv 6 18])))⟩
def Ku:=Am q I λa=> Rc a.1 λx1=> Rc x1 λd=> zd d a.2 2 λe=> D7 e a.2 128 M λb=> GJ u b.1 λf=> br f.ng (bd (oK false u.ng.ng) (nK I.length b.2)) (Rc a.1 λg=> zd g b.2 3 λh=> Zk h u a2 b.2 222 M λc=> bd (oK false c.1.ng) (nK I.length c.2))
def RT:Ev.Fn:=⟨8,[.tmp 6],T,T,(Yq 0 [Vb 3,vJ 6] (Yr 1 [Vb2 7,Yv 6 7]))⟩
def RU(M:ah)(q u a2:V)(I:hN):Ro:=Am q I λa=> bd (oK false u.ng.ng) (nK I.length a.2)
def QdT:Ev.Fn:=⟨8,[.tmp 4],T,T,(Yq 0 [vJ 4] (Yr 1 [YR 5,Vb2 6,YS 7 103 5 6,Yv 4 7]))⟩
def Kx:=Q5 q u I 103 M λa=> bd (oK false a.1.ng) (nK I.length a.2)
def L_:Ev.Fn:=⟨13,[.tmp 2],T,T,(Yq 0 [vJ 2] (Yj (Yq 1 [YR 3,Li 4 3 65,Yv 5 4,xC 6 5 0,J3 7 5 6 90,Fl 8 5 7] (Ym 8 2 [YR 9,wO 10 9 97,DD 11 10 65,Yv 2 11])) (Yr 3 [YR 12,Yv 2 12])))⟩
def L'(M:ah)(q:V)(I:hN):Ro:=Vg q 65 λa=> E2 a q λx1=> HA a x1 90 λb=> xu a b λc=> br c.ng (bd (pu (eB .add .no q.ng.ng (.int .i64 97))) λd=> Q_ d 65 λe=> bd (oK false e.ng) (nK I.length I)) (bd (oK false q.ng.ng) (nK I.length I))
def Ky:Ev.Fn:=⟨71,[.tmp 2],T,T,(Yq 0 [Yv 2 (.c (.int .u64 0))] (Yj (Yz Yf (Yj (.dH 1 [⟨Yv 3 0,0,[]⟩,⟨Ye 4 1 3 (Yi 0),1,[]⟩,⟨Yl 5 T 1 4,2,[]⟩,⟨Yk 6 (.conv (.toInt .u64) 5),3,[]⟩,⟨Yv 7 0,4,[]⟩,⟨Ye 8 1 7 (Yi 1),5,[]⟩,⟨Yl 9 T 1 8,6,[]⟩,⟨Yk 10 (.conv (.toInt .u64) 9),7,[]⟩,⟨Yo 11 .shl .no 10 (.c (.int .u64 8)),8,[]⟩,⟨Yo 12 .or .no 6 11,9,[]⟩,⟨Yv 13 0,10,[]⟩,⟨Ye 14 1 13 (Yi 2),11,[]⟩,⟨Yl 15 T 1 14,12,[]⟩,⟨Yk 16 (.conv (.toInt .u64) 15),13,[]⟩,⟨Yo 17 .shl .no 16 (.c (.int .u64 16)),14,[]⟩,⟨Yo 18 .or .no 12 17,15,[]⟩,⟨Yv 19 0,16,[]⟩,⟨Ye 20 1 19 (Yi 3),17,[]⟩,⟨Yl 21 T 1 20,18,[]⟩,⟨Yk 22 (.conv (.toInt .u64) 21),19,[]⟩,⟨Yo 23 .shl .no 22 (.c (.int .u64 24)),20,[]⟩,⟨Yo 24 .or .no 18 23,21,[]⟩,⟨Yv 2 24,22,[]⟩]) .ret) .skip) (Yj (.dH 2 [⟨Yv 25 0,0,[]⟩,⟨Ye 26 1 25 (Yi 0),1,[]⟩,⟨Yl 27 T 1 26,2,[]⟩,⟨Yk 28 (.conv (.toInt .u64) 27),3,[]⟩,⟨Yv 29 0,4,[]⟩,⟨Ye 30 1 29 (Yi 1),5,[]⟩,⟨Yl 31 T 1 30,6,[]⟩,⟨Yk 32 (.conv (.toInt .u64) 31),7,[]⟩,⟨Yo 33 .shl .no 32 (.c (.int .u64 8)),8,[]⟩,⟨Yo 34 .or .no 28 33,9,[]⟩,⟨Yv 35 0,10,[]⟩,⟨Ye 36 1 35 (Yi 2),11,[]⟩,⟨Yl 37 T 1 36,12,[]⟩,⟨Yk 38 (.conv (.toInt .u64) 37),13,[]⟩,⟨Yo 39 .shl .no 38 (.c (.int .u64 16)),14,[]⟩,⟨Yo 40 .or .no 34 39,15,[]⟩,⟨Yv 41 0,16,[]⟩,⟨Ye 42 1 41 (Yi 3),17,[]⟩,⟨Yl 43 T 1 42,18,[]⟩,⟨Yk 44 (.conv (.toInt .u64) 43),19,[]⟩,⟨Yo 45 .shl .no 44 (.c (.int .u64 24)),20,[]⟩,⟨Yo 46 .or .no 40 45,21,[]⟩,⟨Yv 47 0,22,[]⟩,⟨Ye 48 1 47 (Yi 4),23,[]⟩,⟨Yl 49 T 1 48,24,[]⟩,⟨Yk 50 (.conv (.toInt .u64) 49),25,[]⟩,⟨Yo 51 .shl .no 50 (.c (.int .u64 32)),26,[]⟩,⟨Yo 52 .or .no 46 51,27,[]⟩,⟨Yv 53 0,28,[]⟩,⟨Ye 54 1 53 (Yi 5),29,[]⟩,⟨Yl 55 T 1 54,30,[]⟩,⟨Yk 56 (.conv (.toInt .u64) 55),31,[]⟩,⟨Yo 57 .shl .no 56 (.c (.int .u64 40)),32,[]⟩,⟨Yo 58 .or .no 52 57,33,[]⟩,⟨Yv 59 0,34,[]⟩,⟨Ye 60 1 59 (Yi 6),35,[]⟩,⟨Yl 61 T 1 60,36,[]⟩,⟨Yk 62 (.conv (.toInt .u64) 61),37,[]⟩,⟨Yo 63 .shl .no 62 (.c (.int .u64 48)),38,[]⟩,⟨Yo 64 .or .no 58 63,39,[]⟩,⟨Yv 65 0,40,[]⟩,⟨Ye 66 1 65 (Yi 7),41,[]⟩,⟨Yl 67 T 1 66,42,[]⟩,⟨Yk 68 (.conv (.toInt .u64) 67),43,[]⟩,⟨Yo 69 .shl .no 68 (.c (.int .u64 56)),44,[]⟩,⟨Yo 70 .or .no 64 69,45,[]⟩,⟨Yv 2 70,46,[]⟩]) .ret)))⟩
def Kz(M:ah)(q:V)(I:hN):Ro:=br (.bool false) (PB q 1 0 λx0=> u9 x0 I λx1=> ze x1 I λx2=> PB q 1 1 λx3=> u9 x3 I λx4=> ze x4 I λx5=> D8 x5 8 λx6=> Ji x2 x6 λx7=> PB q 1 2 λx8=> u9 x8 I λx9=> ze x9 I λa=> D8 a 16 λb=> Ji x7 b λc=> PB q 1 3 λd=> u9 d I λe=> ze e I λf=> D8 f 24 λg=> Ji c g λh=> bd (oK false h.ng) (nK I.length I)) (PB q 1 0 λi=> u9 i I λj=> ze j I λk=> PB q 1 1 λl=> u9 l I λm=> ze m I λn=> D8 n 8 λo=> Ji k o λp=> PB q 1 2 λr=> u9 r I λs=> ze s I λt=> D8 t 16 λu=> Ji p u λv=> PB q 1 3 λw=> u9 w I λx=> ze x I λy=> D8 y 24 λz=> Ji v z λA=> PB q 1 4 λB=> u9 B I λC=> ze C I λD=> D8 D 32 λE=> Ji A E λF=> PB q 1 5 λG=> u9 G I λH=> ze H I λJ=> D8 J 40 λK=> Ji F K λL=> PB q 1 6 λN=> u9 N I λO=> ze O I λP=> D8 P 48 λQ=> Ji L Q λR=> PB q 1 7 λS=> u9 S I λU=> ze U I λX=> D8 X 56 λa=> Ji R a λa=> bd (oK false a.ng) (nK I.length I))
def H6:Ev.Fn:=⟨19,[.tmp 4],T,T,(Yq 0 [vJ 4] (Yj (Yq 1 [YR 6,Yh 7 6,vJ 8] (.block 0 (.loop [0,1,7,8] [4] [] (Yq 2 [Ak 9 8 7] (Yj (Yz 9 .skip (.exit 0)) (Yj (.block 1 (Yq 3 [Yv 10 8,Yv 5 10] (Yq 4 [Vb2 11,YR 12,Yv 13 5,Ye 14 3 12 13,Jh 15 3 14,YX 16 11 15] (Ym 16 5 [Yv 17 5,Yv 4 17])))) (vf 6 [vV 18 8,Yv 8 18]))))))) (Yr 7 [J9 4])))⟩
def Bt:=yp z8 z7 λx1=> br x1.ng (zf z8 Q 3 λc=> zd c I 3 λd=> Vt z1 d I M λa=> br a.1.ng (NR z8 a.2 z λe=> Cu a.2 z λf=> bd (oK false e) (nK N f)) (xy z8 λg=> UF z a.2 [Q,z1,z7,g.ng] r1)) (vX I z λh=> Cu I z λb=> bd (oK false (.int .i64 (-1))) (nK N b))
def Bu:=M.fx (xS (Bt M N z))
def L1:=wI q λe=> u3 q I λa=> u3 u I λb=> u3 e I λc=> VD I λd=> Bu M I.length I.length [a,b,c,d] I
def Fw:Ev.Fn:=⟨36,[.tmp 2],T,T,(Yq 0 [xR 2] (Yq 1 [YR 6,Yh 7 6,Yk 8 (.da T 1 8 Y0 (Yi 0) 7 T),Yu 3 8] (Yj (.block 0 (.loop [0,3] [2,3] [] (Yj (Yq 2 [YR 9,Yh 10 9,YZ 11 10 0] (Yz 11 .skip (.exit 0))) (.block 1 (Yq 3 [YR 13,NH 14 133 13,Yv 12 14,Yx 15 12 0,Yx 16 12 1,Yv 4 15,Yv 5 16] (Yq 4 [Yu 17 3,Yv 18 4,Ae 19 18,Q0 20 8 17 19,Yu 3 20] (vf 5 [mA 21,Yv 22 5,Vdc 23 21 22,Yv 0 23]))))))) (Yj (Yq 6 [Yv 24 3,Yh 25 24,YZ 26 25 0,Yv 27 26,xC 28 27 3,⟨some 29,(some (27,true)),.bT 1 28 (Yi 0)⟩,GB 30 27 29,Vd 31 27 30 65279,Fl 32 27 31] (Ym 32 7 [Yu 33 3,Vcy 34 33,Yv 2 34])) (Yr 8 [Yu 35 3,Yu 2 35])))))⟩
def ov:=wI Q λl=> Q4 l 0 λm=> br m.ng (PC Q I 133 M λd=> Uba d.1 0 λn=> Uba d.1 1 λo=> Y' n λp=> Lk S p d.2 1 8 λq=> bd (pu (yy 1 Q.ng (some o.ng.ng.ng) none none)) λr=> UF z d.2 [r.ng,q] r1) (vX I z λs=> u6 S I z λb=> Cu I z λc=> wI b λe=> Q4 e 0 λa=> E2 a b λf=> bd (aU a.ng true (pu (eI 1 (.int .i64 0) f.ng))) λg=> NL a g c λh=> Q8 a h 65279 λi=> xu a i λj=> br j.ng (E4 b 1 1 λk=> bd (oK false k.ng) (nK N c)) (bd (oK false b) (nK N c)))
def pz:=M.fx (AY (ov M N z))
def Ce:=wI q λc=> bd (gH false 1 8 (.int .i64 0) (.int .i64 0) c.ng) λx1=> u3 q I λa=> u3 x1 I λb=> pz M I.length I.length [a,b] I
def L6:Ev.Fn:=⟨9,[.tmp 4],T,T,(Yq 0 [vY 4] (Yr 1 [mA 5,Vb2 6,YS 7 134 5 6,YT 8 7,Yv 4 8]))⟩
def Eg:=Q9 q u I 134 M λa=> Vj a.1 λx1=> bd (oK false x1.ng) (nK I.length a.2)
def QbE:bW M L6 [q,u] I=Eg M q u I:=vi
def wN:Ev.Fn:=⟨15,[.tmp 3],T,T,(Yq 0 [vY 3] (Yj (.dH 1 [⟨Yl 4 T 1 1,0,[]⟩,⟨Yv 5 0,1,[]⟩,⟨Yc 6 124 [4,5],2,[]⟩,⟨Yk 7 (.un .not 6),3,[]⟩,⟨Yv 8 7,4,[]⟩,⟨⟨some 9,(some (8,true)),.load T 1 1⟩,5,[]⟩,⟨⟨some 10,(some (8,true)),.mv 0 T⟩,6,[]⟩,⟨⟨some 11,(some (8,true)),.call 110 [10]⟩,7,[5]⟩,⟨⟨some 12,(some (8,true)),.call 124 [9,11]⟩,8,[]⟩,⟨⟨some 13,(some (8,true)),.un .not 12⟩,9,[]⟩,⟨Yk 14 (.pick 8 13 Yf),10,[]⟩,⟨Yv 3 14,11,[]⟩]) .ret))⟩
def pA:=u9 u I λg=> Q9 g q I 124 M λb=> xb b.1 λa=> NL a u b.2 λh=> E2 a q λi=> bd (ZU [lf a.ng true (xN false 1 u.ng)] b.2) λj=> Af a i j 110 M λd=> bd (w_ [lf a.ng true (xN false 1 u.ng)] b.2 d.2) λe=> bd (fO a.ng true (M.call 124 [h.ng,d.1.ng] e) e) λf=> Ll a f.1 λk=> xu a k λc=> bd (oK false c.ng) (nK I.length f.2)
def Ck:bW M wN [q,u] I=pA M q u I:=vi
def Rj:Ev.Fn:=⟨6,[.tmp 2],T,T,(Yq 0 [Vb 1,vJ 2] (Yr 1 [Ya 3 0 1,vj 4 3,Yh 5 4,Yv 2 5]))⟩
def Rl(M:ah)(q:V)(I:hN):Ro:=Am q I λa=> Rc a.1 λx1=> u9 x1 a.2 λb=> Cv b λc=> bd (oK false c.ng) (nK I.length a.2)
def QeA:Ev.Fn:=⟨30,[.tmp 6],T,T,(Yq 0 [Vb 3,vJ 6] (Yj (.block 0 (.loop [1,2,3] [1,2,3,6] [] (Yj (Yq 1 [Vb2 7,YZ 8 7 0,Yv 9 8,J2 10 9 0 3,Y3 11 9 2 10,xC 12 9 1,xC 13 9 2,Vc0 14 9 146 11 12 13,J6 15 9 14,Fl 16 9 15] (Yz 16 .skip (.exit 0))) (.block 1 (vf 2 [Ya 17 2 3,vj 18 17,Vb2 19,mT 20 18 19,vj 21 20,Yv 1 21]))))) (Yj (Yq 3 [Vdr 22 3,Jh 23 2 22,Vb2 24,Yv 25 2,BL 26 146 23 24 25] (Yz 26 (vf 4 [Vb2 27,vV 28 27,Yv 1 28]) .skip)) (Yr 5 [Vb2 29,Yv 6 29]))))⟩
def oy(M:ah)(N:Nat)(z1:V)(I:hN):Ro:=bd (oK false z1.ng.ng) (nK N I)
def oz:=bd (pu (eB .gtr .no z1.ng.ng (.int .i64 0))) λx1=> E3 x1 S 0 λm=> bd (aU x1.ng true (pu (eL I true 2 m.ng))) λn=> E2 x1 z1 λo=> E2 x1 z2 λp=> bd (fO x1.ng true (M.call 146 [n.ng,o.ng,p.ng] I) I) λa=> Ll x1 a.1 λq=> xu x1 q λr=> br r.ng (xi S 2 λs=> u9 s a.2 λe=> Ls z1 e 1 λf=> u9 f a.2 λg=> UF z a.2 [g.ng,z2,S] r1) (u6 z1 a.2 z λb=> u6 z2 a.2 z λh=> u6 S a.2 z λi=> vX a.2 z λt=> Cu a.2 z λd=> Rc i λj=> zd j d 2 λk=> Zk k b h d 146 M λc=> br c.1.ng (yh b λl=> oy M N l.ng c.2) (oy M N b c.2))
def qk:=M.fx (xa (oz M N z))
def B_:=Am q I λa=> u3 u a.2 λb=> u3 a2 a.2 λc=> u3 a.1 a.2 λd=> qk M I.length a.2.length [b,c,d] a.2
def QbF:bW M QeA [q,u,a2] I=B_ M q u a2 I:=vi
def HG:Ev.Fn:=⟨20,[.tmp 2],T,T,(Yq 0 [B7 2] (Yq 1 [xR 3] (Yj (Yq 2 [mA 6,Yh 7 6,vJ 8] (.block 0 (.loop [3,6,7,8] [2,3] [] (Yq 3 [Ak 9 8 7] (Yj (Yz 9 .skip (.exit 0)) (Yj (.block 1 (Yq 4 [mT 10 6 8,vj 11 10,Yv 5 11] (vf 5 [Yu 12 3,Yv 13 5,Yk 14 (.cw 147 [12,13,(Yi 10)] 0),Vck 15 44,Pr 16 14 15,Yu 3 16]))) (vf 6 [vV 17 8,Yv 8 17]))))))) (Yr 7 [Yu 18 3,YY 19 18,Yv 2 19]))))⟩
def A8:=yp z8 z7 λx1=> br x1.ng (Ubh z8 z6 1 λe=> u9 e I λf=> bd (M.call 147 [S,f.ng.ng.ng,(.int .i64 10)] I) λb=> bd (wS false 1 1 (.int .u8 0) [(0,(.int .u8 44))]) λg=> PE b.1 g b.2 λh=> xy z8 λi=> UF z b.2 [h,z6,z7,i.ng] r1) (vX I z λj=> u6 S I z λc=> Cu I z λa=> Jo c a λd=> bd (oK false d.ng) (nK N a))
def A9:=M.fx (xS (A8 M N z))
def LB:=Cv q λe=> G5 I λa=> u3 q I λb=> u3 e I λc=> VD I λd=> A9 M I.length I.length [a,b,c,d] I
def KC:bW M HG [q] I=LB M q I:=vi
def Od:Ev.Fn:=⟨5,[.tmp 4],T,T,(Yq 0 [Vb 2,vY 4] (Yr 1 [vY 4]))⟩
def Ks(M:ah)(q u:V)(I:hN):Ro:=Am q I λa=> bd (oK false (.bool false)) (nK I.length a.2)
def Ob:Ev.Fn:=⟨10,[.tmp 4],T,T,(Yq 0 [Vb 2,vY 4] (Yr 1 [Vb2 5,Vdr 6 2,Jh 7 2 6,NH 8 128 7,NF 9 5 8,Yv 4 9]))⟩
def RQ:=Am q I λa=> Rc a.1 λx1=> zd x1 a.2 2 λc=> D7 c a.2 128 M λb=> GJ u b.1 λd=> bd (oK false d.ng) (nK I.length b.2)
def Rt:Ev.Fn:=⟨11,[.tmp 4],T,T,(Yq 0 [Vb 2,vY 4] (Yr 1 [Vb2 5,Vdr 6 2,Vdr 7 6,Jh 8 2 7,NH 9 128 8,Mv 10 5 9,Yv 4 10]))⟩
def Ed:=Am q I λa=> Rc a.1 λx1=> Rc x1 λc=> zd c a.2 2 λd=> D7 d a.2 128 M λb=> Rb u b.1 λe=> bd (oK false e.ng) (nK I.length b.2)
def Rm:Ev.Fn:=⟨11,[.tmp 4],T,T,(Yq 0 [Vb 2,vY 4] (Yr 1 [Vb2 5,Vdr 6 2,Vdr 7 6,Jh 8 2 7,NH 9 128 8,Mv 10 5 9,Yv 4 10]))⟩
def Rn:=Am q I λa=> Rc a.1 λx1=> Rc x1 λc=> zd c a.2 2 λd=> D7 d a.2 128 M λb=> Rb u b.1 λe=> bd (oK false e.ng) (nK I.length b.2)
def QbG:Ev.Fn:=⟨10,[.tmp 4],T,T,(Yq 0 [Vb 2,vY 4] (Yr 1 [Vb2 5,Vdr 6 2,Jh 7 2 6,NH 8 128 7,NF 9 5 8,Yv 4 9]))⟩
def QbH:=Am q I λa=> Rc a.1 λx1=> zd x1 a.2 2 λc=> D7 c a.2 128 M λb=> GJ u b.1 λd=> bd (oK false d.ng) (nK I.length b.2)
def RW:Ev.Fn:=⟨5,[.tmp 4],T,T,(Yq 0 [Vb 2,vY 4] (Yr 1 [oA 4]))⟩
def Ii(M:ah)(q u:V)(I:hN):Ro:=Am q I λa=> bd (oK false (.bool true)) (nK I.length a.2)
def Kr:Ev.Fn:=⟨39,[.tmp 4],T,T,(Yq 0 [B7 4] (Yq 1 [xR 5] (Yj (.block 0 (.loop [0,1,5] [4,5] [5] (Yj (Yq 2 [YR 6,yX 7 6,Ya 8 2 7,vj 9 8,Vb2 10,Ye 11 3 9 10,Ya 12 1 11,vj 13 12,YT 14 13] (Yz 14 .skip (.exit 0))) (Yj (.block 1 (vf 4 [Yu 23 5,YR 24,yX 25 24,Ya 26 2 25,vj 27 26,Vb2 28,Ye 29 3 27 28,Ya 30 2 29,vj 31 30,Ae 32 31,YU 33 8 23 32,Yu 5 33])) (vf 3 [YR 15,yX 16 15,Ya 17 2 16,vj 18 17,Vb2 19,Ye 20 3 18 19,Ya 21 1 20,vj 22 21,Yv 1 22]))))) (Yq 5 [Yv 34 5,NH 35 148 34] (Yr 6 [Yu 36 5,NH 37 149 36,YY 38 37,Yv 4 38])))))⟩
def zp:=Uaj Q λr=> xi r 2 λx1=> u9 x1 I λs=> Ls z1 s 3 λt=> xi t 1 λu=> u9 u I λv=> Vj v λw=> br w.ng (Uaj Q λx=> xi x 2 λy=> u9 y I λA=> Ls z1 A 3 λf=> xi f 2 λg=> u9 g I λh=> NP h λi=> Zj z5 i I 1 8 λa=> Uaj Q λj=> xi j 2 λk=> u9 k a.2 λl=> Ls z1 l 3 λm=> xi m 1 λn=> u9 n a.2 λo=> bd (VJ z [5] [(0,Q),(1,o.ng),(5,a.1)] a.2) λc=>r1 c.1 c.2) (bd (VJ z [5] [(4,.any),(5,z5)] I) λd=>
 let e:uZ:=d.1
 bd (M.call 148 [(e.getD 1 .undef).ng.ng] d.2) λp=>bd (M.call 149 [(e.getD 1 .undef).ng] p.2) λb=>Jo b.1 b.2 λq=> bd (oK false q.ng) (nK N b.2))
def AF:=M.fx (xa (zp M N z))
def Oc:=u3 q I λa=> u3 u I λb=> G5 I λc=> AF M I.length I.length [a,b,c] I
def ZV:bW M Kr [q,u] I=Oc M q u I:=vi
def RY:Ev.Fn:=⟨34,[.tmp 6],T,T,(Yq 0 [Vb 3,vY 6] (Yj (Yq 1 [Vb2 7,Vdr 8 3,vj 9 8,Yh 10 9,Mv 11 7 10] (Ym 11 2 [vY 6])) (Yr 3 [Vdr 12 3,vj 13 12,Vb2 14,mT 15 13 14,vj 16 15,Yv 17 2,NF 18 16 17,Yv 19 18,wz 20 19 1 3,Aj 21 19 20,xD 22 19 21,J2 23 22 0 3,GB 24 22 23,xC 25 22 1,Vdz 26 22 1 24 25,GB 27 22 26,yi 28 22 102 27,xC 29 22 2,yi 30 22 102 29,Pq 31 22 28 30,wC 32 19 22 31,NC 33 19 32,Yv 6 33])))⟩
def RZ:=Am q I λb=> Rc b.1 λx1=> u9 x1 b.2 λr=> Cv r λs=> Rb u s λt=> br t.ng (bd (oK false (.bool false)) (nK I.length b.2)) (Rc b.1 λv=> u9 v b.2 λw=> Ls u w 1 λx=> u9 x b.2 λy=> Za y a2 λd=> Uaz d b.1 1 λf=> xM d f b.2 λg=> xj d g λa=> bd (aU a true (pu (eF 0 b.1.ng))) λh=> Ues a h b.2 λi=> GK a u λj=> bd (aU a true (pu (eI 1 j.ng i.ng))) λk=> Ues a k b.2 λl=> bd (fO a true (M.call 102 [l.ng] b.2) b.2) λc=> GK a a2 λm=> bd (fO a true (M.call 102 [m.ng] c.2) c.2) λe=> Ri a c.1 e.1 λn=> PD d a n λo=> xE d o λp=> bd (oK false p.ng) (nK I.length e.2))
def HI:Ev.Fn:=⟨13,[.tmp 2],T,T,(Yq 0 [vY 2] (Yr 1 [YR 3,NH 4 217 3,Yv 5 4,xD 6 5 0,Q1 7 5 6 12,NC 8 5 7,Yv 9 8,xD 10 9 0,Q1 11 9 10 13,NC 12 9 11,Yv 2 12]))⟩
def LI:=PC q I 217 M λa=> xj a.1 q λx1=> Q7 a.1 x1 12 λc=> xE a.1 c λb=> xj b q λd=> Q7 b d 13 λe=> xE b e λf=> bd (oK false f.ng) (nK I.length a.2)
def KD:Ev.Fn:=⟨8,[.tmp 4],T,T,(Yq 0 [vJ 4] (Yr 1 [YR 5,Vb2 6,YS 7 117 5 6,Yv 4 7]))⟩
def KE:=Q5 q u I 117 M λa=> bd (oK false a.1.ng) (nK I.length a.2)
def Ml:Ev.Fn:=⟨31,[.tmp 2,.tmp 3],T,T,(Yq 0 [vJ 2,vJ 3] (Yq 1 [Yk 4 (.alloc [Y0,Y0,(.int .u8 0),(.int .u8 0)])] (Yj (Yq 2 [YR 5,Ye 6 1 5 (Yi 0),vj 7 6,YS 8 150 4 7,CX 9 8] (Ym 9 3 [Lh 2 65533,Lh 3 1])) (Yj (Yq 4 [Lh 3 1] (.block 0 (.loop [0,3,4] [2,3,4] [] (Yj (Yq 5 [Ya 10 1 4,vj 11 10,YZ 12 11 0] (Yz 12 .skip (.exit 0))) (Yj (.block 1 (Yq 7 [Yv 15 3,YR 16,Yh 17 16,NF 18 15 17,Yv 19 18,xD 20 19 0,xD 21 19 3,E0 22 19 1 20 21,Aj 23 19 22,Q3 24 19 151 4 23,Q2 25 19 24,NC 26 19 25] (Ym 26 8 [Yv 27 3,Lh 2 65533,Yv 3 27]))) (vf 6 [Yv 13 3,vV 14 13,Yv 3 14])))))) (Yr 9 [Vdr 28 4,vj 29 28,Yv 30 3,Yv 2 29,Yv 3 30])))))⟩
def pB:=xi z4 1 λr=> u9 r I λs=> Q4 s 0 λt=> br t.ng (wI Q λu=> GJ S u λb=> xj b Q λd=> xj b S λe=> Vs b e d 1 λf=> xM b f I λg=> Uev b z4 g I 151 M λa=> Lj b a.1 λh=> xE b h λi=> br i.ng (bd (fz z a.2 fzD (.int .i64 65533)) λj=> Zq S a.2 z λk=> u6 z4 a.2 z λv=> Cu a.2 z λl=> nK N l (.aR [V.aI j,V.aI k])) (yh S λm=> UF z a.2 [Q,m.ng,z4] r1)) (vX I z λw=> u6 S I z λn=> u6 z4 I z λo=> Cu I z λc=> Rc o λp=> u9 p c λq=> nK N c (.aR [V.aI q.ng,V.aI n.ng.ng]))
def pC:=M.fx (xa (pB M N z))
def Mm:=
 let e:hN:=I++[.cells [(.int .i64 0),(.int .i64 0),(.int .u8 0),(.int .u8 0)]]
 PB q 1 0 λx1=> u9 x1 e λf=> bd (M.call 150 [(.ptr I.length 0),f.ng] e) λa=> xb a.1 λg=> br g.ng (nK I.length a.2 (.aR [V.aI (.int .i64 65533),V.aI (.int .i64 1)])) (u3 q a.2 λb=> v8 a.2 1 λc=> Lo a.2 I λd=> pC M I.length a.2.length [b,c,d] a.2)
def H0:Ev.Fn:=⟨19,[.tmp 4],T,T,(Yq 0 [vJ 4] (Yj (Yq 1 [YR 6,Yh 7 6,vJ 8] (.block 0 (.loop [0,1,7,8] [4] [] (Yq 2 [Ak 9 8 7] (Yj (Yz 9 .skip (.exit 0)) (Yj (.block 1 (Yq 3 [Yv 10 8,Yv 5 10] (Yq 4 [Vb2 11,YR 12,Yv 13 5,mT 14 12 13,vj 15 14,NF 16 11 15] (Ym 16 5 [Yv 17 5,Yv 4 17])))) (vf 6 [vV 18 8,Yv 8 18]))))))) (Yr 7 [J9 4])))⟩
def Bq(M:ah)(N:Nat)(z:Nat)(r1:Rk)(Q z1 z7 z8:V)(I:hN):Ro:=yp z8 z7 λx1=> br x1.ng (zf z8 Q 1 λb=> u9 b I λc=> GJ z1 c λd=> br d.ng (NR z8 I z λe=> Cu I z λf=> bd (oK false e) (nK N f)) (xy z8 λg=> UF z I [Q,z1,z7,g.ng] r1)) (vX I z λh=> Cu I z λa=> bd (oK false (.int .i64 (-1))) (nK N a))
def Br:=M.fx (xS (Bq M N z))
def LX:=wI q λe=> u3 q I λa=> u3 u I λb=> u3 e I λc=> VD I λd=> Br M I.length I.length [a,b,c,d] I
def QbI:bW M H0 [q,u] I=LX M q u I:=vi
def LC:Ev.Fn:=⟨11,[.tmp 6],true,T,(Yq 0 [xR 6] (Yr 1 [mA 7,Vb2 8,Yv 9 2,Yk 10 (.cw 158 [7,8,9] 0),Yu 6 10]))⟩
def LD:=bd (M.call 158 [q,u.ng.ng,a2.ng.ng] I) λa=> bd (oK true a.1) (nK I.length a.2)
def QbJ:bW M LC [q,u,a2] I=LD M q u a2 I:=vi
def HQ:Ev.Fn:=⟨28,[],T,T,(Yq 0 [YR 4,Yh 5 4,DD 6 5 1,vJ 2,Yv 3 6] (.block 0 (.loop [0,2,3] [] [] (Yj (Yq 1 [Yv 7 2,Yv 8 3,Ak 9 7 8] (Yz 9 .skip (.exit 0))) (Yj (.block 1 (.dH 3 [⟨Yv 14 0,0,[]⟩,⟨Yv 15 2,1,[]⟩,⟨Yv 16 0,2,[]⟩,⟨Yv 17 3,3,[]⟩,⟨Yv 18 0,4,[]⟩,⟨Yv 19 3,5,[]⟩,⟨Ye 20 1 18 19,6,[]⟩,⟨Yl 21 T 1 20,7,[]⟩,⟨Yv 22 0,8,[]⟩,⟨Yv 23 2,9,[]⟩,⟨Ye 24 1 22 23,10,[]⟩,⟨Yl 25 T 1 24,11,[]⟩,⟨Ye 26 1 14 15,12,[]⟩,⟨Yw 1 26 21 T,13,[]⟩,⟨Ye 27 1 16 17,14,[]⟩,⟨Yw 1 27 25 T,15,[]⟩])) (vf 2 [Yv 10 2,vV 11 10,Yv 12 3,DD 13 12 1,Yv 2 11,Yv 3 13]))))))⟩
def zC(M:ah)(N:Nat)(z:Nat)(r1:Rk)(Q z2 S:V)(I:hN):Ro:=Lt z2 S λe=> br e.ng (GH S Q 1 λf=> u9 f I λg=> GH z2 Q 1 λh=> u9 h I λi=> GH z2 Q 1 λj=> Ka j g I 1 λk=> GH S Q 1 λl=> Ka l i k.2 1 λa=> yh z2 λb=> PK S 1 λc=> UF z a.2 [Q,b.ng,c.ng] r1) (Cu I z λd=> nK N d (.aR []))
def Bi:=M.fx (xa (zC M N z))
def LP:=wI q λd=> Q_ d 1 λx1=> u3 q I λa=> VD I λb=> yF x1 I λc=> Bi M I.length I.length [a,b,c] I
def KF:bW M HQ [q] I=LP M q I:=vi
def HY:Ev.Fn:=⟨21,[.tmp 2],T,T,(Yq 0 [xR 2] (Yq 1 [xR 3] (Yj (Yq 2 [mA 6,Yh 7 6,vJ 8] (.block 0 (.loop [3,6,7,8] [2,3] [] (Yq 3 [Ak 9 8 7] (Yj (Yz 9 .skip (.exit 0)) (Yj (.block 1 (Yq 4 [mT 10 6 8,vj 11 10,Yv 5 11] (Yj (Yq 5 [Yv 12 5,NH 13 159 12,CX 14 13] (Yz 14 (vf 6 [Lh 5 65533]) .skip)) (vf 7 [Yu 15 3,Yv 16 5,Yk 17 (.conv (.toInt .i32) 16),Vdx 18 160 15 17,Yu 3 18])))) (vf 8 [vV 19 8,Yv 8 19]))))))) (Yr 9 [Yu 20 3,Yu 2 20]))))⟩
def pX(M:ah)(N:Nat)(z:Nat)(r1:Rk)(S z5 z6 z7 z8:V)(I:hN):Ro:=bd (pu (eC I (.toInt .i32) z5.ng.ng)) λb=> bd (M.call 160 [S,b.ng] I) λa=> xy z8 λc=> UF z a.2 [a.1,z6,z7,c.ng] r1
def pD:=yp z8 z7 λx1=> br x1.ng (Ubh z8 z6 1 λf=> u9 f I λe=> bd (M.call 159 [e.ng.ng.ng] I) λa=> xb a.1 λb=> br b.ng (pX M N z r1 S (.int .i64 65533) z6 z7 z8 a.2) (pX M N z r1 S e.ng z6 z7 z8 a.2)) (vX I z λg=> u6 S I z λc=> Cu I z λd=> bd (oK false c) (nK N d))
def pE:=M.fx (xS (pD M N z))
def HZ:=Cv q λe=> G5 I λa=> u3 q I λb=> u3 e I λc=> VD I λd=> pE M I.length I.length [a,b,c,d] I
def Rs:bW M HY [q] I=HZ M q I:=vi
def LZ:Ev.Fn:=⟨13,[.tmp 2],T,T,(Yq 0 [vY 2] (Yr 1 [YR 3,Hx 4 3 32,Yv 5 4,xD 6 5 0,Q1 7 5 6 9,NC 8 5 7,Yv 9 8,xD 10 9 0,Q1 11 9 10 10,NC 12 9 11,Yv 2 12]))⟩
def Ee(M:ah)(q:V)(I:hN):Ro:=Vw q 32 λa=> xj a q λx1=> Q7 a x1 9 λc=> xE a c λb=> xj b q λd=> Q7 b d 10 λe=> xE b e λf=> bd (oK false f.ng) (nK I.length I)
def Oe:Ev.Fn:=⟨106,[.tmp 4],T,T,(Yq 0 [vY 4] (Yq 1 [YR 5,YR 6,yX 7 5,Ya 8 2 7,Vc 1 8 128,yX 9 6,Ya 10 3 9,Vc 1 10 191] (Yj (.block 0 (Yj (.block 9 (Yj (.block 8 (Yj (.block 7 (Yj (.block 6 (Yj (.block 5 (Yj (.block 4 (Yj (.block 3 (Yj (.block 2 (Yj (.block 1 (Yj (Yj (Yq 2 [Vb2 12,Vf 13 12 128,Yv 11 13] (Yz 11 (.exit 1) .skip)) (Yj (Yq 3 [Vb2 15,Yo 16 .geq .no 15 (.c (.int .u8 194)),Yv 17 16,xC 18 17 1,YV 19 17 18 223,Fl 20 17 19,Yv 14 20] (Yz 14 (.exit 2) .skip)) (Yj (Yq 4 [Vb2 22,xh 23 22 224,Yv 21 23] (Yz 21 (.exit 3) .skip)) (Yj (Yq 5 [Vb2 25,xh 26 25 237,Yv 24 26] (Yz 24 (.exit 4) .skip)) (Yj (Yq 6 [Vb2 28,Vdf 29 28 224,Yv 30 29,xC 31 30 1,YV 32 30 31 239,Fl 33 30 32,Yv 27 33] (Yz 27 (.exit 5) .skip)) (Yj (Yq 7 [Vb2 35,xh 36 35 240,Yv 34 36] (Yz 34 (.exit 6) .skip)) (Yj (Yq 8 [Vb2 38,xh 39 38 244,Yv 37 39] (Yz 37 (.exit 7) .skip)) (Yq 9 [Vb2 41,Vdf 42 41 240,Yv 43 42,xC 44 43 1,Vdp 45 43 44 244,Fl 46 43 45,Yv 40 46] (Yz 40 (.exit 8) .skip))))))))) (.exit 9))) (Yq 10 [YR 47,YR 48,Vb2 49,Hy 50 49,yX 51 47,Vdr 52 51,J4 1 52 50,yX 53 48,Ya 54 1 53,DF 1 54 0] (.exit 0)))) (Yq 11 [YR 55,YR 56,Vb2 57,zZ 58 57 31,Hy 59 58,yX 60 55,Vdr 61 60,J4 1 61 59,yX 62 56,Ya 63 1 62,DF 1 63 1] (.exit 0)))) (Yj (Yq 12 [YR 64,yX 65 64,Ya 66 2 65,Vc 1 66 160] (vf 13 [YR 67,YR 68,yX 69 67,Vdr 70 69,DF 1 70 0,yX 71 68,Ya 72 1 71,DF 1 72 2])) (.exit 0)))) (vf 14 [YR 73,yX 74 73,Ya 75 3 74,Vc 1 75 159]))) (Yq 15 [YR 76,YR 77,Vb2 78,zZ 79 78 15,Hy 80 79,yX 81 76,Vdr 82 81,J4 1 82 80,yX 83 77,Ya 84 1 83,DF 1 84 2] (.exit 0)))) (Yj (Yq 16 [YR 85,yX 86 85,Ya 87 2 86,Vc 1 87 144] (vf 17 [YR 88,YR 89,yX 90 88,Vdr 91 90,DF 1 91 0,yX 92 89,Ya 93 1 92,DF 1 93 3])) (.exit 0)))) (vf 18 [YR 94,yX 95 94,Ya 96 3 95,Vc 1 96 143]))) (Yq 19 [YR 97,YR 98,Vb2 99,zZ 100 99 7,Hy 101 100,yX 102 97,Vdr 103 102,J4 1 103 101,yX 104 98,Ya 105 1 104,DF 1 105 3] (.exit 0)))) (Yj (Yr 20 [vY 4]) (.exit 0)))) (Yr 21 [oA 4]))))⟩
def wH(M:ah)(N:Nat)(I:hN):Ro:=bd (oK false (.bool true)) (nK N I)
def DE:=Rf z1 7 λe=> Kb e I λf=> Uaj Q λg=> Rc g λh=> Ka h f I 1 λa=> Uaj Q λb=> xi b 1 λc=> Hz c a.2 1 3 λd=> wH M N d.2
def Cm:=Rf z1 15 λa=> Kb a I λb=> Uaj Q λc=> Rc c λd=> Ka d b I 1 λe=> Uaj Q λf=> xi f 1 λg=> Hz g e.2 1 2 λh=> wH M N h.2
def CJ:=Uaj q λx0=> xi x0 2 λx1=> Jk x1 I 1 128 λp2=> Uaj q λx3=> xi x3 3 λx4=> Jk x4 p2.2 1 191 λa=> bd (pu (eB .lss .no u.ng.ng (.int .u8 128))) λe=> br e.ng.ng (Uet u a.2 λf=> Uaj q λg=> Rc g λh=> Ka h f a.2 1 λi=> Uaj q λj=> xi j 1 λk=> Hz k i.2 1 0 λl=> wH M I.length l.2) (bd (pu (eB .geq .no u.ng.ng (.int .u8 194))) λb=> E2 b u λm=> bd (aU b.ng true (pu (eB .leq .no m.ng (.int .u8 223)))) λn=> xu b n λo=> br o.ng.ng (Rf u 31 λp=> Kb p a.2 λr=> Uaj q λs=> Rc s λt=> Ka t r a.2 1 λv=> Uaj q λw=> xi w 1 λx=> Hz x v.2 1 1 λy=> wH M I.length y.2) (Zl u 224 λz=> br z.ng.ng (Uaj q λA=> xi A 2 λB=> Jk B a.2 1 160 λC=> Uaj q λD=> Rc D λE=> Hz E C.2 1 0 λF=> Uaj q λG=> xi G 1 λH=> Hz H F.2 1 2 λJ=> wH M I.length J.2) (Zl u 237 λK=> br K.ng.ng (Uaj q λL=> xi L 3 λN=> Jk N a.2 1 159 λO=> Cm M I.length q u O.2) (bd (pu (eB .gtr .no u.ng.ng (.int .u8 224))) λc=> E2 c u λP=> bd (aU c.ng true (pu (eB .leq .no P.ng (.int .u8 239)))) λQ=> xu c Q λR=> br R.ng.ng (Cm M I.length q u a.2) (Zl u 240 λS=> br S.ng.ng (Uaj q λU=> xi U 2 λV=> Jk V a.2 1 144 λX=> Uaj q λb=> Rc b λb=> Hz b X.2 1 0 λb=> Uaj q λc=> xi c 1 λc=> Hz c b.2 1 3 λb=> wH M I.length b.2) (Zl u 244 λb=> br b.ng.ng (Uaj q λb=> xi b 3 λb=> Jk b a.2 1 143 λb=> DE M I.length q u b.2) (bd (pu (eB .gtr .no u.ng.ng (.int .u8 240))) λd=> E2 d u λb=> bd (aU d.ng true (pu (eB .lss .no b.ng (.int .u8 244)))) λb=> xu d b λb=> br b.ng.ng (DE M I.length q u a.2) (bd (oK false (.bool false)) (nK I.length a.2)))))))))
def ZX:bW M Oe [q,u] I=CJ M q u I:=vi
def Of:Ev.Fn:=⟨44,[.tmp 4],T,T,(Yq 0 [vY 4] (Yj (Yq 1 [Vb2 5,YR 6,yX 7 6,Ya 8 2 7,vj 9 8,Ak 10 5 9,Yv 11 10,xD 12 11 1,xD 13 11 0,⟨some 14,(some (11,T)),.dh 13⟩,wz 15 11 3 14,Aj 16 11 15,Vbt 17 11 12 16,NC 18 11 17] (Ym 18 2 [vY 4])) (Yq 3 [YR 19,YR 20,yX 21 19,Ya 22 2 21,Vc 1 22 128,yX 23 20,Ya 24 3 23,Vc 1 24 191] (Yq 4 [YR 25,YR 26,yX 27 26,Vdr 28 27,vj 29 28,Yo 30 .shl .no 29 (.c (.int .u64 6)),Vb2 31,zZ 32 31 63,Hy 33 32,Yo 34 .or .no 30 33,yX 35 25,Vdr 36 35,J4 1 36 34] (Yq 5 [YR 37,yX 38 37,Ya 39 1 38,vj 40 39,DD 41 40 1,yX 42 37,Ya 43 1 42,J4 1 43 41] (Yr 6 [oA 4]))))))⟩
def Og(M:ah)(q u:V)(I:hN):Ro:=Uaj q λB=> xi B 2 λx1=> u9 x1 I λC=> A4 u C λa=> xj a u λD=> xj a q λE=> Q' a E λF=> Uaz a F 3 λG=> xM a G I λH=> Vk a D H λJ=> xE a J λd=> br d.ng (bd (oK false (.bool false)) (nK I.length I)) (Uaj q λe=> xi e 2 λf=> Jk f I 1 128 λg=> Uaj q λh=> xi h 3 λi=> Jk i g.2 1 191 λb=> Uaj q λj=> Rc j λk=> u9 k b.2 λl=> D8 l 6 λm=> Rf u 63 λn=> Kb n b.2 λo=> Ji m o λp=> Uaj q λr=> Rc r λs=> Ka s p b.2 1 λc=> Uaj q λt=> xi t 1 λv=> u9 v c.2 λw=> Q_ w 1 λx=> Uaj q λy=> xi y 1 λz=> Ka z x c.2 1 λA=> bd (oK false (.bool true)) (nK I.length A.2))
def ZY:bW M Of [q,u] I=Og M q u I:=vi
end
section
variable(M:ah)(N n1:Nat)(r1:Rk)(n2:Nat)(r2:Rk)(n3:Nat)(r3:Rk)(n4:Nat)(r4:Rk)(n5:Nat)(q u z a3 a4 a5 a6 a7 a8 a9 a10 a11:V)(Q S z7:V)(I:hN)
def Fs:Ev.Fn:=⟨21,[.tmp 6],true,T,(Yq 0 [xR 6] (Yq 1 [Vb2 8,Yk 9 (.conv (.toInt .u64) 8),Yv 7 9] (Yj (Yq 2 [Vb2 10,NG 11 10 0] (Yz 11 (Yq 3 [mA 12,Vck 13 45,Pr 14 12 13,Yu 0 14] (vf 4 [Yv 15 7,Yk 16 (.un .neg 15),Yv 7 16])) .skip)) (Yr 5 [mA 17,Yv 18 7,Yv 19 2,Yk 20 (.cw 162 [17,18,19] 0),Yu 6 20]))))⟩
def pF:=bd (M.call 162 [Q,z7.ng.ng,S.ng.ng] I) λa=> bd (oK true a.1) (nK N a.2)
def Ft:=bd (pu (eC I (.toInt .u64) u.ng.ng)) λa=> Fo u 0 λb=> br b.ng (bd (wS false 1 1 (.int .u8 0) [(0,(.int .u8 45))]) λc=> PE q c I λd=> bd (pu (fk .neg a.ng.ng.ng)) λe=> pF M I.length d z e.ng I) (pF M I.length q z a.ng I)
def LR:bW M Fs [q,u,z] I=Ft M q u z I:=vi
def If:Ev.Fn:=⟨14,[.tmp 2],T,T,(Yq 0 [vY 2] (Yr 1 [YR 3,YT 4 3,Yv 5 4,xC 6 5 0,J3 7 5 6 1114111,Fl 8 5 7,Yv 9 8,xC 10 9 0,Vdw 11 9 10,yi 12 9 163 11,Fl 13 9 12,Yv 2 13]))⟩
def Ig:=Vg q 0 λb=> E2 b q λx1=> HA b x1 1114111 λd=> xu b d λa=> E2 a q λe=> bd (aU a.ng true (pu (eC I (.toInt .i32) e.ng))) λf=> Af a f I 163 M λc=> xu a c.1 λg=> bd (oK false g.ng) (nK I.length c.2)
def Bx:Ev.Fn:=⟨16,[.tmp 4],true,T,(Yq 0 [xR 4] (Yj (Yq 1 [Vb2 5,Vdi 6 5,Vdd 7 6 127] (Ym 7 2 [mA 8,Vb2 9,wX 10 9,J7 11 10,Pr 12 8 11,Yu 4 12])) (Yr 3 [mA 13,Vb2 14,Vdx 15 164 13 14,Yu 4 15])))⟩
def w5:=Ueu u I λb=> bd (pu (eB .leq .no b.ng (.int .u32 127))) λx1=> br x1.ng (Q6 u I λc=> bd (wS false 1 1 (.int .u8 0) [(0,c.ng)]) λd=> PE q d I λe=> bd (oK true e) (nK I.length I)) (bd (M.call 164 [q,u.ng.ng] I) λa=> bd (oK true a.1) (nK I.length a.2))
def QbK:bW M Bx [q,u] I=w5 M q u I:=vi
def HR:Ev.Fn:=⟨36,[.tmp 6],true,T,(Yq 0 [xR 6] (Yj (Yq 1 [Yv 9 2,Hx 10 9 10] (Yz 10 (Yj (Yq 2 [Vb2 11,Yo 12 .lss .no 11 (.c (.int .u64 100))] (Ym 12 3 [mA 13,Vb2 14,Hy 15 14,NH 16 165 15,Yk 17 (.app true T 1 1 13 16 true),Yu 6 17])) (Yq 4 [Pu 7] (Yq 5 [Vb2 18,NH 19 166 18,Yv 8 19] (Yq 6 [Yv 20 8,Vd6 21 24 7 20,Vb2 22,YS 23 167 21 22] (Yr 7 [mA 24,Yv 25 8,Vd6 26 24 7 25,Pr 27 24 26,Yu 6 27]))))) .skip)) (Yq 8 [mA 29,Vb2 30,Yv 31 2,Yk 32 (.cw 168 [29,30,31,Yf,Yt] 0),Yv 28 32,Yx 33 28 0,Yx 34 28 1,Yv 0 33] (Yr 9 [mA 35,Yu 6 35]))))⟩
def LQ:=Vw z 10 λg=> br g.ng (bd (pu (eB .lss .no u.ng.ng (.int .u64 100))) λx1=> br x1.ng (Uet u I λh=> D7 h I 165 M λb=> bd (aT true false 1 1 b.2 q b.1.ng) λi=> bd (oK true i) (nK I.length b.2)) (
 let j:hN:=I++[.cells [(.int .u8 0),(.int .u8 0),(.int .u8 0),(.int .u8 0),(.int .u8 0),(.int .u8 0),(.int .u8 0),(.int .u8 0),(.int .u8 0),(.int .u8 0),(.int .u8 0),(.int .u8 0),(.int .u8 0),(.int .u8 0),(.int .u8 0),(.int .u8 0),(.int .u8 0),(.int .u8 0),(.int .u8 0),(.int .u8 0),(.int .u8 0),(.int .u8 0),(.int .u8 0),(.int .u8 0)]]
 PC u j 166 M λc=> bd (pu (BU 24 1 false (.ptr I.length 0) none (some c.1.ng.ng.ng))) λk=> Q9 k u c.2 167 M λf=> bd (pu (BU 24 1 false (.ptr I.length 0) none (some c.1.ng.ng.ng))) λl=> PE q l f.2 λd=> bd (oK true d) (nK I.length f.2))) (bd (M.call 168 [q,u.ng.ng,z.ng.ng,(.bool false),(.bool true)] I) λa=> Uba a.1 0 λe=> Uba a.1 1 λm=> bd (oK true e.ng) (nK I.length a.2))
def QbL:bW M HR [q,u,z] I=LQ M q u z I:=vi
def K8:Ev.Fn:=⟨17,[.tmp 2],T,T,(Yq 0 [vY 2] (Yj (.block 0 (Yq 1 [YR 4,Yo 5 .leq .no (.c (.int .i32 0)) 4,Yv 6 5,xC 7 6 0,Vdm 8 6 7 55296,Fl 9 6 8,Yv 3 9] (Yz 3 (Yr 2 [oA 2]) (Yq 3 [YR 11,Yo 12 .lss .no (.c (.int .i32 57343)) 11,Yv 13 12,xC 14 13 0,zk 15 13 14 1114111,Fl 16 13 15,Yv 10 16] (Ym 10 4 [oA 2]))))) (Yr 5 [vY 2])))⟩
def Bz(M:ah)(q:V)(I:hN):Ro:=bd (pu (eB .leq .no (.int .i32 0) q.ng.ng)) λa=> E2 a q λx1=> bd (aU a.ng true (pu (eB .lss .no x1.ng (.int .i32 55296)))) λc=> xu a c λd=> br d.ng.ng (bd (oK false (.bool true)) (nK I.length I)) (bd (pu (eB .lss .no (.int .i32 57343) q.ng.ng)) λb=> E2 b q λe=> bd (aU b.ng true (pu (eB .leq .no e.ng (.int .i32 1114111)))) λf=> xu b f λg=> br g.ng.ng (bd (oK false (.bool true)) (nK I.length I)) (bd (oK false (.bool false)) (nK I.length I)))
def BA:Ev.Fn:=⟨78,[.tmp 4],true,T,(Yq 0 [xR 4] (Yq 1 [Vb2 6,Vdi 7 6,Yv 5 7] (.block 0 (Yq 3 [Yv 12 5,Vdd 13 12 2047,Yv 11 13] (Yz 11 (Yr 4 [mA 14,Vb2 15,Pp 16 15 6,wX 17 16,yY 18 192 17,Vb2 19,wX 20 19,zZ 21 20 63,yY 22 128 21,Yk 23 (.aw T 1 2 (.int .u8 0) [(0,18),(1,22)] T),Pr 24 14 23,Yu 4 24]) (Yj (Yq 5 [Yv 26 5,Yo 27 .lss .no 26 (.c (.int .u32 55296)),Yv 25 27] (Yz 25 .skip (vf 6 [Yv 28 5,Yo 29 .lss .no (.c (.int .u32 57343)) 28,Yv 30 29,xC 31 30 5,Pv 32 30 31 65535,Fl 33 30 32,Yv 25 33]))) (Yz 25 (Yr 7 [mA 34,Vb2 35,Pp 36 35 12,wX 37 36,yY 38 224 37,Vb2 39,Pp 40 39 6,wX 41 40,zZ 42 41 63,yY 43 128 42,Vb2 44,wX 45 44,zZ 46 45 63,yY 47 128 46,Yk 48 (.aw T 1 3 (.int .u8 0) [(0,38),(1,43),(2,47)] T),Pr 49 34 48,Yu 4 49]) (Yq 8 [Yv 51 5,Yo 52 .gtr .no 51 (.c (.int .u32 65535)),Yv 53 52,xC 54 53 5,Pv 55 53 54 1114111,Fl 56 53 55,Yv 50 56] (Yz 50 (Yr 9 [mA 57,Vb2 58,Pp 59 58 18,wX 60 59,yY 61 240 60,Vb2 62,Pp 63 62 12,wX 64 63,zZ 65 64 63,yY 66 128 65,Vb2 67,Pp 68 67 6,wX 69 68,zZ 70 69 63,yY 71 128 70,Vb2 72,wX 73 72,zZ 74 73 63,yY 75 128 74,Yk 76 (.aw T 1 4 (.int .u8 0) [(0,61),(1,66),(2,71),(3,75)] T),Pr 77 57 76,Yu 4 77]) (Yr 2 [mA 8,Yk 9 (.aw T 1 3 (.int .u8 0) [(0,(.c (.int .u8 239))),(1,(.c (.int .u8 191))),(2,(.c (.int .u8 189)))] T),Pr 10 8 9,Yu 4 10]))))))))))⟩
def ow(M:ah)(N:Nat)(Q a L c:V)(I:hN):Ro:=br c.ng (GL a 12 λd=> yG d I λe=> Vh e 224 λf=> GL a 6 λg=> yG g I λh=> Vm h λi=> Vh i 128 λj=> Q6 a I λk=> Vm k λl=> Vh l 128 λm=> bd (wS false 1 3 (.int .u8 0) [(0,f.ng),(1,j.ng),(2,m.ng)]) λn=> PE Q n I λo=> bd (oK true o) (nK N I)) (bd (pu (eB .gtr .no L.ng.ng (.int .u32 65535))) λb=> E2 b L λp=> bd (aU b.ng true (pu (eB .leq .no p.ng (.int .u32 1114111)))) λq=> xu b q λr=> br r.ng.ng (GL a 18 λs=> yG s I λt=> Vh t 240 λu=> GL a 12 λv=> yG v I λw=> Vm w λx=> Vh x 128 λy=> GL a 6 λz=> yG z I λA=> Vm A λB=> Vh B 128 λC=> Q6 a I λD=> Vm D λE=> Vh E 128 λF=> bd (wS false 1 4 (.int .u8 0) [(0,u.ng),(1,y.ng),(2,C.ng),(3,F.ng)]) λG=> PE Q G I λH=> bd (oK true H) (nK N I)) (bd (wS false 1 3 (.int .u8 0) [(0,(.int .u8 239)),(1,(.int .u8 191)),(2,(.int .u8 189))]) λJ=> PE Q J I λK=> bd (oK true K) (nK N I)))
def pL:=Ueu u I λb=> bd (pu (eB .leq .no b.ng.ng.ng (.int .u32 2047))) λx1=> br x1.ng.ng (GL u 6 λg=> yG g I λh=> Vh h 192 λi=> Q6 u I λj=> Vm j λk=> Vh k 128 λl=> bd (wS false 1 2 (.int .u8 0) [(0,i.ng),(1,l.ng)]) λm=> PE q m I λn=> bd (oK true n) (nK I.length I)) (bd (pu (eB .lss .no b.ng.ng.ng (.int .u32 55296))) λc=> br c.ng.ng (ow M I.length q u b.ng c.ng I) (bd (pu (eB .lss .no (.int .u32 57343) b.ng.ng.ng)) λa=> NK a b λd=> bd (aU a.ng true (pu (eB .leq .no d.ng (.int .u32 65535)))) λe=> xu a e λf=> ow M I.length q u b.ng f.ng I))
def QbM:bW M BA [q,u] I=pL M q u I:=vi
def FI:Ev.Fn:=⟨15,[.tmp 2],true,T,(Yq 0 [B7 2] (Yj (Yq 1 [YR 3,NG 4 3 10] (Ym 4 2 [YR 5,YR 6,vV 7 6,Yk 8 (.ga (Ys [48,49,50,51,52,53,54,55,56,57,97,98,99,100,101,102,103,104,105,106,107,108,109,110,111,112,113,114,115,116,117,118,119,120,121,122]) (some 5) (some 7)),Yv 2 8])) (Yr 3 [YR 9,Yo 10 .mul .no 9 (Yi 2),YR 11,Yo 12 .mul .no 11 (Yi 2),wO 13 12 2,Yk 14 (.ga (Ys [48,48,48,49,48,50,48,51,48,52,48,53,48,54,48,55,48,56,48,57,49,48,49,49,49,50,49,51,49,52,49,53,49,54,49,55,49,56,49,57,50,48,50,49,50,50,50,51,50,52,50,53,50,54,50,55,50,56,50,57,51,48,51,49,51,50,51,51,51,52,51,53,51,54,51,55,51,56,51,57,52,48,52,49,52,50,52,51,52,52,52,53,52,54,52,55,52,56,52,57,53,48,53,49,53,50,53,51,53,52,53,53,53,54,53,55,53,56,53,57,54,48,54,49,54,50,54,51,54,52,54,53,54,54,54,55,54,56,54,57,55,48,55,49,55,50,55,51,55,52,55,53,55,54,55,55,55,56,55,57,56,48,56,49,56,50,56,51,56,52,56,53,56,54,56,55,56,56,56,57,57,48,57,49,57,50,57,51,57,52,57,53,57,54,57,55,57,56,57,57]) (some 10) (some 13)),Yv 2 14])))⟩
def Ij(M:ah)(q:V)(I:hN):Ro:=Fo q 10 λa=> br a.ng (yh q λx1=> bd (pu (AP (.str [48,49,50,51,52,53,54,55,56,57,97,98,99,100,101,102,103,104,105,106,107,108,109,110,111,112,113,114,115,116,117,118,119,120,121,122]) (some q.ng.ng) (some x1.ng))) λb=> bd (oK true b.ng) (nK I.length I)) (bd (pu (eB .mul .no q.ng.ng (.int .i64 2))) λc=> bd (pu (eB .mul .no q.ng.ng (.int .i64 2))) λd=> bd (pu (eB .add .no d.ng (.int .i64 2))) λe=> bd (pu (AP (.str [48,48,48,49,48,50,48,51,48,52,48,53,48,54,48,55,48,56,48,57,49,48,49,49,49,50,49,51,49,52,49,53,49,54,49,55,49,56,49,57,50,48,50,49,50,50,50,51,50,52,50,53,50,54,50,55,50,56,50,57,51,48,51,49,51,50,51,51,51,52,51,53,51,54,51,55,51,56,51,57,52,48,52,49,52,50,52,51,52,52,52,53,52,54,52,55,52,56,52,57,53,48,53,49,53,50,53,51,53,52,53,53,53,54,53,55,53,56,53,57,54,48,54,49,54,50,54,51,54,52,54,53,54,54,54,55,54,56,54,57,55,48,55,49,55,50,55,51,55,52,55,53,55,54,55,55,55,56,55,57,56,48,56,49,56,50,56,51,56,52,56,53,56,54,56,55,56,56,56,57,57,48,57,49,57,50,57,51,57,52,57,53,57,54,57,55,57,56,57,57]) (some c.ng) (some e.ng))) λf=> bd (oK true f.ng) (nK I.length I))
def Fq:Ev.Fn:=⟨15,[.tmp 2],T,T,(Yq 0 [vJ 2] (Yq 1 [YR 4,NH 5 145 4,NH 6 169 5,Yv 3 6] (Yr 2 [Yv 7 3,YR 8,Yv 9 3,Yk 10 (.fQ 20 1 (.g 5) 9),vj 11 10,Mv 12 8 11,NH 13 170 12,A3 14 7 13,Yv 2 14])))⟩
def Mb:Ev.Fn:=⟨25,[.tmp 2],T,T,(Yq 0 [vJ 2] (Yj (Yq 1 [YR 3,Y2 4 3 4294967296] (Yz 4 (Yq 2 [YR 5,Pp 6 5 32,Yv 0 6] (vf 3 [Lh 2 32])) .skip)) (Yj (Yq 4 [YR 7,Y2 8 7 65536] (Yz 8 (Yq 5 [YR 9,Pp 10 9 16,Yv 0 10] (vf 6 [Yv 11 2,wO 12 11 16,Yv 2 12])) .skip)) (Yj (Yq 7 [YR 13,Y2 14 13 256] (Yz 14 (Yq 8 [YR 15,Pp 16 15 8,Yv 0 16] (vf 9 [Yv 17 2,wO 18 17 8,Yv 2 18])) .skip)) (Yr 10 [Yv 19 2,YR 20,wX 21 20,Yk 22 (.idx (Ys [0,1,2,2,3,3,3,3,4,4,4,4,4,4,4,4,5,5,5,5,5,5,5,5,5,5,5,5,5,5,5,5,6,6,6,6,6,6,6,6,6,6,6,6,6,6,6,6,6,6,6,6,6,6,6,6,6,6,6,6,6,6,6,6,7,7,7,7,7,7,7,7,7,7,7,7,7,7,7,7,7,7,7,7,7,7,7,7,7,7,7,7,7,7,7,7,7,7,7,7,7,7,7,7,7,7,7,7,7,7,7,7,7,7,7,7,7,7,7,7,7,7,7,7,7,7,7,7,8,8,8,8,8,8,8,8,8,8,8,8,8,8,8,8,8,8,8,8,8,8,8,8,8,8,8,8,8,8,8,8,8,8,8,8,8,8,8,8,8,8,8,8,8,8,8,8,8,8,8,8,8,8,8,8,8,8,8,8,8,8,8,8,8,8,8,8,8,8,8,8,8,8,8,8,8,8,8,8,8,8,8,8,8,8,8,8,8,8,8,8,8,8,8,8,8,8,8,8,8,8,8,8,8,8,8,8,8,8,8,8,8,8,8,8,8,8,8,8,8,8,8,8,8,8,8,8]) 21),Hy 23 22,A3 24 19 23,Yv 2 24])))))⟩
def Ie:Ev.Fn:=⟨6,[.tmp 2],T,T,(Yq 0 [vJ 2] (Yr 1 [YR 3,Yo 4 .mul .no 3 (Yi 78913),Pp 5 4 18,Yv 2 5]))⟩
def Fx:Ev.Fn:=⟨4,[.tmp 2],T,T,(Yq 0 [vJ 2] (Yj (Yq 1 [YR 3] (Ym 3 2 [Lh 2 1])) (Yr 3 [vJ 2])))⟩
end
def Wfo:List (Nat×Ev.Fn):=[(3,p6),
 (4,DG),
 (5,z'),
 (6,Ao),
 (7,Au),
 (8,Eh),
 (11,AD),
 (12,AE),
 (13,FE),
 (14,FP),
 (15,FU),
 (16,AN),
 (17,FX),
 (18,p8),
 (19,FZ),
 (20,H9),
 (21,QaW),
 (22,Rr),
 (23,Ei),
 (25,N0),
 (24,HM),
 (26,Ek),
 (28,QdZ),
 (29,A_),
 (30,Ba),
 (31,Bf),
 (32,H7),
 (33,qo),
 (36,FG),
 (35,LU),
 (38,E6),
 (39,CI),
 (40,N4),
 (37,Mr),
 (42,uX),
 (41,Fu),
 (44,L4),
 (49,vA),
 (50,Gb),
 (51,n'),
 (52,Bg),
 (34,FF),
 (57,Kh),
 (58,FC),
 (56,Lv),
 (59,H2),
 (60,H4),
 (61,N9),
 (62,Mt),
 (55,D6),
 (43,Gi),
 (63,H_),
 (71,HF),
 (75,Bh),
 (76,Bj),
 (77,Gx),
 (78,HT),
 (79,HU),
 (80,Bl),
 (53,My),
 (54,H'),
 (82,Ic),
 (84,L7),
 (64,H5),
 (65,H8),
 (66,Rz),
 (67,LJ),
 (68,Im),
 (69,IC),
 (94,Bn),
 (81,Ej),
 (98,zF),
 (99,HE),
 (100,HD),
 (101,GM),
 (85,Bs),
 (86,H1),
 (87,wm),
 (88,Bw),
 (90,Ef),
 (91,El),
 (92,FA),
 (95,wo),
 (107,HO),
 (108,wF),
 (109,LF),
 (110,HP),
 (111,LH),
 (112,Eb),
 (114,HN),
 (115,HC),
 (116,Kl),
 (211,R4),
 (213,N'),
 (215,NZ),
 (219,RP),
 (220,Ih),
 (222,D_),
 (223,Ik),
 (225,RT),
 (89,QdT),
 (102,L_),
 (105,Ky),
 (122,H6),
 (123,Fw),
 (124,L6),
 (125,wN),
 (128,Rj),
 (129,QeA),
 (130,HG),
 (210,Od),
 (212,Ob),
 (214,Rt),
 (218,Rm),
 (221,QbG),
 (224,RW),
 (131,Kr),
 (146,RY),
 (216,HI),
 (103,KD),
 (133,Ml),
 (134,H0),
 (147,LC),
 (148,HQ),
 (149,HY),
 (217,LZ),
 (150,Oe),
 (151,Of),
 (158,Fs),
 (159,If),
 (160,Bx),
 (162,HR),
 (163,K8),
 (164,BA),
 (165,FI),
 (166,Fq),
 (145,Mb),
 (169,Ie),
 (170,Fx)]
def Qw8(f:FuncId):Option Ev.Fn:=Wk1 Wfo f
def Wvn:∀f F,Qw8 f=W F->zL prog f F:=Tx (l:=Wfo) ⟨vP func3 vi,vP func4 vi,vP func5 vi,vP func6 vi,vP func7 vi,vP func8 vi,vP func11 vi,vP func12 vi,vP func13 vi,vP func14 vi,vP func15 vi,vP func16 vi,vP func17 vi,vP func18 vi,vP func19 vi,vP func20 vi,vP func21 vi,vP func22 vi,vP func23 vi,vP func25 vi,vP func24 vi,vP func26 vi,vP func28 vi,vP func29 vi,vP func30 vi,vP func31 vi,vP func32 vi,vP func33 vi,vP func36 vi,vP func35 vi,vP func38 vi,vP func39 vi,vP func40 vi,vP func37 vi,vP func42 vi,vP func41 vi,vP func44 vi,vP func49 vi,vP func50 vi,vP func51 vi,vP func52 vi,vP func34 vi,vP func57 vi,vP func58 vi,vP func56 vi,vP func59 vi,vP func60 vi,vP func61 vi,vP func62 vi,vP func55 vi,vP func43 vi,vP func63 vi,vP func71 vi,vP func75 vi,vP func76 vi,vP func77 vi,vP func78 vi,vP func79 vi,vP func80 vi,vP func53 vi,vP func54 vi,vP func82 vi,vP func84 vi,vP func64 vi,vP func65 vi,vP func66 vi,vP func67 vi,vP func68 vi,vP func69 vi,vP func94 vi,vP func81 vi,vP func98 vi,vP func99 vi,vP func100 vi,vP func101 vi,vP func85 vi,vP func86 vi,vP func87 vi,vP func88 vi,vP func90 vi,vP func91 vi,vP func92 vi,vP func95 vi,vP func107 vi,vP func108 vi,vP func109 vi,vP func110 vi,vP func111 vi,vP func112 vi,vP func114 vi,vP func115 vi,vP func116 vi,vP func211 vi,vP func213 vi,vP func215 vi,vP func219 vi,vP func220 vi,vP func222 vi,vP func223 vi,vP func225 vi,vP func89 vi,vP func102 vi,vP func105 vi,vP func122 vi,vP func123 vi,vP func124 vi,vP func125 vi,vP func128 vi,vP func129 vi,vP func130 vi,vP func210 vi,vP func212 vi,vP func214 vi,vP func218 vi,vP func221 vi,vP func224 vi,vP func131 vi,vP func146 vi,vP func216 vi,vP func103 vi,vP func133 vi,vP func134 vi,vP func147 vi,vP func148 vi,vP func149 vi,vP func217 vi,vP func150 vi,vP func151 vi,vP func158 vi,vP func159 vi,vP func160 vi,vP func162 vi,vP func163 vi,vP func164 vi,vP func165 vi,vP func166 vi,vP func145 vi,vP func169 vi,vP func170 vi,trivial⟩
def qZ:V->Bool
 | .agg [.int .i64 _,.bool _,.str _,.str _,.int .i64 _,.str _,.bool _]=>true
 |_=>false
def nz:V->Bool
 | .ad=>true
 | .sl _ _=>true
 |_=>false
def qD:V->Bool
 | .agg [.int .i64 _,.int .i64 _,.str _,.str _,a,s,.str _]=>nz a&&nz s
 |_=>false
def WG(a:V->V->Option Bool)(c:uZ)(n:V):uZ->Option u2
 |[]=>some []
 | .int .i64 i::r=>if 0<=i then(c[i.toNat]?).bind λy=>if qZ y then(a y n).bind λb=>(WG a c n r).map λs=>(if b then 49 else 48)::s else none else none
 |_::_=>none
def nC:V->Option uZ
 | .ad=>some []
 | .sl a _=>some a
 |_=>none
def lP(b:V->V->Option Bool)(I:hN):uZ->AW
 |[.ptr o c,n,z]=>(hN.get I o).bind λf=>(f[c]?).bind λa=>(nC a).bind λd=>(nC z).bind λe=>if V.aL 0 d&&V.rb 0 n&&qD n&&decide (e.length<=1000)&&decide (d.length<=1000)then(WG b d n e).map V.str else none
 |_=>none
def lQ(a:V->V->Option Bool)(xs:uZ)(I:hN):R6:=(lP a I xs).map λv=>(v,I)
def ko(c:Int):u2->Nat->Int
 |[],_ => -1
 |b::r,i=>if(b.toNat:Int)=c then i else ko c r (i+1)
def mr:uZ->hN->R6
 |[.str s,.int .u8 c],I=>if 0<=c/\c<=255 then some (.int .i64 (ko c s 0),I)else none
 |_,_=>none
variable{D X:World}{J:wk}{K:Obj}{L:Addr}{P:TypeId}
section
open Go.RowKit
def db{q:Type}(f:q->Value)(d:q)(base:Nat)(w:World)(a:Option Addr)(n c:Nat)(xs:List q):Prop:=
 xs.length=n/\n<=c/\c<=maxLen/\(0<n->∃b e,a=some ⟨b,e,none⟩/\base<=b/\b<w.heap.size/\∀j,j<n->w.cell? ⟨b,e+j,none⟩=some (f (xs.getD j d)))
section
variable{q:Type}{f:q->Value}{d:q}{base:Nat}{w w':World}{a:Option Addr}{n c:Nat}{xs:List q}{v:Value}
def db.len(h:db f d base w a n c xs):xs.length=n:=h.1
def db.nD(h:db f d base w a n c xs):n<=c:=h.2.1
def db.le(h:db f d base w a n c xs):n<=9223372036854775807:=by have e:=h.2.1;have b:=h.2.2.1;simp only[maxLen]at b;omega
def db.at(h:db f d base w a n c xs)(e:0<n):
  ∃b off,a=W ⟨b,off,none⟩/\base<=b/\b<w.heap.size/\∀j,j<n->w.cell? ⟨b,off+j,none⟩=W (f (xs.getD j d)):=h.2.2.2 e
def db.mono(h:db f d base w a n c xs)(s:H<=base):db f d H w a n c xs:=by obtain⟨k,l,m,o⟩:=h;refine⟨k,l,m,λp => ?_⟩;have⟨b,i,e,q,j,r⟩:=o p;exact⟨b,i,e,by omega,j,r⟩
def db.mq(h:db f d base w a n c xs)(l:Below H w w')(m:w.heap.size<=H):db f d base w' a n c xs:=by obtain⟨o,q,r,s⟩:=h;refine⟨o,q,r,λt => ?_⟩;have⟨b,g,e,k,i,u⟩:=s t;refine⟨b,g,e,k,Hj i l.size,λj v => ?_⟩;rw[l.cell (p:=⟨b,g+j,none⟩) (Hj i m)];exact u j v
def db.cG(h:db f d base w a n c xs)(b:Below w.heap.size w w'):db f d base w' a n c xs:=h.mq b (vE _)
def db.drew(h:db f d base w a n c xs):db f d base w.drew a n c xs:=h.cG (Below.refl _ _).drew
def db.setCell(h:db f d base w a n c xs)(v:L.block<base)(u:Value):db f d base (w.setCell L u) a n c xs:=by obtain⟨l,m,o,q⟩:=h;refine⟨l,m,o,λr => ?_⟩;have⟨b,g,e,i,k,s⟩:=q r;refine⟨b,g,e,i,by simpa[World.setCell]using k,λj t => ?_⟩;rw[World.cell?_of_block (w:=w) (Below.heap_setCell w L u b Y)];exact s j t
def db.nil(f:q->Value)(d:q)(base:Nat)(w:World):db f d base w none 0 0 []:=⟨rfl,vE _,by simp[maxLen],λh=>absurd h (Nat.lt_irrefl _)⟩
def db.take(h:db f d base w a n c xs)(m c':Nat)(t:m<=n)(o:m<=c')(g:c'<=c):db f d base w a m c' (xs.take m):=by obtain⟨u,v,p,q⟩:=h;refine⟨yZ,o,zr g p,λx => ?_⟩;have⟨b,i,e,k,l,r⟩:=q Y;refine⟨b,i,e,k,l,λj s => ?_⟩;rw[r j Y];simp[y9,s]
end
def jb{q:Type}(f:q->Value)(d:q)(base:Nat)(w:World)(v:Value)(xs:List q):Prop:=∃a n c,v=.slice a n c/\db f d base w a n c xs
def jb.cG{q}{f:q->Value}{d base w w' v}{xs:List q}(h:jb f d base w v xs)(b:Below w.heap.size w w'):jb f d base w' v xs:=
 let ⟨a,n,c,e,g⟩:=h;⟨a,n,c,e,g.cG b⟩
def jb.mono{q}{f:q->Value}{d base b w v}{xs:List q}(h:jb f d base w v xs)(g:b<=base):jb f d b w v xs:=
 let ⟨a,n,c,e,i⟩:=h;⟨a,n,c,e,i.mono g⟩
def jb.setCell{q}{f:q->Value}{d base w v}{xs:List q}(h:jb f d base w v xs)(b:L.block<base)(u:Value):jb f d base (w.setCell L u) v xs:=
 let ⟨a,n,c,e,g⟩:=h;⟨a,n,c,e,g.setCell b u⟩
def X0{b:Nat}(h:D.heap[b]?=W (.cells J P (0,0)))(i:Nat)(v:Value):
  (D.setCell ⟨b,i,none⟩ v).heap[b]?=W (.cells (J.setIfInBounds i v) P (0,0)):=by
 simp[World.setCell,Xf,h]
def Qxa{b:Nat}(h:D.heap[b]?=W K)(a:Below H D X)(c:b<H):X.heap[b]?=some K:=by rw[a.block b c];exact h
def Qxb{b:Nat}(h:D.heap[b]?=W K):b<D.heap.size:=(Fa.1 h).1
def G9{b:Nat}(h:D.heap[b]?=W (.cells J P (0,0)))(i:Nat):D.cell? ⟨b,i,none⟩=J[i]?:=by unfold World.cell?; simp[h]
def X4{b:Nat}(h:D.heap[b]?=W (.cells J P (0,0)))(i:Nat):D.frozen? ⟨b,i,none⟩=T:=by unfold World.frozen?; simp[h]
abbrev VB:Bool->Value:=Value.bool
abbrev VI:Int->Value:=Value.int .i64
def Ez(w:World)(o:Obj):Below w.heap.size w (w.alloc o):=(Below.refl _ _).alloc (vE _) o
def Wk7(b off j:Nat):(⟨b,off,none⟩:Addr).add j=⟨b,off+j,none⟩:=by unfold Addr.add;split<;>simp_all
def db.news{q}{f:q->Value}{d base w a n c}{xs:List q}(h:db f d base w (W a) n c xs):∀j u,(xs.map f)[j]?=W u->w.cell? (a.add j)=some u:=by
 intro j u g;have m:=h.len;have i:j<n:=by
  rcases Hn j n with h|h
  ·exact h
  ·rw[B0 yZ]at g;cases g
 have⟨b,k,e,_,_,l⟩:=h.at Y;simp only[vU]at e;subst e;rw[Wk7,l j i];rw[ym,vO Y]at g;simp only[A0,vU]at g;rw[<-g];simp[List.getD,show j<xs.length by omega]
def im{q:Type}(g:q->vB)(sz:Nat)(d:q)(w:World)(a:Option Addr)(n c:Nat)(xs:List q):Prop:=
 xs.length=n/\n<=c/\c<=maxLen/\(0<n->∃b e,a=some ⟨b,e,none⟩/\b<w.heap.size/\∀j,j<n->∀i v,(g (xs.getD j d))[i]?=some v->w.cell? ⟨b,e+j*sz+i,none⟩=some v)
def im.len{q}{g:q->vB}{sz d w a n c}{xs:List q}(h:im g sz d w a n c xs):xs.length=n:=h.1
def im.nD{q}{g:q->vB}{sz d w a n c}{xs:List q}(h:im g sz d w a n c xs):n<=c:=h.2.1
def im.le{q}{g:q->vB}{sz d w a n c}{xs:List q}(h:im g sz d w a n c xs):n<=9223372036854775807:=by have e:=h.2.1;have b:=h.2.2.1;simp only[maxLen]at b;omega
def im.cG{q}{g:q->vB}{sz d w w' a n c}{xs:List q}(h:im g sz d w a n c xs)(l:Below w.heap.size w w'):im g sz d w' a n c xs:=by obtain⟨m,o,r,s⟩:=h;refine⟨m,o,r,λt => ?_⟩;have⟨b,f,e,k,u⟩:=s t;refine⟨b,f,e,Hj k l.size,λj x i v y => ?_⟩;rw[l.cell (p:=⟨b,f+j*sz+i,none⟩) k];exact u j x i v y
def im.at{q}{g:q->vB}{sz d w a n c}{xs:List q}(h:im g sz d w a n c xs)(e:0<n):
  ∃b off,a=W ⟨b,off,none⟩/\b<w.heap.size/\∀j,j<n->∀i v,(g (xs.getD j d))[i]?=W v->w.cell? ⟨b,off+j*sz+i,none⟩=some v:=h.2.2.2 e
def Qni{b:Nat}(h:D.heap[b]?=W K)(a:Below D.heap.size D X):X.heap[b]?=some K:=Qxa h a (Qxb h)
end
end Go.Ev
