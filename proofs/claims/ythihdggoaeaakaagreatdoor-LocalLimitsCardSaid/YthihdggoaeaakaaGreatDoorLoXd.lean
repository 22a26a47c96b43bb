/- Part of a proof: the small language, and functions of the program on it. -/
import Derived.Test.YthihdggoaeaakaaGreatDoorLoXc
import Derived.LaidEql
import Derived.Stop.Asserts
import Derived.RowKitTokens
import Derived.Lib.IndexMore
import Derived.Attr
set_option linter.all false
set_option maxHeartbeats 4000000
set_option maxRecDepth 100000
open Go.Proofs.Tryz
namespace Go.Ev
open Go Go.Proofs Go.Proofs.YthihdggoaeaakaaGreatDoor
variable(h1:Sem Value)(h2:TypeId->Addr->Nat->Nat->Sem Value)(e0:u_)(h3:Lp)(r:Int)(U:Addr)(g8:Nat->V)(g9:List (Nat×Nat))(a1:V)(A R:UInt8)(c0:Value)(g3:Addr)(K:World)(b8:UInt8)(C:Nat)(D:u2)(c2:Nat)(c8:Int)(c5:hN)(L:Ev.Fn)
section
open Go.RowKit Go.Extern.Stop Go.Stop Go.Extern
def Tryz.jc(t:Addr)(w:World):(ReflectliteValue.unpack (.iface 68 (.pointer (W t)))).run prog w
  = .ok (.agg #[.pointer (W ⟨8,68,none⟩),.pointer (W ⟨w.heap.size,0,none⟩),.int .u64 150]) (w.alloc (.cells #[.pointer (W t)] 68)):=X0K
def Tryz.kq:(ReflectliteValue.methodAny (ReflectliteValue.valueError "reflectlite.Value.Type" 0) (λt _ _ _=>ReflectliteType.toType t) #[.agg #[.pointer (W ⟨8,68,none⟩),.pointer (W U),.int .u64 150]]).run prog K
  = .ok (.iface 127 (.agg #[.pointer (W ⟨8,68,none⟩)])) K:=X0K
def Tryz.iF:(Go.method 378 127 (.agg #[c0]) "Kind").run prog K=.ok (189,c0) K:=X0K
def Tryz.kr:((ReflectliteType.abiMethod λt=>Functor.map (λa:Nat=>Value.int IntKind.u8 (a:Int)) (Rtype.kind t)) #[.pointer (W ⟨8,68,none⟩)]).run prog K=.ok (.int .u8 22) K:=X0K
def Tryz.ku:((ReflectliteType.abiMethod λt=>Functor.map (λa:Nat=>Value.int IntKind.u8 (a:Int)) (Rtype.kind t)) #[.pointer (W ⟨8,66,none⟩)]).run prog K=.ok (.int .u8 22) K:=X0K
def uq:
  ReflectliteValue.method h1 h2 #[c0]=(do match <-ReflectliteValue.parts c0 with|none=>h1|some (t,a,b)=>h2 t a b (b%32)):=rfl
def Tryz.iq:(ReflectliteValue.parts (.agg #[.pointer (W ⟨8,68,none⟩),.pointer (W U),.int .u64 150])).run prog K=.ok (W (68,U,150)) K:=X0K
def Tryz.j0(b:World)(c:b.cell? U=W (.pointer (W g3))):
  (ReflectliteValue.method (ReflectliteValue.valueError "reflectlite.Value.IsNil" 0) ReflectliteValue.isNil #[.agg #[.pointer (W ⟨8,68,none⟩),.pointer (W U),.int .u64 150]]).run prog b=.ok (.bool T) b:=by
 rw[uq];simp only[Sem.run_bind,Tryz.iq,Result.andThen];simp[ReflectliteValue.isNil,loadVar,isAgg,underlying,Tryz.underlying68,c,Result.andThen]
def Tryz.iG:(Go.method 378 127 (.agg #[c0]) "Elem").run prog K=.ok (201,.agg #[c0]) K:=X0K
def Tryz.fo:(Go.method 378 127 (.agg #[c0]) "Implements").run prog K=.ok (202,.agg #[c0]) K:=X0K
def Tryz.eW:(Go.method 378 127 (.agg #[c0]) "AssignableTo").run prog K=.ok (199,.agg #[c0]) K:=X0K
def Tryz.kv:(ReflectliteType.method ReflectliteType.elem #[.agg #[.pointer (W ⟨8,68,none⟩)]]).run prog K=.ok (.iface 127 (.agg #[.pointer (W ⟨8,66,none⟩)])) K:=X0K
def Tryz.hJ:(ReflectliteType.relation "Implements" ReflectliteType.implements_ #[.agg #[.pointer (W ⟨8,66,none⟩)],.iface 127 (.agg #[.pointer (W ⟨8,28,none⟩)])]).run prog K=.ok (.bool true) K:=X0K
def Tryz.jB:(ReflectliteType.typeOf #[.iface 66 c0]).run prog K=.ok (.iface 127 (.agg #[.pointer (W ⟨8,66,none⟩)])) K:=X0K
def Tryz.hK:(ReflectliteType.relation "AssignableTo" ReflectliteType.assignableTo #[.agg #[.pointer (W ⟨8,66,none⟩)],.iface 127 (.agg #[.pointer (W ⟨8,66,none⟩)])]).run prog K=.ok (.bool true) K:=X0K
def Tryz.jd:(ReflectliteValue.unpack (.iface 66 (.pointer (W U)))).run prog K
  = .ok (.agg #[.pointer (W ⟨8,66,none⟩),.pointer (W ⟨K.heap.size,0,none⟩),.int .u64 150]) (K.alloc (.cells #[.pointer (W U)] 66)):=X0K
def Tryz.jC:(Rtype.elem? 68).run prog K=.ok (W 66) K:=X0K
def Tryz.uV:(ReflectliteValue.mk 66 U ReflectliteValue.flagAddr).run prog K=.ok (.agg #[.pointer (W ⟨8,66,none⟩),.pointer (W U),.int .u64 406]) K:=X0K
def Tryz.j1(b:World)(c:b.cell? U=W (.pointer (W g3))):
  (ReflectliteValue.method (ReflectliteValue.valueError "reflectlite.Value.Elem" 0) ReflectliteValue.elem #[.agg #[.pointer (W ⟨8,68,none⟩),.pointer (W U),.int .u64 150]]).run prog b
   = .ok (.agg #[.pointer (W ⟨8,66,none⟩),.pointer (W g3),.int .u64 406]) b:=by
 rw[uq];simp only[Sem.run_bind,Tryz.iq,Result.andThen];simp[ReflectliteValue.elem,loadVar,isAgg,underlying,Tryz.underlying68,c,Result.andThen,Tryz.jC,Tryz.uV]
def uB(v x:Value):ReflectliteValue.set #[v,x]=(do
  let (some (c,a,e),some (src,b,_)):=(<-ReflectliteValue.parts v,<-ReflectliteValue.parts x)
   |unsupported (.noEntry "extern/(internal/reflectlite.Value).Set.zeroValue")
  if e/ReflectliteValue.flagAddr%2==0 then unsupported (.noEntry "extern/(internal/reflectlite.Value).Set.unaddressable")
  let d <-loadVar src b
  if <-Rtype.directlyAssignable c src then storeVar c a d
  else if <-Rtype.implements c src then
   if(<-Rtype.kind src)==20 then
    match d with
    | .nilIface=>unsupported (.noEntry "extern/reflectlite: a nil value of one interface type handed on as a value of another")
    |_=>storeVar c a d
   else storeVar c a (.iface src d)
  else panicString ("reflectlite.Set: value of type " ++ (<-Rtype.spelt src) ++ " is not assignable to type " ++ (<-Rtype.spelt c))
  pure (.tuple #[])):=rfl
def Tryz.jD:(ReflectliteValue.parts (.agg #[.pointer (W ⟨8,66,none⟩),.pointer (W U),.int .u64 406])).run prog K=.ok (W (66,U,406)) K:=X0K
def Tryz.j2:(ReflectliteValue.parts (.agg #[.pointer (W ⟨8,66,none⟩),.pointer (W U),.int .u64 150])).run prog K=.ok (W (66,U,150)) K:=X0K
def Tryz.jE:(Rtype.directlyAssignable 66 66).run prog K=.ok true K:=X0K
def Tryz.kX(b e:Addr)(d:Value)(a:World)(f:a.cell? b=some (.pointer (some e)))(g:a.cell? U=some d)(h:a.frozen? U=false):
  (ReflectliteValue.set #[.agg #[.pointer (some ⟨8,66,none⟩),.pointer (some U),.int .u64 406],.agg #[.pointer (some ⟨8,66,none⟩),.pointer (some b),.int .u64 150]]).run prog a
   = .ok (.tuple #[]) (a.setCell U (.pointer (some e))):=by
 rw[uB];simp only[Sem.run_bind,Tryz.jD,Tryz.j2,Result.andThen];simp[ReflectliteValue.flagAddr,loadVar,isAgg,underlying,Tryz.underlying66,f,Result.andThen,Tryz.jE,storeVar,Value.cells,storeCells,Addr.add];rw[Go.run_store prog a U _ _ (by rfl)];simp[g,h]
set_option maxHeartbeats 4000000 in
def Wvo(t:Addr)(a:Value)(w:World)(i:w.cell? ⟨0,0,none⟩=W (.iface 127 (.agg #[.pointer (W ⟨8,28,none⟩)])))(b:w.cell? t=W a)(f:w.frozen? t=T):
  Calls prog 27 #[.iface 66 (.pointer (W U)),.iface 68 (.pointer (W t))] w λev w'=>ev=.returned (.bool true)/\w'=((((w.alloc (.cells #[.pointer (W t)] 68)).alloc (.cells #[.pointer (W ⟨8,68,none⟩),.pointer (W ⟨w.heap.size,0,none⟩),.int .u64 150] 90)).alloc (.cells #[.pointer (W ⟨8,68,none⟩),.pointer (W ⟨w.heap.size,0,none⟩),.int .u64 150] 90)).alloc (.cells #[.pointer (W U)] 66)).setCell t (.pointer (W U)):=by
 have z:=@run_callFunc_extern prog 45 _ (λc=>ReflectliteValue.unpack (c.getD 0 (.tuple #[]))) func45 X0K X0K X0K X0K;have A:=@run_callFunc_extern prog 46 _ (ReflectliteValue.methodAny (ReflectliteValue.valueError "reflectlite.Value.Type" 0) (λt _ _ _=>ReflectliteType.toType t)) func46 X0K X0K X0K X0K;have B:=@run_callFunc_extern prog 47 _ (ReflectliteValue.method (ReflectliteValue.valueError "reflectlite.Value.IsNil" 0) ReflectliteValue.isNil) func47 X0K X0K X0K X0K;have j:=@run_callFunc_extern prog 189 _ (ReflectliteType.abiMethod λt=>do pure (.int .u8 (<-Rtype.kind t))) func189 X0K X0K X0K X0K;have k:=@run_callFunc_extern prog 201 _ (ReflectliteType.method ReflectliteType.elem) func201 X0K X0K X0K X0K;have l:=@run_callFunc_extern prog 202 _ (ReflectliteType.relation "Implements" ReflectliteType.implements_) func202 X0K X0K X0K X0K;have m:=@run_callFunc_extern prog 72 _ ReflectliteType.typeOf func72 X0K X0K X0K X0K;have n:=@run_callFunc_extern prog 199 _ (ReflectliteType.relation "AssignableTo" ReflectliteType.assignableTo) func199 X0K X0K X0K X0K;have o:=@run_callFunc_extern prog 73 _ (ReflectliteValue.method (ReflectliteValue.valueError "reflectlite.Value.Elem" 0) ReflectliteValue.elem) func73 X0K X0K X0K X0K;have p:=@run_callFunc_extern prog 74 _ ReflectliteValue.set func74 X0K X0K X0K X0K;have C:=Tryz.jB;have D:=Tryz.eW;have q:=Tryz.hK;have r:=Tryz.jd;have f6:=Tryz.jc;have f7:=Tryz.kq;have E:=Tryz.iF;have F:=Tryz.iG;have G:=Tryz.fo;have s:=Tryz.kr;have u:=Tryz.ku;have v:=Tryz.kv;have x:=Tryz.hJ;have H:=Tryz.j0 ⟨w.heap.size,0,none⟩ t ((w.alloc (.cells #[.pointer (W t)] 68)).alloc (.cells #[.pointer (W ⟨8,68,none⟩),.pointer (W ⟨w.heap.size,0,none⟩),.int .u64 150] 90)) u0;have g:0<w.heap.size:=World.block_lt_of_cell? w _ i;have y:((w.alloc (.cells #[.pointer (W t)] 68)).alloc (.cells #[.pointer (W ⟨8,68,none⟩),.pointer (W ⟨w.heap.size,0,none⟩),.int .u64 150] 90)).cell? ⟨0,0,none⟩=W (.iface 127 (.agg #[.pointer (W ⟨8,28,none⟩)])):=by rw[World.cell?_alloc_lt _ _ ⟨0,0,none⟩ u0,World.cell?_alloc_lt _ _ ⟨0,0,none⟩ g];exact i
 have d:t.block<w.heap.size:=by
  rcases Hn t.block w.heap.size with h|h
  ·exact h
  ·simp[World.cell?,T7 h]at b
 have el:=Tryz.j1 ⟨w.heap.size,0,none⟩ t (((w.alloc (.cells #[.pointer (W t)] 68)).alloc (.cells #[.pointer (W ⟨8,68,none⟩),.pointer (W ⟨w.heap.size,0,none⟩),.int .u64 150] 90)).alloc (.cells #[.pointer (W ⟨8,68,none⟩),.pointer (W ⟨w.heap.size,0,none⟩),.int .u64 150] 90)) (by rw[World.cell?_alloc_lt _ _ ⟨w.heap.size,0,none⟩ yZ];simp);have I:=Tryz.kX t ⟨w.heap.size+1+1+1,0,none⟩ U a ((((w.alloc (.cells #[.pointer (W t)] 68)).alloc (.cells #[.pointer (W ⟨8,68,none⟩),.pointer (W ⟨w.heap.size,0,none⟩),.int .u64 150] 90)).alloc (.cells #[.pointer (W ⟨8,68,none⟩),.pointer (W ⟨w.heap.size,0,none⟩),.int .u64 150] 90)).alloc (.cells #[.pointer (W U)] 66))
  (by rw[World.cell?_alloc_at _ _ _ _ u0];rfl)
  (by rw[World.cell?_alloc_lt _ _ t yZ,World.cell?_alloc_lt _ _ t yZ,World.cell?_alloc_lt _ _ t yZ,World.cell?_alloc_lt _ _ t d];exact b)
  (by rw[World.frozen?_alloc_old _ _ t yZ,World.frozen?_alloc_old _ _ t yZ,World.frozen?_alloc_old _ _ t yZ,World.frozen?_alloc_old _ _ t (Nat.ne_of_lt d)];exact f)
 go_enter func27,Tryz.ntmps27
 go_wp2
 refine wp_loop_rounds 1 ?_;rw[rounds_succ]
 go_wp2
 go_ret
 exact⟨rfl,rfl⟩
end
variable{d F b9:Nat}{g c9:uZ}{w c3:V}{y:hN}{c6:World}{e2:vn}{e3:bk}{e6:Value}{g5:Nat->Prop}{g6:Ev.cY}{g7:vB}
section
open Go.RowKit
def IN(w:World):Prop:=w.cell? ⟨0,0,none⟩=some (.iface 127 (.agg #[.pointer (some ⟨8,28,none⟩)]))
def IN.cG{w:World}(h:IN w)(a:Below w.heap.size w c6):IN c6:=by unfold IN at*;rw[a.cell (p:=⟨0,0,none⟩) (World.block_lt_of_cell? w _ h)];exact h
def Wk8:Calls prog 9 #[.nilIface] K λe w'=>e=.returned (.int .i64 0)/\K=w':=by
 go_enter func9,Tryz.ntmps9
 go_wp2
 go_ret
 exact⟨rfl,rfl⟩
def Wfp(b o:Nat)(w:World)(d:IN w):
  Calls prog 27 #[.iface 66 (.pointer (W ⟨b,o,none⟩)),.iface 68 (.pointer (W ⟨w.heap.size,0,none⟩))] (w.alloc (.cells #[.pointer none] 66)) λe w'=>e=.returned (.bool true)/\w'.cell? ⟨w.heap.size,0,none⟩=W (.pointer (W ⟨b,o,none⟩))/\Below w.heap.size w w':=by
 refine(Wvo ⟨b,o,none⟩ ⟨w.heap.size,0,none⟩ (.pointer none) _ ?_ ?_ ?_).mono ?_
 ·exact IN.cG d (Ez _ _)
 ·rw[G9 (heap_alloc_new w _)];rfl
 ·exact X4 (heap_alloc_new w _) 0
 ·rintro e w' ⟨rfl,rfl⟩;have f:Below w.heap.size w (((((w.alloc (.cells #[.pointer none] 66)).alloc (.cells #[.pointer (W ⟨w.heap.size,0,none⟩)] 68)).alloc (.cells #[.pointer (W ⟨8,68,none⟩),.pointer (W ⟨(w.alloc (.cells #[.pointer none] 66)).heap.size,0,none⟩),.int .u64 150] 90)).alloc (.cells #[.pointer (W ⟨8,68,none⟩),.pointer (W ⟨(w.alloc (.cells #[.pointer none] 66)).heap.size,0,none⟩),.int .u64 150] 90)).alloc (.cells #[.pointer (W ⟨b,o,none⟩)] 66)):=by refine((((Ez _ _).trans ((Ez _ _).mono ?_)).trans ((Ez _ _).mono ?_)).trans ((Ez _ _).mono ?_)).trans ((Ez _ _).mono ?_)<;>simp<;>omega
  refine⟨rfl,?_,f.setCell (vE _) _⟩;generalize g:(((((w.alloc (.cells #[.pointer none] 66)).alloc (.cells #[.pointer (W ⟨w.heap.size,0,none⟩)] 68)).alloc (.cells #[.pointer (W ⟨8,68,none⟩),.pointer (W ⟨(w.alloc (.cells #[.pointer none] 66)).heap.size,0,none⟩),.int .u64 150] 90)).alloc (.cells #[.pointer (W ⟨8,68,none⟩),.pointer (W ⟨(w.alloc (.cells #[.pointer none] 66)).heap.size,0,none⟩),.int .u64 150] 90)).alloc (.cells #[.pointer (W ⟨b,o,none⟩)] 66))=a;have c:a.heap[w.heap.size]?=W (.cells #[.pointer none] 66 (0,0)):=by rw[<-g];refine Qni (Qni (Qni (Qni (heap_alloc_new _ _) (Ez _ _)) (Ez _ _)) (Ez _ _)) (Ez _ _)
  rw[G9 (X0 c 0 _)];rfl
def Quj{w':World}{b:Nat}(h:c6.cell? ⟨b,d,none⟩=W e6)(a:Below c6.heap.size c6 w'):w'.cell? ⟨b,d,none⟩=some e6:=by rw[a.cell (p:=⟨b,d,none⟩) (World.block_lt_of_cell? c6 _ h)];exact h
set_option maxHeartbeats 400000 in
def Wvp(b o:Nat)(k:Int)(w:World)(c:IN w)(d:w.cell? ⟨b,o,none⟩=W (.int .i64 k)):
  Calls prog 9 #[.iface 66 (.pointer (W ⟨b,o,none⟩))] w λe w'=>e=.returned (.int .i64 k)/\Below w.heap.size w w':=by
 have f:=Lib.hid (Wfp b o w c);have g:=Lib.hid d;clear c d
 go_enter func9,Tryz.ntmps9
 go_wp2_with fail
 refine f.out.mono ?_;rintro e h ⟨rfl,i,a⟩;have j:h.cell? ⟨b,o,none⟩=W (.int .i64 k):=Quj g.out a
 go_wp2
 go_ret
 exact⟨rfl,a⟩
set_option maxHeartbeats 400000 in
def tz(b o:Nat)(a:Int)(w:World)(d:IN w)(f:w.cell? ⟨b,o+1,none⟩=W (.int .i64 a)):
  Calls prog 10 #[.iface 66 (.pointer (W ⟨b,o,none⟩))] w λe w'=>e=.returned (.int .i64 a)/\Below w.heap.size w w':=by
 have g:=Lib.hid (Wfp b o w d);have h:=Lib.hid f;clear d f
 go_enter func10,Tryz.ntmps10
 go_wp2_with fail
 refine g.out.mono ?_;rintro e i ⟨rfl,j,c⟩;have k:i.cell? ⟨b,o+1,none⟩=W (.int .i64 a):=Quj h.out c
 go_wp2
 go_ret
 exact⟨rfl,c⟩
def lU(g:Nat->V)(a:List (Nat×Nat)):GV:=⟨g,[(0,0,.iface 127 (.agg #[.pointer (some ⟨8,28,none⟩)]))],a⟩
def R1:uZ->hN->R6
 |[.bc],I=>some (.int .i64 0,I)
 |[.bE t (.ai (.int .i64 k::_) 0)],I=>if t=66 then some (.int .i64 k,I)else none
 |_,_=>none
def q6:uZ->hN->R6
 |[.bE t (.ai (_ :: .int .i64 a::_) 0)],I=>if t=66 then some (.int .i64 a,I)else none
 |_,_=>none
def Quk{U:Nat->V}{a:List (Nat×Nat)}(h:St e2 e3 g5 g6 c6 g7 g y)(b:dJ (lU U a) e2 e3):IN c6:=
 h.wd.mem _ _ _ (b.ex _ (wA ..))
def Qul(h:St e2 e3 g5 g6 c6 g7 g y){t:TypeId}(f:aB e2 e3 e6 (.bE t (.ai c9 0))):
  ∃b o,e6=.iface t (.pointer (W ⟨b,o,none⟩))/\∀(i:Nat) k n,c9[i]?=W (.int k n)->c6.cell? ⟨b,o+i,none⟩=W (.int k n):=by
 cases f with
 |bE _ u _ I=>obtain⟨b,a,j,rfl,d,l⟩:=I.eh;refine⟨b,a,rfl,λi k n m => ?_⟩;have⟨u,c,e⟩:=d.get m;rw[e.ba]at c;exact h.wd.mem _ _ _ (l i _ c)
def Qxc{vs:wk}(h:aq e2 e3 vs.toList [w]):∃v,vs=#[v]/\aB e2 e3 v w:=by have b:=h.1;obtain⟨v,a⟩:∃v,vs.toList=[v]:=T8.1 (by simpa using b);refine⟨v,by apply AU;simpa using a,?_⟩;rw[a]at h;exact h.head
def Qxd:bL prog (lU g8 g9) 9 R1:=by
 refine bL.gj λf I r n a => ?_;have c d w:(callFunc 9 d).run prog w=.ok (.enter 9 d) w:=ZR func9 rfl X0K d;unfold R1 at a;split at a
 ·cases a;refine⟨rfl,rfl,λM J X D w d h k=>⟨c _ _,_,.int _ _,?_⟩⟩;obtain⟨v,rfl,b⟩:=Qxc h.bC;cases b;exact(Wk8 w).mono λe l ⟨a,j⟩=>⟨a,by subst j;exact Below.refl _ _⟩
 ·split at a
  ·rename_i t k p _ l;cases a;subst l;refine⟨rfl,rfl,λM J X D w d h e=>⟨c _ _,_,.int _ _,?_⟩⟩;obtain⟨v,rfl,j⟩:=Qxc h.bC;obtain⟨b,o,rfl,m⟩:=Qul h j;exact Wvp b o _ w (Quk h e) (m 0 _ _ rfl)
  ·cases a
 ·cases a
def Wfq:bL prog (lU g8 g9) 10 q6:=by
 refine bL.gj λi I r p d => ?_;have e f w:(callFunc 10 f).run prog w=.ok (.enter 10 f) w:=ZR func10 rfl X0K f;unfold q6 at d;split at d
 ·split at d
  ·rename_i t c a q _ k;cases d;subst k;refine⟨rfl,rfl,λM J X D w f h l=>⟨e _ _,_,.int _ _,?_⟩⟩;obtain⟨v,rfl,m⟩:=Qxc h.bC;obtain⟨b,o,rfl,n⟩:=Qul h m;exact tz b o _ w (Quk h l) (n 1 _ _ rfl)
  ·cases d
 ·cases d
end
section
variable{P:Program}{G:GV}
end
def Mw:uZ->Option u_
 |[]=>some []
 | .int .i64 n::r=>(Mw r).map (n :: ·)
 |_=>none
def vg(a:u_):u_:=a.mergeSort λx y=>decide (x<=y)
def Wk9:uZ->hN->R6
 |[.hs o 0 a 1 false],I=>(hN.get I o).bind λc=>(Mw c).bind λb=>if b.length=a/\a<4611686018427387904 then some (.aR [],I.set o (.cells ((vg b).map (.int .i64))))else none
 |_,_=>none
def Wla:uZ->hN->R6
 |[.str s,.str t],I=>if s.length<4294967281 then some (.bool (Lib.contains s t),I)else none
 |_,_=>none
def DI:List u2:=[[104,111,118,101,114],[97,99,116,105,118,101],[102,111,99,117,115],[102,111,99,117,115,45,118,105,115,105,98,108,101],[118,105,115,105,116,101,100],[108,105,110,107],[99,104,101,99,107,101,100],[100,105,115,97,98,108,101,100],[101,110,97,98,108,101,100],[116,97,114,103,101,116]]
def BY:wi:=List.replicate 128 240++List.replicate 66 241++List.replicate 30 2++[19]++List.replicate 12 3++[35]++List.replicate 2 3++[52]++List.replicate 3 4++[68]++List.replicate 11 241
def fu:List (Nat×Nat):=[(128,191),(160,191),(128,159),(144,191),(128,143)]++List.replicate 11 (0,0)
def WK:uZ:=DI.map V.str
def G_:uZ:=BY.map λ(n:Nat)=>V.int .u8 (n:Int)
def kx:uZ:=fu.flatMap λp=>[V.int .u8 (p.1:Int),V.int .u8 (p.2:Int)]
def nI(n:Nat):V:=if n=1 then .ai WK 0 else if n=2 then .ai G_ 0 else if n=3 then .ai kx 0 else .any
def gv:GV:=lU nI [(4,0)]
def Mx(f:FuncId):Option (uZ->hN->R6):=
 if f=117 then some mr else if f=70 then some Wla else if f=113 then some Wk9 else if f=9 then some R1 else if f=10 then some q6 else none
def ml:wi:=[158,162,168,147,160,164,82,57]
def ur(f:FuncId):Bool:=!(ml.contains f)
def cx:Ctx:=⟨gv,Qw8,Mx,ur⟩
noncomputable abbrev QaT:=Mi cx
def Wq2:Mx 9=some R1:=X0K
abbrev iI(n:Int):V:=.int .i64 n
def En(B:Rk->Rk){L:Rk}(a:h3.F QaT C=B:=by kernel_rfl)(b:L=dG B:=by kernel_rfl):L g y=B L g y:=Fk cx h3 C a b g y
def Eo(n k:Nat):List Bool:=(List.range n).map k.testBit
noncomputable def Ep(n:Nat)(ls:List (Nat×Rk))(bs:List Bool)(F:Ev.Fn)(a:Nat):=ek (Mi cx) n ls bs F.body (gq F a)
abbrev vL(C:Ctx)(f:FuncId)(s:ah->V->hN->Ro):Prop:=∀ a:V, E C f [a] []=(s (Mi C) a.ng []).bind (u1 [])
variable{b1:FuncId}{c1:Ctx}
def vM{s:ah->V->hN->Ro}(k:∀(M:ah) (a:V) (I:hN),bW M L [a] I=s M a I:=by intros;kernel_rfl)(b:c1.cO b1=none:=by kernel_rfl)(c:c1.code b1=some L:=by kernel_rfl)(d:c1.fr b1:=by kernel_rfl):vL c1 b1 s:=λa=>(vu b c d _).trans (A9e (Option.bind · (u1 [])) (k ..))
abbrev wP(C:Ctx)(f:FuncId)(s:ah->V->V->hN->Ro):Prop:=∀ a b:V, E C f [a,b] []=(s (Mi C) a.ng b.ng []).bind (u1 [])
def wT{s:ah->V->V->hN->Ro}(k:∀(M:ah) (a b:V) (I:hN),bW M L [a,b] I=s M a b I:=by intros;kernel_rfl)(c:c1.cO b1=none:=by kernel_rfl)(d:c1.code b1=some L:=by kernel_rfl)(e:c1.fr b1:=by kernel_rfl):wP c1 b1 s:=λa b=>(vu c d e _).trans (A9e (Option.bind · (u1 [])) (k ..))
abbrev Kw(C:Ctx)(f:FuncId)(s:ah->V->V->V->hN->Ro):Prop:=∀ a b c:V, E C f [a,b,c] []=(s (Mi C) a.ng b.ng c.ng []).bind (u1 [])
def Oj{s:ah->V->V->V->hN->Ro}(k:∀(M:ah) (a b c:V) (I:hN),bW M L [a,b,c] I=s M a b c I:=by intros;kernel_rfl)(d:c1.cO b1=none:=by kernel_rfl)(e:c1.code b1=some L:=by kernel_rfl)(g:c1.fr b1:=by kernel_rfl):Kw c1 b1 s:=λa b c=>(vu d e g _).trans (A9e (Option.bind · (u1 [])) (k ..))
abbrev R8(C:Ctx)(f:FuncId)(s:ah->V->V->V->V->hN->Ro):Prop:=∀ a b c d:V, E C f [a,b,c,d] []=(s (Mi C) a.ng b.ng c.ng d.ng []).bind (u1 [])
def QaZ{s:ah->V->V->V->V->hN->Ro}(k:∀(M:ah) (a b c d:V) (I:hN),bW M L [a,b,c,d] I=s M a b c d I:=by intros;kernel_rfl)(e:c1.cO b1=none:=by kernel_rfl)(g:c1.code b1=some L:=by kernel_rfl)(h:c1.fr b1:=by kernel_rfl):R8 c1 b1 s:=λa b c d=>(vu e g h _).trans (A9e (Option.bind · (u1 [])) (k ..))
abbrev MA(l:ah->Nat->Nat->Rk)(b:ah->Nat->Nat->Rk->V->hN->Ro):Prop:=∀(a:Nat) (c:Nat) (d:V) (I:hN),l (Mi cx) a c [d] I=b (Mi cx) a c (l (Mi cx) a c) d I
variable{b3:ah->Nat->Nat->Rk}
def R9{b:ah->Nat->Nat->Rk->V->hN->Ro}(t p q:Nat)(d:∀(a:Nat) (c:Nat),(Ep t [] (Eo p q) L a).F QaT c=GD (b QaT a c):=by intros;kernel_rfl)(e:∀(a:Nat) (c:Nat),b3 QaT a c=dG (GD (b QaT a c)):=by intros;kernel_rfl):MA b3 b:=λa c f I=>En _ _ _ (d ..) (e ..)
abbrev yx(l:ah->Nat->Nat->Rk)(b:ah->Nat->Nat->Rk->V->V->hN->Ro):Prop:=∀(a:Nat) (c:Nat) (d e:V) (I:hN),l (Mi cx) a c [d,e] I=b (Mi cx) a c (l (Mi cx) a c) d e I
def zh{b:ah->Nat->Nat->Rk->V->V->hN->Ro}(t p q:Nat)(d:∀(a:Nat) (c:Nat),(Ep t [] (Eo p q) L a).F QaT c=AY (b QaT a c):=by intros;kernel_rfl)(e:∀(a:Nat) (c:Nat),b3 QaT a c=dG (AY (b QaT a c)):=by intros;kernel_rfl):yx b3 b:=λa c f g I=>En _ _ _ (d ..) (e ..)
abbrev wg(l:ah->Nat->Nat->Rk)(b:ah->Nat->Nat->Rk->V->V->V->hN->Ro):Prop:=∀(a:Nat) (c:Nat) (d e f:V) (I:hN),l (Mi cx) a c [d,e,f] I=b (Mi cx) a c (l (Mi cx) a c) d e f I
def wj{b:ah->Nat->Nat->Rk->V->V->V->hN->Ro}(t p q:Nat)(d:∀(a:Nat) (c:Nat),(Ep t [] (Eo p q) L a).F QaT c=xa (b QaT a c):=by intros;kernel_rfl)(e:∀(a:Nat) (c:Nat),b3 QaT a c=dG (xa (b QaT a c)):=by intros;kernel_rfl):wg b3 b:=λa c f g h I=>En _ _ _ (d ..) (e ..)
abbrev xp(l:ah->Nat->Nat->Rk)(b:ah->Nat->Nat->Rk->V->V->V->V->hN->Ro):Prop:=∀(a:Nat) (c:Nat) (d e f g:V) (I:hN),l (Mi cx) a c [d,e,f,g] I=b (Mi cx) a c (l (Mi cx) a c) d e f g I
def xF{b:ah->Nat->Nat->Rk->V->V->V->V->hN->Ro}(t p q:Nat)(d:∀(a:Nat) (c:Nat),(Ep t [] (Eo p q) L a).F QaT c=xS (b QaT a c):=by intros;kernel_rfl)(e:∀(a:Nat) (c:Nat),b3 QaT a c=dG (xS (b QaT a c)):=by intros;kernel_rfl):xp b3 b:=λa c f g h i I=>En _ _ _ (d ..) (e ..)
abbrev FJ(l:ah->Nat->Nat->Rk)(b:ah->Nat->Nat->Rk->V->V->V->V->V->hN->Ro):Prop:=∀(a:Nat) (c:Nat) (d e f g h:V) (I:hN),l (Mi cx) a c [d,e,f,g,h] I=b (Mi cx) a c (l (Mi cx) a c) d e f g h I
def Io{b:ah->Nat->Nat->Rk->V->V->V->V->V->hN->Ro}(t p q:Nat)(d:∀(a:Nat) (c:Nat),(Ep t [] (Eo p q) L a).F QaT c=D5 (b QaT a c):=by intros;kernel_rfl)(e:∀(a:Nat) (c:Nat),b3 QaT a c=dG (D5 (b QaT a c)):=by intros;kernel_rfl):FJ b3 b:=λa c f g h i j I=>En _ _ _ (d ..) (e ..)
abbrev CZ(l:ah->Nat->Nat->Rk)(b:ah->Nat->Nat->Rk->V->V->V->V->V->V->hN->Ro):Prop:=∀(a:Nat) (c:Nat) (d e f g h i:V) (I:hN),l (Mi cx) a c [d,e,f,g,h,i] I=b (Mi cx) a c (l (Mi cx) a c) d e f g h i I
def Er{b:ah->Nat->Nat->Rk->V->V->V->V->V->V->hN->Ro}(t p q:Nat)(d:∀(a:Nat) (c:Nat),(Ep t [] (Eo p q) L a).F QaT c=Al (b QaT a c):=by intros;kernel_rfl)(e:∀(a:Nat) (c:Nat),b3 QaT a c=dG (Al (b QaT a c)):=by intros;kernel_rfl):CZ b3 b:=λa c f g h i j k I=>En _ _ _ (d ..) (e ..)
abbrev Ip(l:ah->Nat->Nat->Rk)(b:ah->Nat->Nat->Rk->V->V->V->V->V->V->V->hN->Ro):Prop:=∀(a:Nat) (c:Nat) (d e f g h i j:V) (I:hN),l (Mi cx) a c [d,e,f,g,h,i,j] I=b (Mi cx) a c (l (Mi cx) a c) d e f g h i j I
def MB{b:ah->Nat->Nat->Rk->V->V->V->V->V->V->V->hN->Ro}(t p q:Nat)(d:∀(a:Nat) (c:Nat),(Ep t [] (Eo p q) L a).F QaT c=E1 (b QaT a c):=by intros;kernel_rfl)(e:∀(a:Nat) (c:Nat),b3 QaT a c=dG (E1 (b QaT a c)):=by intros;kernel_rfl):Ip b3 b:=λa c f g h i j k m I=>En _ _ _ (d ..) (e ..)
abbrev MC(l:ah->Nat->Nat->Rk)(b:ah->Nat->Nat->Rk->V->V->V->V->V->V->V->V->hN->Ro):Prop:=∀(a:Nat) (c:Nat) (d e f g h i j z7:V) (I:hN),l (Mi cx) a c [d,e,f,g,h,i,j,z7] I=b (Mi cx) a c (l (Mi cx) a c) d e f g h i j z7 I
def R_{b:ah->Nat->Nat->Rk->V->V->V->V->V->V->V->V->hN->Ro}(t p q:Nat)(d:∀(a:Nat) (c:Nat),(Ep t [] (Eo p q) L a).F QaT c=GF (b QaT a c):=by intros;kernel_rfl)(e:∀(a:Nat) (c:Nat),b3 QaT a c=dG (GF (b QaT a c)):=by intros;kernel_rfl):MC b3 b:=λa c f g h i j k m z7 I=>En _ _ _ (d ..) (e ..)
abbrev MD(l:ah->Nat->Nat->Rk->Nat->Rk)(b:ah->Nat->Nat->Rk->Nat->Rk->V->hN->Ro):Prop:=∀(a:Nat) (c:Nat) (d:Rk) (e:Nat) (f:V) (I:hN),l (Mi cx) a c d e [f] I=b (Mi cx) a c d e (l (Mi cx) a c d e) f I
variable{b4:ah->Nat->Nat->Rk->Nat->Rk}
def R'{b:ah->Nat->Nat->Rk->Nat->Rk->V->hN->Ro}(t p q:Nat)(f:∀(a:Nat) (c:Nat) (d:Rk) (e:Nat),(Ep t [(c,d)] (Eo p q) L a).F QaT e=GD (b QaT a c d e):=by intros;kernel_rfl)(g:∀(a:Nat) (c:Nat) (d:Rk) (e:Nat),b4 QaT a c d e=dG (GD (b QaT a c d e)):=by intros;kernel_rfl):MD b4 b:=λa c d e h I=>En _ _ _ (f ..) (g ..)
abbrev ME(l:ah->Nat->Nat->Rk->Nat->Rk)(b:ah->Nat->Nat->Rk->Nat->Rk->V->V->V->V->hN->Ro):Prop:=∀(a:Nat) (c:Nat) (d:Rk) (e:Nat) (f g h i:V) (I:hN),l (Mi cx) a c d e [f,g,h,i] I=b (Mi cx) a c d e (l (Mi cx) a c d e) f g h i I
def Sa{b:ah->Nat->Nat->Rk->Nat->Rk->V->V->V->V->hN->Ro}(t p q:Nat)(f:∀(a:Nat) (c:Nat) (d:Rk) (e:Nat),(Ep t [(c,d)] (Eo p q) L a).F QaT e=xS (b QaT a c d e):=by intros;kernel_rfl)(g:∀(a:Nat) (c:Nat) (d:Rk) (e:Nat),b4 QaT a c d e=dG (xS (b QaT a c d e)):=by intros;kernel_rfl):ME b4 b:=λa c d e h i j k I=>En _ _ _ (f ..) (g ..)
abbrev MF(l:ah->Nat->Nat->Rk->Nat->Rk)(b:ah->Nat->Nat->Rk->Nat->Rk->V->V->V->V->V->hN->Ro):Prop:=∀(a:Nat) (c:Nat) (d:Rk) (e:Nat) (f g h i j:V) (I:hN),l (Mi cx) a c d e [f,g,h,i,j] I=b (Mi cx) a c d e (l (Mi cx) a c d e) f g h i j I
def Sb{b:ah->Nat->Nat->Rk->Nat->Rk->V->V->V->V->V->hN->Ro}(t p q:Nat)(f:∀(a:Nat) (c:Nat) (d:Rk) (e:Nat),(Ep t [(c,d)] (Eo p q) L a).F QaT e=D5 (b QaT a c d e):=by intros;kernel_rfl)(g:∀(a:Nat) (c:Nat) (d:Rk) (e:Nat),b4 QaT a c d e=dG (D5 (b QaT a c d e)):=by intros;kernel_rfl):MF b4 b:=λa c d e h i j k m I=>En _ _ _ (f ..) (g ..)
abbrev Iq(l:ah->Nat->Nat->Rk->Nat->Rk)(b:ah->Nat->Nat->Rk->Nat->Rk->V->V->V->V->V->V->hN->Ro):Prop:=∀(a:Nat) (c:Nat) (d:Rk) (e:Nat) (f g h i j k:V) (I:hN),l (Mi cx) a c d e [f,g,h,i,j,k] I=b (Mi cx) a c d e (l (Mi cx) a c d e) f g h i j k I
def MG{b:ah->Nat->Nat->Rk->Nat->Rk->V->V->V->V->V->V->hN->Ro}(t p q:Nat)(f:∀(a:Nat) (c:Nat) (d:Rk) (e:Nat),(Ep t [(c,d)] (Eo p q) L a).F QaT e=Al (b QaT a c d e):=by intros;kernel_rfl)(g:∀(a:Nat) (c:Nat) (d:Rk) (e:Nat),b4 QaT a c d e=dG (Al (b QaT a c d e)):=by intros;kernel_rfl):Iq b4 b:=λa c d e h i j k m n I=>En _ _ _ (f ..) (g ..)
abbrev MH(l:ah->Nat->Nat->Rk->Nat->Rk)(b:ah->Nat->Nat->Rk->Nat->Rk->V->V->V->V->V->V->V->V->hN->Ro):Prop:=∀(a:Nat) (c:Nat) (d:Rk) (e:Nat) (f g h i j k m z7:V) (I:hN),l (Mi cx) a c d e [f,g,h,i,j,k,m,z7] I=b (Mi cx) a c d e (l (Mi cx) a c d e) f g h i j k m z7 I
def Sc{b:ah->Nat->Nat->Rk->Nat->Rk->V->V->V->V->V->V->V->V->hN->Ro}(t p q:Nat)(f:∀(a:Nat) (c:Nat) (d:Rk) (e:Nat),(Ep t [(c,d)] (Eo p q) L a).F QaT e=GF (b QaT a c d e):=by intros;kernel_rfl)(g:∀(a:Nat) (c:Nat) (d:Rk) (e:Nat),b4 QaT a c d e=dG (GF (b QaT a c d e)):=by intros;kernel_rfl):MH b4 b:=λa c d e h i j k m n o z7 I=>En _ _ _ (f ..) (g ..)
abbrev MI(l:ah->Nat->Nat->Rk->Nat->Rk)(b:ah->Nat->Nat->Rk->Nat->Rk->V->V->V->V->V->V->V->V->V->hN->Ro):Prop:=∀(a:Nat) (c:Nat) (d:Rk) (e:Nat) (f g h i j k m z7 n:V) (I:hN),l (Mi cx) a c d e [f,g,h,i,j,k,m,z7,n] I=b (Mi cx) a c d e (l (Mi cx) a c d e) f g h i j k m z7 n I
def Sd{b:ah->Nat->Nat->Rk->Nat->Rk->V->V->V->V->V->V->V->V->V->hN->Ro}(t p q:Nat)(f:∀(a:Nat) (c:Nat) (d:Rk) (e:Nat),(Ep t [(c,d)] (Eo p q) L a).F QaT e=NI (b QaT a c d e):=by intros;kernel_rfl)(g:∀(a:Nat) (c:Nat) (d:Rk) (e:Nat),b4 QaT a c d e=dG (NI (b QaT a c d e)):=by intros;kernel_rfl):MI b4 b:=λa c d e h i j k m n o z7 r I=>En _ _ _ (f ..) (g ..)
abbrev MJ(l:ah->Nat->Nat->Rk->Nat->Rk)(b:ah->Nat->Nat->Rk->Nat->Rk->V->V->V->V->V->V->V->V->V->V->hN->Ro):Prop:=∀(a:Nat) (c:Nat) (d:Rk) (e:Nat) (f g h i j k m z7 n o:V) (I:hN),l (Mi cx) a c d e [f,g,h,i,j,k,m,z7,n,o] I=b (Mi cx) a c d e (l (Mi cx) a c d e) f g h i j k m z7 n o I
def Se{b:ah->Nat->Nat->Rk->Nat->Rk->V->V->V->V->V->V->V->V->V->V->hN->Ro}(t p q:Nat)(f:∀(a:Nat) (c:Nat) (d:Rk) (e:Nat),(Ep t [(c,d)] (Eo p q) L a).F QaT e=NJ (b QaT a c d e):=by intros;kernel_rfl)(g:∀(a:Nat) (c:Nat) (d:Rk) (e:Nat),b4 QaT a c d e=dG (NJ (b QaT a c d e)):=by intros;kernel_rfl):MJ b4 b:=λa c d e h i j k m n o z7 r s I=>En _ _ _ (f ..) (g ..)
abbrev ML(l:ah->Nat->Nat->Rk->Nat->Rk)(b:ah->Nat->Nat->Rk->Nat->Rk->V->V->V->V->V->V->V->V->V->V->V->hN->Ro):Prop:=∀(c:Nat) (d:Nat) (e:Rk) (f:Nat) (g h i j k m n z7 o p a:V) (I:hN),l (Mi cx) c d e f [g,h,i,j,k,m,n,z7,o,p,a] I=b (Mi cx) c d e f (l (Mi cx) c d e f) g h i j k m n z7 o p a I
def Sf{b:ah->Nat->Nat->Rk->Nat->Rk->V->V->V->V->V->V->V->V->V->V->V->hN->Ro}(t p q:Nat)(f:∀(a:Nat) (c:Nat) (d:Rk) (e:Nat),(Ep t [(c,d)] (Eo p q) L a).F QaT e=C9 (b QaT a c d e):=by intros;kernel_rfl)(g:∀(a:Nat) (c:Nat) (d:Rk) (e:Nat),b4 QaT a c d e=dG (C9 (b QaT a c d e)):=by intros;kernel_rfl):ML b4 b:=λa c d e i j k m n o r z7 s u h I=>En _ _ _ (f ..) (g ..)
abbrev QeE(l:ah->Nat->Nat->Rk->Nat->Rk->Nat->Rk)(b:ah->Nat->Nat->Rk->Nat->Rk->Nat->Rk->V->V->V->V->V->V->V->V->V->V->V->hN->Ro):Prop:=∀(c:Nat) (d:Nat) (e:Rk) (f:Nat) (g:Rk) (h:Nat) (i j k m n o p z7 q r a:V) (I:hN),l (Mi cx) c d e f g h [i,j,k,m,n,o,p,z7,q,r,a] I=b (Mi cx) c d e f g h (l (Mi cx) c d e f g h) i j k m n o p z7 q r a I
def Sg{l:ah->Nat->Nat->Rk->Nat->Rk->Nat->Rk}{b:ah->Nat->Nat->Rk->Nat->Rk->Nat->Rk->V->V->V->V->V->V->V->V->V->V->V->hN->Ro}(t p q:Nat)(h:∀(a:Nat) (c:Nat) (d:Rk) (e:Nat) (f:Rk) (g:Nat),(Ep t [(c,d),(e,f)] (Eo p q) L a).F QaT g=C9 (b QaT a c d e f g):=by intros;kernel_rfl)(i:∀(a:Nat) (c:Nat) (d:Rk) (e:Nat) (f:Rk) (g:Nat),l QaT a c d e f g=dG (C9 (b QaT a c d e f g)):=by intros;kernel_rfl):QeE l b:=λa c d e f g k m n o r s u z7 v w j I=>En _ _ _ (h ..) (i ..)
section
variable(n0 n1:Nat)(r1:Rk)(n2:Nat)(r2:Rk)(n3:Nat)(r3:Rk)(n4:Nat)(r4:Rk)(n5:Nat)(q u z a3 a4 a5 a6 a7 a8 a9 a10 a11:V)(z0 z1 z2 z3 z4 z5 z6 z7 z8 z9 z10 z11 z12 z13 z14 z15 z17 S z19 z20 z21 z22 N z30 z31 z32 z33 z34 Q z39 z40 z42 z43 z44 z47 z48 z49 z60 z61 z62:V)(I:hN)
def QbN:wP cx 5 Ec:=wT z'
def w6:wg nO QeJ:=wj z' 52 3 5
def QbO:vL cx 6 E5:=vM Ao
def xk:yx oB QdN:=zh Ao 54 3 5
def QbP:vL cx 7 E8:=vM Au
def xl:MC nQ QeK:=R_ Au 96 6 47
def QbQ:wP cx 11 E9:=wT AD
def xm:wg oD oC:=wj AD 26 4 11
def QbR:wP cx 12 FD:=wT AE
def xn:wg oF oE:=wj AE 74 4 11
def QbS:vL cx 13 FM:=vM FE
def QbT:vL cx 14 FQ:=vM FP
def QbU:wP cx 15 qm:=wT FU
def QbV:wP cx 16 FW:=wT AN
def xL:wg oG n7:=wj AN 18 3 5
def QbW:wP cx 17 p7:=wT FX
def QbX:wP cx 18 FY:=wT p8
def xT:MI oH mw:=Sd p8 128 11 1391
def xW:Ip mJ oI:=MB p8 128 6 47
def xX:FJ oJ mK:=Io p8 128 4 11
def QbY:wP cx 19 p_:=wT FZ
def SQ:vL cx 20 Ma:=vM H9
def TG(q:V)(I:hN)(h:V.aL 0 [q]=T)(a:I.isEmpty=T):E cx 21 [q] I=HJ QaT q I:=(cQ (F:=QaW) X0K X0K h a).trans (Zs ..)
def Z':wP cx 22 N5:=wT Rr
def QbZ:vL cx 23 Ib:=vM Ei
def Ge:xp Dz zV:=xF Ei 48 3 5
def K3(q u z:V)(I:hN)(h:V.aL 0 [q,u,z]=T)(a:I.isEmpty=T):E cx 24 [q,u,z] I=QeF QaT q u z I:=(cQ (F:=HM) X0K X0K h a).trans (Zu ..)
def Is:MJ C' B9:=Se HM 35 8 221
def It:CZ Ap Da:=Er HM 35 3 5
def S7:wP cx 26 FH:=wT Ek
def QcA:wP cx 28 QeB:=wT QdZ
def xY:wg oN oM:=wj QdZ 26 4 11
def QcB:vL cx 29 QeC:=vM A_
def Cl:yx pN m5:=zh A_ 38 3 3
def QcC:vL cx 30 F5:=vM Ba
def xZ:wg oT oO:=wj Ba 13 4 11
def QcD:vL cx 31 F8:=vM Bf
def yb:wg oV n9:=wj Bf 31 4 11
def SK:wP cx 32 L3:=wT H7
def F7:xp Dq ya:=xF H7 19 3 5
def CE:vL cx 33 uW:=vM qo
def pY:xp n_ m6:=xF LU 19 3 5
def Qht(q u:V)(I:hN)(h:V.aL 0 [q,u]=T)(a:I.isEmpty=T):E cx 40 [q,u] I=HW QaT q u I:=(cQ (F:=N4) X0K X0K h a).trans (ZA ..)
def S4:wP cx 37 Ms:=wT Mr
def SL:wP cx 44 L5:=wT L4 F9
def QcE:wP cx 49 F':=wT vA
def QdR:wg pP mN:=wj vA 55 4 11
def yq:wg pQ m8:=wj vA 55 3 5
def QcF:vL cx 50 we:=vM Gb
def QcG:vL cx 51 Gd:=vM n'
def yt:Iq oY oa:=MG n' 140 9 439
def yH:MF oZ mD:=Sb n' 140 13 6143
def CW:wg mP o5:=wj n' 140 10 1023
def C_:yx mQ mE:=zh n' 140 8 127
def yI:wg na oe:=wj n' 140 7 95
def yJ:xp mR o7:=xF n' 140 5 23
def yK:xp o8 og:=xF n' 140 4 11
def QcH:vL cx 52 Gf:=vM Bg
def Db:wg o_ o9:=wj Bg 29 3 3
def QcI:vL cx 34 Ia:=vM FF
def QaB(q u:V)(I:hN):E cx 57 [q,u] I=N7 QaT q u I:=(jA (F:=Kh) X0K X0K X0K _ _).trans (ZB ..)
def Iu:Ip Ax Aw:=MB Kh 40 3 5
def SZ:vL cx 58 Mk:=vM FC Gh
def Gc:yx zT vd:=zh FC 10 3 3
def TK:vL cx 56 Lw:=vM Lv QaR
def QaC:wP cx 60 Rv:=wT H4
def Iw:ML Cg Az:=Sf H4 82 12 2935
def Ix:CZ AA Dl:=Er H4 82 5 23
def Iy:CZ Dn Dm:=Er H4 82 4 11
def Cq(q u:V)(I:hN)(h:V.aL 0 [q,u]=T)(a:I.isEmpty=T):E cx 61 [q,u] I=Kj QaT q u I:=(cQ (F:=N9) X0K X0K h a).trans (ZD ..)
def S5:R8 cx 62 Mu:=QaZ Mt
def TJ:vL cx 55 D9:=vM D6
def QcJ:wP cx 43 mU:=wT Gi
def F_:xp Dr By:=xF H_ 19 3 5
def Sk:wP cx 71 LA:=wT HF Gj
def FN:xp A7 A6:=xF HF 19 3 5
def QcK:vL cx 75 Gk:=vM Bh
def yL:wg pf pd:=wj Bh 33 5 23
def QcL:vL cx 76 Gr:=vM Bj
def yM:yx pS mS:=zh Bj 21 3 5
def QcM:vL cx 77 HS:=vM Gx
def QcN:vL cx 78 qa:=vM HT
def QcO:vL cx 79 HV:=vM HU
def QcP:wP cx 80 HX:=wT Bl
def yN:wg pg oh:=wj Bl 18 3 5
def S9:vL cx 53 Il:=vM My
def SY:vL cx 54 Mh:=vM H'
def S3(q u:V)(I:hN):E cx 82 [q,u] I=Mq QaT q u I:=(jA (F:=Ic) X0K X0K X0K _ _).trans (QbA ..)
def QeG:wP cx 84 L8:=wT L7
def yO:CZ ph nb:=Er L7 75 5 23
def QcQ:vL cx 64 nc:=vM H5
def QcR:wP cx 65 Bm:=wT H8
def QaE:vL cx 66 RA:=vM Rz
def Sr:wP cx 67 Ea:=wT LJ
def QcS:wP cx 68 Ir:=wT Im
def QcT:wP cx 69 ID:=wT IC
def QcU:Kw cx 94 IR:=Oj Bn
def yP:wg pT pn:=wj Bn 20 3 3
def QcV:vL cx 81 zY:=vM Ej
def Gg:xp yT zX:=xF Ej 16 3 5
def SD:vL cx 98 LW:=vM zF
def F3:MH x_ Bo:=Sc zF 51 10 887
def F4:FJ Bp zK:=Io zF 51 5 23
def Sj:vL cx 99 Lz:=vM HE
def Si:vL cx 100 Ly:=vM HD IS
def FL:xp A5 vq:=xF HD 23 4 11
def TW(q u:V)(I:hN)(h:V.aL 0 [q,u]=T)(a:I.isEmpty=T):E cx 101 [q,u] I=Oa QaT q u I:=(cQ (F:=GM) X0K X0K h a).trans (ZI ..)
def Iz:QeE Du Dt:=Sg GM 95 16 48603
def E_:Iq zn Ci:=MG GM 95 7 91
def IA:wg yw Dv:=wj GM 95 4 11
def QcW:vL cx 85 IT:=vM Bs
def yQ:wg po oi:=wj Bs 15 3 5
def SF:vL cx 86 Ki:=vM H1
def Om:xp E7 Di:=xF H1 25 4 11
def QcX:wP cx 87 QdS:=wT wm
def yR:FJ pr pq:=Io wm 65 8 191
def yS:FJ pw mG:=Io wm 65 5 23
def MN:vL cx 88 qj:=vM Bw
def SI:wP cx 90 Fy:=wT Ef
def S8:wP cx 91 Em:=wT El
def SU:wP cx 92 Me:=wT FA
def QcY:vL cx 95 JQ:=vM wo
def Dd:MD pU oj:=R' wo 188 16 46427
def zg:MA om QdL:=R9 wo 188 3 3
def Sw:wP cx 107 QeD:=wT HO
def De:vL cx 108 wG:=vM wF
def So:vL cx 109 LG:=vM LF
def Sx:vL cx 110 LO:=vM HP
def zl:yx pW oq:=zh LH 17 3 5
def FR:yx xU Bb:=zh Eb 25 5 15
def FS:yx Bc xV:=zh Eb 25 4 11
def Qf2(q:V)(I:hN)(h:V.aL 0 [q]=T)(a:I.isEmpty=T):E cx 114 [q] I=LM QaT q I:=(cQ (F:=HN) X0K X0K h a).trans (QbD ..)
def zx:ME py ot:=Sa HN 61 11 1371
def FT:yx Be Bd:=zh HN 61 4 11
def Sh:vL cx 115 Lx:=vM HC
def FK:FJ zz wM:=Io HC 33 5 23
def Cy(q u:V)(I:hN)(h:V.aL 0 [q,u]=T)(a:I.isEmpty=T):E cx 116 [q,u] I=Km QaT q u I:=(cQ (F:=Kl) X0K X0K h a).trans (ZL ..)
def IB:CZ DA AB:=Er Kl 96 6 47
def QaO:Kw cx 211 R5:=Oj R4
def QaF:Kw cx 213 RC:=Oj N'
def Z9:Kw cx 215 Rp:=Oj NZ
def QaG:Kw cx 219 Kn:=Oj RP
def QaJ:Kw cx 220 Kq:=Oj Ih
def QaP:Kw cx 222 QaV:=Oj D_
def QaN:Kw cx 223 Ku:=Oj Ik
def QaI:Kw cx 225 RU:=Oj RT
def QcZ:wP cx 89 Kx:=wT QdT
def SP:vL cx 102 L':=vM L_
def QdA:vL cx 105 Kz:=vM Ky
def SJ:wP cx 122 L1:=wT H6
def F6:xp Bu Bt:=xF H6 19 3 5
def SG:vL cx 123 Ce:=vM Fw
def Df:yx pz ov:=zh Fw 36 3 3
def Z7:vL cx 128 Rl:=vM Rj
def Z_:Kw cx 129 B_:=Oj QeA QbF
def QdU:wg qk oz:=wj QeA 30 2 1
def Sm:vL cx 130 LB:=vM HG KC
def FO:xp A9 A8:=xF HG 20 4 11
def QaM:wP cx 210 Ks:=wT Od
def QaH:wP cx 212 RQ:=wT Ob
def QaA:wP cx 214 Ed:=wT Rt
def Z8:wP cx 218 Rn:=wT Rm
def QdK:wP cx 221 QbH:=wT QbG
def QaK:wP cx 224 Ii:=wT RW
def Qhu(q u:V)(I:hN)(h:V.aL 0 [q,u]=T)(a:I.isEmpty=T):E cx 131 [q,u] I=Oc QaT q u I:=(cQ (F:=Kr) X0K X0K h a).trans (ZV ..)
def Ou:wg AF zp:=wj Kr 39 3 3
def QaL:Kw cx 146 RZ:=Oj RY
def Sq:vL cx 216 LI:=vM HI
def QdB:wP cx 103 KE:=wT KD
def S0:vL cx 133 Mm:=vM Ml
def zy:wg pC pB:=wj Ml 31 5 23
def KB:xp Br Bq:=xF H0 19 3 5
def Sn(q u z:V)(I:hN):E cx 147 [q,u,z] I=LD QaT q u z I:=(jA (F:=LC) X0K X0K X0K _ _).trans (QbJ ..)
def Sy:vL cx 148 LP:=vM HQ KF
def VK(q:V)(I:hN)(h:V.aL 0 [q]=T)(a:I.isEmpty=T):E cx 148 [q] I=LP QaT q I:=(cQ (F:=HQ) X0K X0K h a).trans (KF ..)
def FV:wg Bi zC:=wj HQ 28 1 1
def QdC:vL cx 149 HZ:=vM HY Rs
def zA:xp pE pD:=xF HY 21 4 11
def SH:vL cx 217 Ee:=vM LZ
def QJ(q u:V)(I:hN)(h:V.aL 0 [q,u]=T)(a:I.isEmpty=T):E cx 150 [q,u] I=CJ QaT q u I:=(cQ (F:=Oe) X0K X0K h a).trans (ZX ..)
def Qhv(q u:V)(I:hN)(h:V.aL 0 [q,u]=T)(a:I.isEmpty=T):E cx 151 [q,u] I=Og QaT q u I:=(cQ (F:=Of) X0K X0K h a).trans (ZY ..)
def SA(q u z:V)(I:hN):E cx 158 [q,u,z] I=Ft QaT q u z I:=(jA (F:=Fs) X0K X0K X0K _ _).trans (LR ..)
def QdD:vL cx 159 Ig:=vM If
def QdE(q u:V)(I:hN):E cx 160 [q,u] I=w5 QaT q u I:=(jA (F:=Bx) X0K X0K X0K _ _).trans (QbK ..)
def Sz(q u z:V)(I:hN):E cx 162 [q,u,z] I=LQ QaT q u z I:=(jA (F:=HR) X0K X0K X0K _ _).trans (QbL ..)
def QdF:vL cx 163 Bz:=vM K8
def QdG(q u:V)(I:hN):E cx 164 [q,u] I=pL QaT q u I:=(jA (F:=BA) X0K X0K X0K _ _).trans (QbM ..)
def QdH:vL cx 165 Ij:=vM FI
end
attribute [congr] Wk2 Wk3 Wk4
attribute [congr] ite_congr
attribute [go_sem↓] reduceIte
attribute [go_sem] vQ Wqr Wqs
def Wz:pu (W w)=W w.ng:=rfl
def Wq4:pu none=none:=rfl
def Wq5:pe (W w)=W w.aI:=rfl
def Wq6:pe none=none:=rfl
variable{v c7:Bool}{b0 e7:AW}
def q7:aU (.bool v) true b0=if v=true then b0 else W .undef:=by cases v<;>rfl
def q8:aU (.bool v) T b0=if v=true then W .undef else b0:=by cases v<;>rfl
def q9{t:Bool}:aU .undef t b0=W .undef:=rfl
variable{M b6:Ro}
def q_:fO (.bool v) true M y=if v=true then M else W (.undef,y):=by cases v<;>rfl
def ra:fO (.bool v) T M y=if v=true then W (.undef,y)else M:=by cases v<;>rfl
def re{t:Bool}:fO .undef t M y=W (.undef,y):=rfl
def tB:gd (.bool v) true M b6=if v=true then M else b6:=by cases v<;>rfl
def tC:gd (.bool v) T M b6=if v=true then b6 else M:=by cases v<;>rfl
def tD{t:Bool}:gd .undef t M b6=b6:=rfl
variable{j:Int}{B g2:u2}{X g0:IntKind}{a2:Type}
section
variable{p:Prop}[Decidable p]
def Wlb{a b:a2}:(if p then W a else W b)=W (if p then a else b):=by split<;>rfl
def Wlc{d:Type}{a b:a2}{s:d}:(if p then(a,s)else(b,s))=(if p then a else b,s):=by split<;>rfl
def Wq7:(if p then V.bool v else V.bool T)=V.bool (decide p&&v):=by by_cases h:p<;>simp[h]
def Wvq{d:Bool}:(if p then V.bool true else V.bool d)=V.bool (decide p||d):=by by_cases h:p<;>simp[h]
def Wld{b:V}:(if p then w else b).ng=if p then w.ng else b.ng:=by split<;>rfl
def Wvr{x y:a2}:(if v=T then x else y)=if v=true then y else x:=by cases v<;>rfl
def Wvs{x y:a2}:(if ¬p then x else y)=if p then y else x:=by by_cases h:p<;>simp[h]
def Wq8{b:V}{t:Bool}:aU (if p then w else b) t b0=if p then aU w t b0 else aU b t b0:=by split<;>rfl
def Wq9{b:V}{t:Bool}:fO (if p then w else b) t M y=if p then fO w t M y else fO b t M y:=by split<;>rfl
def Wvt{b:V}{t:Bool}:gd (if p then w else b) t M b6=if p then gd w t M b6 else gd b t M b6:=by split<;>rfl
def Wvu{x y:Option a2}{f:a2->Ro}:bd (if p then x else y) f=if p then bd x f else bd y f:=by split<;>rfl
def Wvv:pu (if p then b0 else e7)=if p then pu b0 else pu e7:=by split<;>rfl
def Wvw:pe (if p then b0 else e7)=if p then pe b0 else pe e7:=by split<;>rfl
def Wle{b:V}:(if p then w else b).aI=if p then w.aI else b.aI:=by split<;>rfl
def Wra{b:Int}:(if p then V.int X j else V.int X b)=V.int X (if p then j else b):=by split<;>rfl
def Wrb{b:u2}:(if p then V.str B else V.str b)=V.str (if p then B else b):=by split<;>rfl
def tE{a b:a2}:(if True then a else b)=a:=rfl
def tF{a b:a2}:(if False then a else b)=b:=rfl
end
def Wvx:aU (.bool true) true b0=b0:=rfl
def Wvy:aU (.bool T) T b0=b0:=rfl
def Wvz:aU (.bool true) T b0=W .undef:=rfl
def Wv0:aU (.bool T) true b0=W .undef:=rfl
def Wv1:fO (.bool true) true M y=M:=rfl
def Wv2:fO (.bool T) T M y=M:=rfl
def Wv3:fO (.bool true) T M y=W (.undef,y):=rfl
def Wv4:fO (.bool T) true M y=W (.undef,y):=rfl
def rf:gd (.bool true) true M b6=M:=rfl
def rh:gd (.bool T) T M b6=M:=rfl
def ri:gd (.bool true) T M b6=b6:=rfl
def rj:gd (.bool T) true M b6=b6:=rfl
attribute [go_sem high] Wvx Wvy Wvz Wv0 Wv1 Wv2 Wv3 Wv4 rf rh ri rj tp tq
attribute [go_sem] Wz Wq4 Wq5 Wq6 Wvw Wle q7 q8 q9 q_ ra re tB tC tD Wq8 Wq9 Wvt Bool.decide_eq_true Wra Wrb Wvr Wvs Wlb Wlc Wq7 Wvq Wld Wvu Wvv tE tF decide_eq_true_eq decide_eq_false_iff_not vc zH Qv Bool.not_eq_true Bool.true_eq_false vD if_true if_false not_true_eq_false not_false_eq_true and_true true_and and_false false_and or_true true_or or_false false_or Bool.decide_and Bool.decide_or decide_true decide_false
def Wv5:V.cg.ng=.cg:=rfl
section
variable{k:IntKind}{a:Int}{b ag:Bool}{s:u2}{o i len sz:Nat}{cs xs q:uZ}{c:bU}{t:TypeId}{x:V}{f:FuncId}
def rk:(V.int k a).aI=.int k a:=rfl
def Wv6:(V.bool b).aI=.bool b:=rfl
def rl:(V.str s).aI=.str s:=rfl
def Wrc:V.undef.aI=.undef:=rfl
def rm:V.any.aI=.any:=rfl
def Wv7:V.c_.aI=.c_:=rfl
def rn:(V.ptr o i).aI=.ptr o i:=rfl
def Wv8:(V.ai cs i).aI=.ai cs i:=rfl
def Wv9:V.ad.aI=.ad:=rfl
def tG:(V.sl xs c).aI=.sl xs .no:=rfl
def tH:(V.hs o i len sz ag).aI=.hs o i len sz ag:=rfl
def tI:(V.hg o len sz ag).aI=.hg o len sz ag:=rfl
def rp:(V.agg cs).aI=.agg cs:=rfl
def rq:(V.aR cs).aI=.aR cs:=rfl
def rr:(V.bE t x).aI=.bE t x:=rfl
def Wwa:V.bc.aI=.bc:=rfl
def tJ:(V.fn f xs q).aI=.fn f xs q:=rfl
def Wwb:V.dt.aI=.dt:=rfl
def tK:(V.mp o).aI=.mp o:=rfl
def Wwc:V.cg.aI=.cg:=rfl
end
attribute [go_sem] rk Wv6 rl Wrc rm Wv7 rn Wv8 Wv9 tG tH tI rp rq rr Wwa tJ Wwb tK Wwc
def Wwd:V.dt.ng=.dt:=rfl
def tL:(V.mp d).ng=.mp d:=rfl
attribute [go_sem] We8 We9 Wfa Wqq qO Wu9 qP Wva Wvb qQ tm qR qS qT Wvc tn Wv5 Wwd tL Wq1
variable{a0 h0:bU}
section
variable{k:IntKind}{e:iB}{a b:Int}{s t:u2}
def ru:eB .add e (.int k a) (.int k b)=W (.int k (k.wrap (a+b))):=by simp[eB]
def rv:eB .sub e (.int k a) (.int k b)=W (.int k (k.wrap (a-b))):=by simp[eB]
def ry:eB .mul e (.int k a) (.int k b)=W (.int k (k.wrap (a*b))):=by simp[eB]
def rz(h:¬b=0):eB .quo e (.int k a) (.int k b)=W (.int k (k.wrap (a.tdiv b))):=by simp[eB,h]
def rA(h:¬b=0):eB .rem e (.int k a) (.int k b)=W (.int k (a.tmod b)):=by simp[eB,h]
def rB:eB .eql e (.int k a) (.int k b)=W (.bool (decide (a=b))):=by simp[eB];by_cases h:a=b<;>simp[h]
def rC:eB .neq e (.int k a) (.int k b)=W (.bool (decide (¬a=b))):=by simp[eB];by_cases h:a=b<;>simp[h]
def rD:eB .lss e (.int k a) (.int k b)=W (.bool (decide (a<b))):=by simp[eB]
def rE:eB .leq e (.int k a) (.int k b)=W (.bool (decide (a<=b))):=by simp[eB]
def rF:eB .gtr e (.int k a) (.int k b)=W (.bool (decide (b<a))):=by simp[eB]
def rH:eB .geq e (.int k a) (.int k b)=W (.bool (decide (b<=a))):=by simp[eB]
def Pn(h:s.length+t.length<=EY):eB .add e (.str s) (.str t)=W (.str (s++t)):=by simp[eB,h]
def Wwe:eB .eql e (.str s) (.str t)=W (.bool (decide (s=t))):=by simp[eB]
def Wwf:eB .neq e (.str s) (.str t)=W (.bool (decide (¬s=t))):=by simp[eB]
def Wwg:eB .lss e (.str s) (.str t)=W (.bool (bytesLess s t)):=by simp[eB]
def Wwh:eB .eql .bool (.bool v) (.bool c7)=W (.bool (decide (v=c7))):=by cases v<;>cases c7<;>rfl
def Wwi:eB .neq .bool (.bool v) (.bool c7)=W (.bool (decide (¬v=c7))):=by cases v<;>cases c7<;>rfl
def rI:fk .neg (.int k a)=W (.int k (k.wrap (0-a))):=rfl
def rJ:fk .not (.bool v)=W (.bool !v):=rfl
def Wrd:eC y (.toInt k) (.int X a)=W (.int k (k.wrap a)):=rfl
def Wwj:eC y .same (.str s)=W (.str s):=rfl
def Wc1:eC y .bz (.str s)=W (.sl (u4 s) (.gr 1)):=rfl
def Wre:ZM (.str s)=W (iI s.length):=rfl
def Wlf:Qai .ad=W (iI 0):=rfl
def Wfr{xs:uZ}:Qai (.sl xs a0)=W (iI xs.length):=rfl
def Wol{len:Nat}:Qai (.hs d F len b9 v)=W (iI len):=rfl
def Wwk:B3 (.bool v) w c3=W (if v then w else c3):=rfl
def Wwl:B3 (.bool true) w c3=some w:=rfl
def Wwm:B3 (.bool T) w c3=some c3:=rfl
def WM(h:0<=a/\a<s.length):Wx (.int k a) (.str s)=W (.int .u8 (s.getD a.toNat 0).toNat):=by
 have b:a.toNat<s.length:=by omega
 simp only[Wx,index,A9a h,u7,va,vO b,y9,Cr]
def Wlg:eX d (.aR g)=g[d]?:=rfl
def Wfs:eF b9 (.ptr d F)=W (.ptr d (F+b9)):=rfl
def Wc2:eF F (.ai g d)=W (.ai g (d+F)):=rfl
def Wlh:Qau (.ptr d F)=W (.ptr d F):=rfl
def Wft:Qau (.ai g d)=W (.ai g d):=rfl
def yo{I:hN}{sz off:Nat}:eL I v sz (.ptr d off)=(hN.get I d).bind λcs=>part v sz cs off:=rfl
def WV:eL y v d (.ai g F)=part v d g F:=rfl
def Wfv:P7 v F d (.agg g)=part v d g F:=rfl
def Wwn:part T 1 (w::g) 0=W w.ng:=rfl
def Wwo:part T 1 (w::g) (d+1)=part T 1 g d:=rfl
def Ai{cs:uZ}{off:Nat}(h:off+d<=cs.length):part true d cs off=W (.agg (((cs.drop off).take d).map V.ng)):=by simp[part,h]
def Wrf{b:Bool}:oK b (.int k a)=W (.int k a):=by cases b<;>rfl
def Wli:oK v (.bool c7)=W (.bool c7):=by cases v<;>rfl
def Wrg:oK v (.str s)=W (.str s):=by cases v<;>rfl
def WI:oK v (.agg g)=W (.agg g):=by cases v<;>rfl
def Wri{t:TypeId}:oK v (.bE t w)=W (.bE t w):=by cases v<;>rfl
def Wlj:oK v .bc=W .bc:=by cases v<;>rfl
def Wlk:oK v .ad=W .ad:=by cases v<;>rfl
def WJ:oK v (.ptr d F)=W (.ptr d F):=by cases v<;>rfl
def Wll:oK v (.ai g d)=W (.ai g d):=by cases v<;>rfl
def Wwp:oK T (.sl g a0)=W (.sl g .no):=rfl
def Wrk:oK true (.sl g a0)=W (.sl g a0):=rfl
def Wwq{len:Nat}:oK v (.hs d F len b9 c7)=W (.hs d F len b9 c7):=by cases v<;>rfl
end
attribute [go_sem] ru rv ry rz rA rB rC rD rE rF rH Pn Wwe Wwf Wwg Wwh Wwi rI rJ Wrd Wwj Wc1 Wre Wlf Wfr Wol Wwk WM Wlg Wfs Wc2 Wlh Wft yo WV Wfv Wwn Wwo Ai Wrf Wli Wrg WI Wri Wlj Wlk WJ Wll Wwp Wrk Wwq
attribute [go_sem high] Wwl Wwm
def O.rb(n:Nat):O->Bool
 | .cells b=>V.aL n b
 | .mp a=>V.aL n (a.map Prod.fst)&&V.aL n (a.map Prod.snd)
 |_=>true
def Wf(I:hN):Prop:=I.all (O.rb I.length)=true
def Td{o:O}(h:o.rb d):fb d y o=some o:=by
 cases o with
 |cells a=>simp only[O.rb]at h;simp[fb,h]
 |mp a=>simp only[O.rb]at h;simp[fb,h]
 |si r p=>rfl
 |gone=>rfl
theorem Qse{n:Nat}{I:hN}:∀ {l:List O},l.all (O.rb n)->l.mapM (fb n I)=W l
 |[],_=>by simp
 |o::l,h=>by simp only[Um,vc]at h;simp[xw,Td h.1,Qse h.2]
def Kk{I:hN}(h:Wf I):ve I.length I=some I:=by unfold ve;rw[Hl];exact Qse h
def xd{I H:hN}(h:Wf I):ve I.length (I++H)=some I:=by
 unfold ve;rw[List.take_left']
 ·exact Qse h
 ·rfl
def zM:Wf []:=rfl
def yg{I:hN}{r:V}(h:Wf I)(a:r.rb I.length):nK I.length I r=W (r,I):=by unfold nK;rw[Kk h,vQ,vC a,vQ]
def VO{I H:hN}{r:V}(h:Wf I)(a:r.rb I.length):nK I.length (I++H) r=W (r,I):=by unfold nK;rw[xd h,vQ,vC a,vQ]
def rK(a:w.rb 0):nK 0 [] w=W (w,[]):=yg zM a
def C2:V.rb d (.int X j):=rfl
def ZZ{b:Bool}:V.rb d (.bool b):=rfl
def xA{s:u2}:V.rb d (.str s):=rfl
def Wrl:V.rb d .bc:=rfl
def Wrm:V.rb d .ad:=rfl
def WO:V.rb d .c_:=rfl
def Wwr:V.rb d .any:=rfl
def Wlm:V.rb d .undef:=rfl
def Wfw:V.rb d (.ptr F b9)=decide (F<d):=rfl
def rL{len sz:Nat}:V.rb d (.hs F b9 len sz v)=decide (F<d):=rfl
def Qun:V.rb d (.agg g)=V.aL d g:=rfl
def Wom:V.rb d (.aR g)=V.aL d g:=rfl
def Dg:V.rb d (.sl g a0)=V.aL d g:=rfl
def Wro:V.rb d (.ai g F)=V.aL d g:=rfl
def Qzz{t:TypeId}:V.rb d (.bE t w)=V.rb d w:=rfl
def xK:V.aL d []:=rfl
def Qae{n:Nat}:V.aL n (w::g)=(V.rb n w&&V.aL n g):=rfl
theorem AM{a:Type}{n:Nat}{f:a->V}(h:∀x,V.rb n (f x)):∀ {l:List a},V.aL n (l.map f)
 |[]=>rfl
 |x::l=>by rw[xc,Qae,h,AM h];rfl
attribute [go_sem] Kk xd yg VO rK C2 ZZ xA Wrl Wrm WO Wwr Wlm Wfw rL Qun Wom Dg Wro Qzz xK Qae Ex Tu Wql Wu6 Wqm Wqn Wqo Wqp Wkz Wu7 Wk0 vC
def uu(h:-9223372036854775808<=j/\j<=9223372036854775807):IntKind.i64.wrap j=j:=by simp only[IntKind.wrap_i64];omega
def w8(h:0<=j/\j<=255):IntKind.u8.wrap j=j:=by simp only[IntKind.wrap_u8];omega
def uv(h:-2147483648<=j/\j<=2147483647):IntKind.i32.wrap j=j:=by simp only[IntKind.wrap_i32];omega
attribute [go_sem] List.getD_cons_zero Xh va Option.bind_none CB Ab OX Bool.not_false C3 Nf CR C5 I5 JM
def wJ{I:hN}{cs:uZ}:hN.get (I++[.cells cs]) I.length=some cs:=by simp[hN.get]
theorem Cz{n d:Nat}{I:hN}:∀ {cs:uZ},V.aL n cs->cs.mapM (fz n I d)=W cs
 |[],_=>by simp
 |c::cs,h=>by rw[Qae,vc]at h;simp[xw,vC h.1,Cz h.2]
def Wrp(h:V.aL y.length g):fz y.length (y++[.cells g]) (d+1) (.ptr y.length F)=W (.ai g F):=by simp[fz,Wfw,wJ,Cz h]
def Wws{t:TypeId}(h:V.aL y.length g):fz y.length (y++[.cells g]) fzD (.bE t (.ptr y.length d))=W (.bE t (.ai g d)):=by unfold fzD;rw[show(40:Nat)=39+1 from rfl];unfold fz;simp only[Qzz,Wfw,Nat.lt_irrefl,decide_false,vD,A9d,Wrp h];rfl
def Qxi{I:hN}{t:TypeId}(a:Wf I)(h:V.aL I.length g):nK I.length (I++[.cells g]) (.bE t (.ptr I.length d))=W (.bE t (.ai g d),I):=by unfold nK;rw[xd a,vQ,Wws h,vQ]
def Qos{I:hN}:bK I w=if yd w.cells=true then W (.ptr I.length 0,I++[.cells (w.cells.map V.ng)])else none:=by unfold bK;rfl
def RH{cs:uZ}:(V.agg cs).cells=cs:=rfl
def Wfx:(V.int X j).cells=[.int X j]:=rfl
def Wc3{b:Bool}:(V.bool b).cells=[.bool b]:=rfl
def Wfy{s:u2}:(V.str s).cells=[.str s]:=rfl
def Wc4:V.bc.cells=[.bc]:=rfl
def Wc5:V.ad.cells=[.ad]:=rfl
def Wln:(V.sl g a0).cells=[.sl g a0]:=rfl
def Wfz{t:TypeId}:(V.bE t w).cells=[.bE t w]:=rfl
def Wf0:(V.ptr d F).cells=[.ptr d F]:=rfl
def Wc6:(V.ai g d).cells=[.ai g d]:=rfl
def MO:yd []:=rfl
def CY:yd (w::g)=(V.one w&&yd g):=rfl
def Jf:V.one (.int X j):=rfl
def Qot{b:Bool}:V.one (.bool b):=rfl
def Jg{s:u2}:V.one (.str s):=rfl
def Wf1:V.one .bc:=rfl
def Wf2:V.one .ad:=rfl
def Wf3:V.one .c_:=rfl
def Wf4:V.one (.sl g a0):=rfl
def Wlo{t:TypeId}:V.one (.bE t w):=rfl
def Wlp:V.one (.ptr d F):=rfl
def Wf5:V.one (.ai g d):=rfl
attribute [go_sem] wJ Qxi Qos RH Wfx Wc3 Wfy Wc4 Wc5 Wln Wfz Wf0 Wc6 MO CY Jf Qot Jg Wf1 Wf2 Wf3 Wf4 Wlo Wlp Wf5 xc Xbx List.drop_succ_cons JN List.take_succ_cons List.take_zero List.take_nil List.drop_nil vT xJ Nat.reduceAdd Nat.reduceLeDiff Nat.reduceLT xr KY
variable{e8:List (Nat×Nat×V)}
def Ti:mz g e8=(EW g e8).map V.agg:=rfl
def Wrq:EW g []=some g:=rfl
def Wlr(a:w.cells.length=F)(b:d+F<=g.length)(c:yd w.cells):EW g ((d,F,w)::e8)=EW (RK g d (w.cells.map V.ng)) e8:=by simp[EW,a,b,c]
def Wf6:RK g d []=g:=by cases g<;>cases d<;>rfl
def WT:RK (w::g) 0 (c3::c9)=c3::RK g 0 c9:=rfl
def WU:RK (w::g) (d+1) (c3::c9)=w::RK g d (c3::c9):=rfl
def Wf7{b:Type}{a:b}{f:b->a2}:(W a).map f=W (f a):=rfl
attribute [go_sem] Ti Wrq Wlr Wf6 WT WU Wf7
def Wrt:Wf []=True:=by simp[Wf]
def Wh{cs:uZ}:Wf [.cells cs]=(V.aL 1 cs):=by simp[Wf,O.rb]
def Qz0:ve 0 y=W []:=rfl
def Wru{I:hN}(a:w.rb 0):nK 0 I w=W (w,[]):=by unfold nK;rw[Qz0,vQ,vC a,vQ]
def Wls{t:TypeId}(h:V.aL 0 g):nK 0 [.cells g] (.bE t (.ptr 0 d))=W (.bE t (.ai g d),[]):=Qxi zM h
def WX(h:V.aL 1 g):ve 1 [.cells g]=W [.cells g]:=Kk (I:=[.cells g]) (by rw[Wh];exact h)
def Wlt{H:hN}(h:V.aL 1 g):ve 1 (.cells g::H)=W [.cells g]:=xd (I:=[.cells g]) (H:=H) (by rw[Wh];exact h)
def WY(h:V.aL 1 g)(a:w.rb 1):nK 1 [.cells g] w=W (w,[.cells g]):=yg (I:=[.cells g]) (by rw[Wh];exact h) a
def Wlu{H:hN}(h:V.aL 1 g)(a:w.rb 1):nK 1 (.cells g::H) w=W (w,[.cells g]):=VO (I:=[.cells g]) (H:=H) (by rw[Wh];exact h) a
def Wlv{t:TypeId}(h:V.aL 1 g)(a:V.aL 1 c9):nK 1 [.cells g,.cells c9] (.bE t (.ptr 1 d))=W (.bE t (.ai c9 d),[.cells g]):=Qxi (I:=[.cells g]) (by rw[Wh];exact h) a
def tM{O:O}:hN.get (O :: .cells g::y) 1=some g:=rfl
def Qxj{s:u2}(h:0<=j/\j<=s.length):AP (.str s) (W (.int X j)) none=W (.str (s.drop j.toNat)):=by
 have b:vr (.int X j) s.length=W j.toNat:=by simp[vr,h]
 have c:((s.drop j.toNat).take (s.length-j.toNat))=s.drop j.toNat:=by rw[JF];simp
 simp[AP,vI,b,c]
def W4{s:u2}(h:0<=j/\j<=s.length):AP (.str s) none (W (.int X j))=W (.str (s.take j.toNat)):=by
 have b:vr (.int X j) s.length=W j.toNat:=by simp[vr,h]
 simp[AP,vI,b]
attribute [go_sem] Wrt Wh Qz0 Wru Wls WX Wlt WY Wlu Wlv tl tM Qxj W4 xQ AJ
variable{e5:Prop}
def iP[Decidable e5]{a b:a2}(h:e5):(if e5 then a else b)=a:=A9a h
def iN[Decidable e5]{a b:a2}(h:¬e5):(if e5 then a else b)=b:=O3 h
attribute [go_sem] Int.reduceToNat zi Int.toNat_zero Int.reduceAdd Int.reduceSub Int.reduceMul Int.reduceNeg Int.reduceLT Int.reduceLE Nat.reduceSub Nat.reduceMul
def EH{k:IntKind}{s:u2}(h:0<=j/\j<s.length):eI 1 (.int k j) (.sl (u4 s) a0)=W (.ai [.int .u8 (s.getD j.toNat 0).toNat] 0):=by
 have a:j.toNat<s.length:=by omega
 have b:(u4 s).length=s.length:=by simp[u4]
 have d:(u4 s)[j.toNat]?=W (.int .u8 (s.getD j.toNat 0).toNat):=by simp[u4,a]
 simp only[eI,index,b,A9a h,u7,va,d];rfl
def U8{s:u2}:(u4 s).length=s.length:=by simp[u4]
def O7{p r:List a2}{b x:a2}:(p++b::r).getD p.length x=b:=u0
attribute [go_sem] EH U8 O7
attribute [go_sem] reduceCtorEq Gs M8 vW
def Qsg{b:Int}(h:0<=j/\0<=b):j.tmod b=j%b:=Int.tmod_eq_emod_of_nonneg h.1
def MQ{b:Int}(h:0<=j/\0<=b):j.tdiv b=j/b:=Int.tdiv_eq_ediv_of_nonneg h.1
def Wlw:eg T (.int X j):=rfl
def Wlx{s:u2}:eg T (.str s):=rfl
def Wf9{b:Bool}:eg T (.bool b):=rfl
def Wly:eg true (.agg g):=rfl
variable{e9:XB}
def Wga{len:Nat}:wS v d len w e9=(NA d (List.replicate len w) e9).bind λxs=>if ZS v d xs=true then W (.sl xs .fx)else none:=rfl
def Wgb:NA d g []=some g:=rfl
def Wc7(a:w.cells.length=d)(b:F<g.length)(c:yd w.cells):NA d g ((F,w)::e9)=NA d (g.set F w.ng) e9:=by simp[NA,a,b,c]
def Wgc:ZS v d []:=rfl
def zw{y:V}:ZS v d (y::g)=(decide (y.cells.length=d)&&yd y.cells&&eg v y&&ZS v d g):=rfl
def Qxk:eC y .bh (.sl g a0)=(bytesOf g).map V.str:=rfl
def Qxl:bytesOf []=W []:=rfl
def Wl:bytesOf (.int .u8 j::g)=(bytesOf g).map λbs=>UInt8.ofNat j.toNat::bs:=by simp only[bytesOf];cases bytesOf g<;>rfl
def Wlz:eB .neq .bE .bc .bc=W (.bool T):=rfl
def Wrx:eB .eql .bE .bc .bc=W (.bool true):=rfl
def Wry{t:TypeId}:eB .neq .bE (.bE t w) .bc=W (.bool true):=rfl
def Wwt{t:TypeId}:eB .eql .bE (.bE t w) .bc=W (.bool T):=rfl
attribute [go_sem] Wlw Wlx Wf9 Wly Wga Wgb Wc7 Wgc zw Qxk Qxl Wl Wlz Wrx Wry Wwt KR Gu JJ List.set_cons_zero List.set_cons_succ
def Wgd:u1 y (w,[])=W (w,y):=rfl
attribute [go_sem] yB Wgd
attribute [go_sem] iP iN uu w8 uv
section
variable{q:Type}{f:q->V}{sz:Nat}{l m:List q}{c c':bU}
def Fj(a:∀x,(f x).cells.length=sz)(d:q){k:IntKind}{i:Int}(h:0<=i/\i<l.length):eI sz (.int k i) (.sl (l.map f) c)=W (.ai (f (l.getD i.toNat d)).cells 0):=by
 have b:i.toNat<l.length:=by omega
 have e:(l.map f).length=l.length:=u0;have g:(l.map f)[i.toNat]?=W (f (l.getD i.toNat d)):=by simp[b]
 simp only[eI,index,e,A9a h,u7,va,g,a,A9c]
def all_map(a:∀x,(f x).cells.length=sz):(l.map f).all (λy=>decide (y.cells.length=sz)):=by rw[List.all_map];exact AI.2 λx _=>by simp[a]
def Wge(d:∀x,(f x).cells.length=sz){b:Int}(h:0<=j/\j<=b/\b<=l.length):yy sz (.sl (l.map f) c) (W (.int X j)) (W (.int g0 b)) none=W (.sl (((l.drop j.toNat).take (b.toNat-j.toNat)).map f) .no):=by
 have e:vr (.int g0 b) (l.map f).length=W b.toNat:=by simp[vr];omega
 have g:vr (.int X j) b.toNat=W j.toNat:=by simp[vr];omega
 have i:vI (l.map f).length (W (.int X j)) (W (.int g0 b)) none=W (j.toNat,b.toNat,none):=by simp only[vI,JK,e,g,u7,va,AK]
 simp only[yy,i,u7,va,all_map d,A9c,reduceCtorEq,A9d,List.map_drop,List.map_take]
def Wc8(b:∀x,(f x).cells.length=sz){k:IntKind}{a:Int}(h:0<=a/\a<=l.length):yy sz (.sl (l.map f) c) (W (.int k a)) none none=W (.sl ((l.drop a.toNat).map f) .no):=by
 have d:vr (.int k a) (l.map f).length=W a.toNat:=by simp[vr];omega
 have e:vI (l.map f).length (W (.int k a)) none none=W (a.toNat,(l.map f).length,none):=by simp only[vI,JK,d,u7,va,AK]
 have g:((l.map f).drop a.toNat).take ((l.map f).length-a.toNat)=(l.drop a.toNat).map f:=by rw[JF u0,List.map_drop]
 simp only[yy,e,u7,va,all_map b,A9c,reduceCtorEq,A9d,g]
def DU{ag:Bool}(a:∀x,(f x).cells.length=sz)(b:∀x,yd (f x).cells)(c:∀x,eg ag (f x)):ZS ag sz (l.map f):=by unfold ZS;rw[List.all_map];exact AI.2 λx _=>by simp[a,b,c]
def yC{ag:Bool}{bytes:Nat}{I:hN}(d:∀x,(f x).cells.length=sz)(g:∀x,yd (f x).cells)(h:∀x,eg ag (f x))(i:c=.fx\/c=.gr sz)(j:m≠[])(k:(l.length+m.length)*bytes<=Qaq):
  aT T ag sz bytes I (.sl (l.map f) c) (.sl (m.map f) c')=W (.sl ((l++m).map f) (.gr sz)):=by
 have n:=all_map (l:=l) d;have a:∃y b,m.map f=y::b:=by
  match m,j with
  |x::m,_=>exact⟨_,_,rfl⟩
 obtain⟨y,b,a⟩:=a;have o:(l.map f).length+(y::b).length=l.length+m.length:=by rw[<-a];simp
 have e:=DU (l:=m) d g h;rw[a]at e;unfold aT;simp only[Nv,vD,A9d,Nq,u7,va];rw[a];unfold RE;simp only[e,A9c];rw[A9a ⟨i,n,by rw[o];exact k⟩,yW,a]
end
def Z(l:u_):uZ:=l.map (V.int .i64)
def BB{l:u_}:(Z l).length=l.length:=by simp[Z]
def wB{n:Nat}{l:u_}:V.aL n (Z l):=AM λ_=>rfl
def Pj{l:u_}{c:bU}{k:IntKind}{i:Int}(h:0<=i/\i<l.length):eI 1 (.int k i) (.sl (Z l) c)=W (.ai [iI (l.getD i.toNat 0)] 0):=Fj (f:=V.int .i64) (λ_=>rfl) 0 h
def MW{l:u_}{c:bU}{k k':IntKind}{b:Int}(h:0<=j/\j<=b/\b<=l.length):yy 1 (.sl (Z l) c) (W (.int k j)) (W (.int k' b)) none=W (.sl (Z ((l.drop j.toNat).take (b.toNat-j.toNat))) .no):=Wge (f:=V.int .i64) (λ_=>rfl) h
variable{c4:u_}
def WZ(a:a0=.fx\/a0=.gr 1)(b:(c4.length+1)*8<=Qaq):aT T T 1 8 y (.sl (Z c4) a0) (.sl [iI j] h0)=W (.sl (Z (c4++[j])) (.gr 1)):=
 yC (f:=V.int .i64) (m:=[j]) (λ_=>rfl) (λ_=>rfl) (λ_=>rfl) a u0 b
def Qow{l m:u2}(a:a0=.fx\/a0=.gr 1)(b:m≠[])(d:l.length+m.length<=Qaq):aT T T 1 1 y (.sl (u4 l) a0) (.sl (u4 m) h0)=W (.sl (u4 (l++m)) (.gr 1)):=
 yC (λ_=>rfl) (λ_=>rfl) (λ_=>rfl) a b (by simpa using d)
def Qk9{b:Int}(h:0<=j/\j<=b/\b<=B.length):yy 1 (.sl (u4 B) a0) (W (.int X j)) (W (.int g0 b)) none=W (.sl (u4 ((B.drop j.toNat).take (b.toNat-j.toNat))) .no):=Wge (f:=λb:UInt8=>V.int .u8 b.toNat) (λ_=>rfl) h
def QF{s:u2}:bytesOf (u4 s)=some s:=by
 induction s with
 |nil=>rfl
 |cons b s a=>show bytesOf (.int .u8 b.toNat::u4 s)=_;rw[Wl,a];simp
attribute [go_sem] BB wB Pj MW WZ Qow Qk9 QF
inductive Sl (α:Type) where
 |nil|row (xs:List α)
def Sl.l{a:Type}:Sl a->List a
 | .nil=>[]
 | .row b=>b
def ae{a:Type}(f:a->V):Sl a->V
 | .nil=>.ad
 | .row b=>.sl (b.map f) .no
section
variable{q:Type}{f:q->V}{s:Sl q}{sz:Nat}
def ON:Qai (ae f s)=W (iI s.l.length):=by
 cases s with
 |nil=>rfl
 |row a=>show W (V.int .i64 ((a.map f).length:Nat))=_;rw[wq];rfl
def vz:(ae f s).ng=ae f s:=by cases s<;>rfl
def CA:V.one (ae f s):=by cases s<;>rfl
def Wl0:oK v (ae f s)=W (ae f s):=by cases s<;>cases v<;>rfl
def Qox:(ae f s).cells=[ae f s]:=by cases s<;>rfl
def Wl1:eg T (ae f s):=by cases s<;>rfl
def vw{n:Nat}(h:∀x∈s.l,V.rb n (f x)):V.rb n (ae f s):=by
 cases s with
 |nil=>rfl
 |row a=>
  show V.aL n (a.map f);have b:∀x∈a,V.rb n (f x):=h;clear h;induction a with
  |nil=>rfl
  |cons x l c=>rw[xc,Qae,b x (wA ..),c λy d=>b y (wh _ d)];rfl
def KZ{p r:List q}{x:q}{k:IntKind}{i:Int}(h:s.l=p++x::r)(c:i=p.length)(d:(f x).cells.length=sz):eI sz (.int k i) (ae f s)=W (.ai (f x).cells 0):=by
 cases s with
 |nil=>cases p<;>cases h
 |row a=>
  have b:a=p++x::r:=h;have e:0<=i/\i<(a.map f).length:=by rw[b];simp;omega
  have g:(a.map f)[i.toNat]?=W (f x):=by rw[b,c];simp
  show eI sz (.int k i) (.sl (a.map f) .no)=_;simp only[eI,index,A9a e,u7,va,g,d,A9c]
def Sl.take(n:Nat):Sl q->Sl q
 | .nil=>.nil
 | .row a=>.row (a.take n)
end
attribute [go_sem] ON vz CA Wl0 Qox Wl1
def wK{p:Prop}(h:p:=by first|assumption|omega|(simp -implicitDefEqProofs only[go_sem];first|done|omega)):p:=h
def Quo:eC y .cL (.sl g a0)=(bytesOf g).map V.str:=rfl
attribute [go_sem] Quo
def Qbn(n:Int):Bool:=decide (0<=n)&&decide (n<1114112)&&(decide (n<55296)||decide (57343<n))
def Wrz:E cx 77 [iI r] c5=W (.bool (Qbn r),c5):=by refine v_ X0K X0K ?_ (by first|rfl|(rw[Qae,vN];rfl)|(simp only[Qae,C2,xA,ZZ,vN,xK,C4])) c5;rw[QcM];simp -implicitDefEqProofs(disch:=try exact wK)only[go_sem,HS,Qbn]
def dz(x:Int):UInt8:=UInt8.ofNat x.toNat
def Dp(h:0<=j/\j<=255):((dz j).toNat:Int)=j:=by unfold dz;rw[UInt8.toNat_ofNat'];omega
def bo(n:Int):u2:=
 if n<128 then[dz n]
 else if n<2048 then[dz (192+n/64),dz (128+n%64)]
 else if n<65536 then[dz (224+n/4096),dz (128+n/64%64),dz (128+n%64)]
 else[dz (240+n/262144),dz (128+n/4096%64),dz (128+n/64%64),dz (128+n%64)]
def Jr:0<(bo r).length/\(bo r).length<=4:=by
 unfold bo;split
 ·simp
 ·split
  ·simp
  ·split<;>simp
def Wgf:bo r≠[]:=by have:=(Jr r).1;intro h;rw[h]at this;simp at this
def rM(a:0<=r/\r<=1114111)(I:hN):E cx 78 [iI r] I=W (.sl (u4 (bo r)) .no,I):=by
 refine v_ X0K X0K ?_ (by first|rfl|(rw[Qae,vN];rfl)|(simp only[Qae,C2,xA,ZZ,vN,xK,C4])) I;rw[QcN];by_cases b:r<128
 ·simp -implicitDefEqProofs(disch:=try exact wK)only[go_sem,qa,bo,u4,Dp,Qsg,MQ]
 ·by_cases c:r<2048
  ·simp -implicitDefEqProofs(disch:=try exact wK)only[go_sem,qa,bo,u4,Dp,Qsg,MQ]
  ·by_cases d:r<65536
   ·simp -implicitDefEqProofs(disch:=try exact wK)only[go_sem,qa,bo,u4,Dp,Qsg,MQ]
   ·simp -implicitDefEqProofs(disch:=try exact wK)only[go_sem,qa,bo,u4,Dp,Qsg,MQ]
def vN(s:u2):V.rb 0 (.sl (u4 s) .no):=Ex
def Nu:V.rb 0 (.sl (Z e0) .no):=wB
def La(h:Qbn j):0<=j/\j<=1114111:=by unfold Qbn at h;simp only[vc,A9f]at h;omega
def pZ:u2->Int->Int
 |[],n=>n
 |x::r,n=>pZ r (64*n+x.toNat-128)
def qc(k:Nat):Int:=if k=2 then 192 else if k=3 then 224 else if k=4 then 240 else 0
def VN(b:u2):Int:=pZ b.tail ((b.getD 0 0).toNat-qc b.length)
theorem Qqp(b:u2)(g:b.length<=4):∀(r p:u2) (n i N:Int),b=p++r->i=p.length->-N<=n/\n<=N->(N+3)*64^r.length<=1099511627776->
  pf QaT 0 0 [.sl (u4 b) .no,iI n,iI i] []=W (iI (pZ r n),[])
 |[],p,n,i,N,c,d,e,f=>by
  have a:b.length=p.length:=by rw[c];simp
  rw[yL];simp -implicitDefEqProofs(disch:=try exact wK)only[go_sem,pd,pZ]
 |x::r,p,n,i,N,c,h,m,d=>by
  have e:b.length=p.length+r.length+1:=by rw[c];simp;omega
  have j:b.getD i.toNat 0=x:=by rw[c,h];simp
  have o:=K9 x;have f:(N+3)*64^r.length*64<=1099511627776:=by rw[vT,Int.pow_succ,<-Un]at d;exact d
  have a:(1:Int)<=64^r.length:=Int.pow_pos (by decide);have k:(N+3)*1<=(N+3)*64^r.length:=OQ a Y;have l:=Qqp b g r (p++[x]) (64*n+x.toNat-128) (i+1) (64*N+128) (by rw[c];simp) yZ Y (by
   have q:(64*N+128+3)*64^r.length<=(64*(N+3))*64^r.length:=T4 Y Y;have s:(64*(N+3))*64^r.length=(N+3)*64^r.length*64:=by rw[Nh 64 (N+3),Un,Nh 64,<-Un]
   omega)
  rw[yL];simp -implicitDefEqProofs(disch:=try exact wK)only[go_sem,pd,pZ,j,l]
def Won(b:u2)(c:1<=b.length/\b.length<=4)(I:hN):E cx 75 [.sl (u4 b) .no] I=W (iI (VN b),I):=by
 refine v_ X0K X0K ?_ (by rw[Qae,vN];rfl) I;have d:=K9 (b.getD 0 0);have i:0<=qc b.length/\qc b.length<=240:=by unfold qc;repeat' split;all_goals omega
 have e:pf QaT 0 0 [.sl (u4 b) .no,iI ((b.getD 0 0).toNat-qc b.length),iI 1] []=W (iI (VN b),[]):=by
  obtain⟨x,r,rfl⟩:∃x r,b=x::r:=by
   cases b with
   |nil=>simp at c
   |cons x r=>exact⟨x,r,rfl⟩
  refine Qqp (x::r) c.2 r [x] _ 1 255 rfl rfl Y ?_;have:r.length<=3:=by simp at c;omega
  have a:r.length=0\/r.length=1\/r.length=2\/r.length=3:=by omega
  rcases a with h|h|h|h<;>rw[h]<;>decide
 have f:eI 1 (iI b.length) (.sl [iI 0,iI 0,iI 192,iI 224,iI 240] .fx)=W (.ai [iI (qc b.length)] 0):=by
  have a:b.length=1\/b.length=2\/b.length=3\/b.length=4:=by omega
  rcases a with h|h|h|h<;>rw[h]<;>rfl
 have g:eI 1 (iI b.length) (.sl [iI 0,iI 0,iI 192,iI 224,iI 240] .no)=W (.ai [iI (qc b.length)] 0):=by
  have a:b.length=1\/b.length=2\/b.length=3\/b.length=4:=by omega
  rcases a with h|h|h|h<;>rw[h]<;>rfl
 rw[QcK];simp -implicitDefEqProofs(disch:=try exact wK)only[go_sem,Gk,e,f,g]
def D0(b:u2):Bool:=Qbn (VN b)&&decide (bo (VN b)=b)
def Jc(b:u2)(g:1<=b.length/\b.length<=4)(I:hN):E cx 50 [.sl (u4 b) .no] I=W (.bool (D0 b),I):=by
 have c:=λI=>Won b g I;have d:=λI=>Wrz (VN b) I;refine v_ X0K X0K ?_ (by first|rfl|(rw[Qae,vN];rfl)|(simp only[Qae,C2,xA,ZZ,vN,xK,C4])) I;rw[QcF];unfold D0;cases a:Qbn (VN b)with
 |true=>
  have e:=λI=>rM (VN b) (La a) I;by_cases f:bo (VN b)=b
  ·simp -implicitDefEqProofs(disch:=try exact wK)only[go_sem,we,c,d,e,a,f]
  ·simp -implicitDefEqProofs(disch:=try exact wK)only[go_sem,we,c,d,e,a,f]
 |false=>simp -implicitDefEqProofs(disch:=try exact wK)only[go_sem,we,c,d,a]
theorem Qup(c:UInt8):∀(g:Nat) (a:u2) (cap:bU) (n:Int),n=a.length+g->n<=100->(cap=.fx\/cap=.gr 1)->
  pT QaT 0 0 [.int .u8 c.toNat,iI n,.sl (u4 a) cap] []=W (.sl (u4 (a++List.replicate g c)) .no,[])
 |0,a,cap,n,b,d,e=>by rw[yP];simp -implicitDefEqProofs(disch:=try exact wK)only[go_sem,pn,List.replicate,wt]
 |g+1,a,cap,n,h,d,e=>by have i:Qaq=140737488355328:=rfl;have j:=K9 c;have f:aT T T 1 1 [] (.sl (u4 a) cap) (.sl [.int .u8 c.toNat] .no)=W (.sl (u4 (a++[c])) (.gr 1)):=Qow (m:=[c]) e u0 yZ;have b:=Qup c g (a++[c]) (.gr 1) n yZ d (.inr rfl);rw[wL]at b;rw[yP];simp -implicitDefEqProofs(disch:=try exact wK)only[go_sem,pn,f,b,Gu]
def fw(b:u2)(c:UInt8)(n:Int):u2:=b++List.replicate (n.toNat-b.length) c
def Qz2(b:u2)(c:UInt8)(n:Int)(a:1<=b.length/\(b.length:Int)<=n/\n<=100)(I:hN):E cx 94 [.sl (u4 b) .no,.int .u8 c.toNat,iI n] I=W (.sl (u4 (fw b c n)) .no,I):=by refine v_ X0K X0K ?_ (by rw[Qae,vN];rfl) I;have f:Qaq=140737488355328:=rfl;have d:=Qup c (n.toNat-b.length) b (.gr 1) n Y a.2.2 (.inr rfl);have e I:aT T T 1 1 I (.sl [] .fx) (.sl (u4 b) .no)=W (.sl (u4 b) (.gr 1)):=Qow (l:=[]) (m:=b) (.inl rfl) (by intro h;rw[h]at a;simp at a) yZ;rw[QcU];unfold fw;simp -implicitDefEqProofs(disch:=try exact wK)only[go_sem,IR,d,e]
def Qz3(b:u2)(c:UInt8)(n:Int)(h:(b.length:Int)<=n):((fw b c n).length:Int)=n:=by unfold fw;simp;omega
def gI(b:u2):Nat->Int->Bool
 |0,s=>false
 |f+1,s=>if s<=4 then(if D0 (fw b 128 s)then true else if D0 (fw b 191 s)then true else gI b f (s+1))else false
def lV(b:u2):Bool:=gI b 4 (b.length+1)
theorem Quq(b:u2)(j:1<=b.length/\b.length<=4):∀(f:Nat) (s:Int),5-s<f->(b.length:Int)<s->
  pS QaT 0 0 [.sl (u4 b) .no,iI s] []=W (.bool (gI b f s),[])
 |0,s,a,c=>by
  rw[yM];have:¬s<=4:=by omega
  simp -implicitDefEqProofs(disch:=try exact wK)only[go_sem,mS,gI,this]
 |f+1,s,l,m=>by
  rw[yM];by_cases a:s<=4
  ·have n:=Qz3 b 128 s Y;have o:=Qz3 b 191 s Y;have c I:E cx 94 [.sl (u4 b) .no,.int .u8 128,iI s] I=W (.sl (u4 (fw b 128 s)) .no,I):=Qz2 b 128 s Y I;have g I:E cx 94 [.sl (u4 b) .no,.int .u8 191,iI s] I=W (.sl (u4 (fw b 191 s)) .no,I):=Qz2 b 191 s Y I;have d:=λI=>Jc (fw b 128 s) Y I;have h:=λI=>Jc (fw b 191 s) Y I;have k:=Quq b j f (s+1) Y Y;cases e:D0 (fw b 128 s)with
   |true=>simp -implicitDefEqProofs(disch:=try exact wK)only[go_sem,mS,gI,a,c,d,e]
   |false=>
    cases i:D0 (fw b 191 s)with
    |true=>simp -implicitDefEqProofs(disch:=try exact wK)only[go_sem,mS,gI,a,c,g,d,h,e,i]
    |false=>simp -implicitDefEqProofs(disch:=try exact wK)only[go_sem,mS,gI,a,c,g,d,h,e,i,k]
  ·simp -implicitDefEqProofs(disch:=try exact wK)only[go_sem,mS,gI,a]
def Wl2(b:u2)(d:1<=b.length/\b.length<=4)(I:hN):E cx 76 [.sl (u4 b) .no] I=W (.bool (lV b),I):=by
 refine v_ X0K X0K ?_ (by rw[Qae,vN];rfl) I;have c:=Quq b d 5 (b.length+1) Y Y;have e:gI b 5 (b.length+1)=lV b:=by
  have a:∀(f:Nat) (s:Int),4-s<f->gI b (f+1) s=gI b f s:=by
   intro f;induction f with
   |zero=>intro s g;show(if s<=4 then _ else T)=T;rw[O3 Y]
   |succ f g=>intro s h;show(if s<=4 then(if D0 (fw b 128 s)then true else if D0 (fw b 191 s)then true else gI b (f+1) (s+1))else T)=(if s<=4 then(if D0 (fw b 128 s)then true else if D0 (fw b 191 s)then true else gI b f (s+1))else T);rw[g (s+1) Y]
  exact a 4 _ Y
 rw[e]at c;rw[QcL];simp -implicitDefEqProofs(disch:=try exact wK)only[go_sem,Gr,c]
def eD(b:u2)(a c:Int):u2:=(b.drop a.toNat).take (c.toNat-a.toNat)
def YC(b:u2)(a c:Int)(h:0<=a/\a<=c/\c<=b.length):((eD b a c).length:Int)=c-a:=by unfold eD;simp only[GQ,zj];omega
def gu(b:u2)(a:Int):Nat->Int->Int×Int
 |0,s=>(65533,1)
 |f+1,s=>if 1<s then(if a+s<=b.length then(if lV (eD b a (a+s))then(65533,s)else gu b a f (s-1))else gu b a f (s-1))else(65533,1)
def ir(b:u2)(a:Int):Nat->Int->Int×Int
 |0,s=>gu b a 3 3
 |f+1,s=>if s<=4 then(if a+s<=b.length then(if D0 (eD b a (a+s))then(VN (eD b a (a+s)),s)else ir b a f (s+1))else gu b a 3 3)else gu b a 3 3
def j3(b:u2)(a:Int):Int×Int:=ir b a 4 1
theorem Ql4(b:u2)(k:b.length<=1000000000)(a:Int)(l:0<=a/\a<b.length):∀(f:Nat) (s:Int),s-1<=f->s<=3->
  pP QaT 0 0 [.sl (u4 b) .no,iI a,iI s] []=W (.aR [iI (gu b a f s).1,iI (gu b a f s).2],[])
 |0,s,c,d=>by
  have:¬ 1<s:=by omega
  rw[QdR];simp -implicitDefEqProofs(disch:=try exact wK)only[go_sem,mN,gu,this]
 |f+1,s,m,n=>by
  rw[QdR];by_cases d:1<s
  ·have g:=Ql4 b k a l f (s-1) Y Y;by_cases e:a+s<=b.length
   ·have o:=YC b a (a+s) Y;have h:=λI=>Wl2 (eD b a (a+s)) Y I;have i c:yy 1 (.sl (u4 b) c) (W (iI a)) (W (iI (a+s))) none=W (.sl (u4 (eD b a (a+s))) .no):=Qk9 Y;cases j:lV (eD b a (a+s))with
    |true=>simp -implicitDefEqProofs(disch:=try exact wK)only[go_sem,mN,gu,d,e,j,h,i]
    |false=>simp -implicitDefEqProofs(disch:=try exact wK)only[go_sem,mN,gu,d,e,j,h,i,g]
   ·simp -implicitDefEqProofs(disch:=try exact wK)only[go_sem,mN,gu,d,e,g]
  ·simp -implicitDefEqProofs(disch:=try exact wK)only[go_sem,mN,gu,d]
theorem MP(b:u2)(d:b.length<=1000000000)(a:Int)(e:0<=a/\a<b.length):∀(f:Nat) (s:Int),5-s=f->1<=s->
  pQ QaT 0 0 [.sl (u4 b) .no,iI a,iI s] []=W (.aR [iI (ir b a f s).1,iI (ir b a f s).2],[])
 |0,s,h,i=>by
  have c:¬s<=4:=by omega
  have g:=Ql4 b d a e 3 3 Y Y;rw[yq];simp -implicitDefEqProofs(disch:=try exact wK)only[go_sem,m8,ir,c,g]
 |f+1,s,o,p=>by
  have m:=Ql4 b d a e 3 3 Y Y;have n:=MP b d a e f (s+1) Y Y;have g:s<=4:=by omega
  rw[yq];by_cases h:a+s<=b.length
  ·have q:=YC b a (a+s) Y;have i:=λI=>Jc (eD b a (a+s)) Y I;have j:=λI=>Won (eD b a (a+s)) Y I;have k c:yy 1 (.sl (u4 b) c) (W (iI a)) (W (iI (a+s))) none=W (.sl (u4 (eD b a (a+s))) .no):=Qk9 Y;cases l:D0 (eD b a (a+s))with
   |true=>simp -implicitDefEqProofs(disch:=try exact wK)only[go_sem,m8,ir,g,h,l,i,k,j]
   |false=>simp -implicitDefEqProofs(disch:=try exact wK)only[go_sem,m8,ir,g,h,l,i,k,j,n]
  ·simp -implicitDefEqProofs(disch:=try exact wK)only[go_sem,m8,ir,g,h,m]
def Wgg(b:u2)(c:b.length<=1000000000)(a:Int)(d:0<=a/\a<b.length)(I:hN):E cx 49 [.sl (u4 b) .no,iI a] I=W (.aR [iI (j3 b a).1,iI (j3 b a).2],I):=by refine v_ X0K X0K ?_ (by rw[Qae,vN];rfl) I;have h:=MP b c a d 4 1 Y Y;rw[QcE];simp -implicitDefEqProofs(disch:=try exact wK)only[go_sem,F',h,j3]
variable{J b7:UInt8}
def Fi(h:0<=j/\j<=255):dz j=J↔j=J.toNat:=by
 constructor
 ·intro e;have:=Dp h;rw[e]at this;omega
 ·intro e;have:=Dp h;exact UInt8.toNat_inj.1 Y
def eE(y:UInt8):Bool:=decide (128<=y.toNat)&&decide (y.toNat<=191)
def iH(x y:UInt8):Bool:=
 decide ((if x.toNat=224 then 160 else if x.toNat=240 then 144 else 128)<=y.toNat)&&decide (y.toNat<=(if x.toNat=237 then 159 else if x.toNat=244 then 143 else 191))
def QI:Qbn j=true↔(0<=j/\j<1114112/\(j<55296\/57343<j)):=by
 unfold Qbn;simp only[vc,zH,A9f];constructor
 ·rintro⟨⟨a,b⟩,c⟩;exact⟨a,b,c⟩
 ·rintro⟨a,b,c⟩;exact⟨⟨a,b⟩,c⟩
def Qgi:eE J=true↔128<=J.toNat/\J.toNat<=191:=by unfold eE;simp only[vc,A9f]
def Jt:iH J b7=true↔(if J.toNat=224 then 160 else if J.toNat=240 then 144 else 128)<=b7.toNat/\b7.toNat<=(if J.toNat=237 then 159 else if J.toNat=244 then 143 else 191):=by unfold iH;simp only[vc,A9f]
def QQ{b:u2}:D0 b=true↔Qbn (VN b)/\bo (VN b)=b:=by unfold D0;simp only[vc,A9f]
def Wwu:VN [A]=A.toNat:=by unfold VN qc;simp[pZ]
def rN:VN [A,R]=64*(A.toNat-192)+R.toNat-128:=by unfold VN qc;simp[pZ]
def rO:VN [A,R,b8]=64*(64*(A.toNat-224)+R.toNat-128)+b8.toNat-128:=by unfold VN qc;simp[pZ]
def rP(t:UInt8):VN [A,R,b8,t]=64*(64*(64*(A.toNat-240)+R.toNat-128)+b8.toNat-128)+t.toNat-128:=by unfold VN qc;simp[pZ]
def rQ:[J]=[b7]↔J=b7:=u0
def Wwv:D0 [A]=true↔A.toNat<128:=by
 have b:=K9 A;rw[QQ,Wwu,QI];unfold bo;constructor
 ·rintro⟨c,a⟩;split at a
  ·omega
  ·split at a
   ·simp at a
   ·split at a<;>simp at a
 ·intro h;refine⟨by omega,?_⟩;rw[A9a Y,rQ,Fi Y]
def Www:D0 [A,R]=true↔194<=A.toNat/\A.toNat<=223/\eE R:=by
 have b:=K9 A;have c:=K9 R;rw[QQ,rN,QI,Qgi];generalize d:(64*((A.toNat:Int)-192)+R.toNat-128)=n;unfold bo;constructor
 ·rintro⟨e,a⟩;split at a
  ·simp at a
  ·split at a
   ·simp only[OW,and_true]at a;rw[Fi Y,Fi Y]at a;omega
   ·split at a<;>simp at a
 ·intro h;refine⟨by omega,?_⟩;rw[O3 Y,A9a Y];simp only[OW,and_true];rw[Fi Y,Fi Y];omega
def Wwx:D0 [A,R,b8]=true↔224<=A.toNat/\A.toNat<=239/\iH A R/\eE b8:=by
 have b:=K9 A;have c:=K9 R;have d:=K9 b8;rw[QQ,rO,QI,Qgi,Jt];generalize f:(64*(64*((A.toNat:Int)-224)+R.toNat-128)+b8.toNat-128)=n;unfold bo;constructor
 ·rintro⟨e,a⟩;split at a
  ·simp at a
  ·split at a
   ·simp at a
   ·split at a
    ·simp only[OW,and_true]at a;rw[Fi Y,Fi Y,Fi Y]at a;refine⟨by omega,by omega,⟨?_,?_⟩,by omega⟩<;>(repeat' split)<;>omega
    ·simp at a
 ·rintro⟨g,h,a,i⟩;have j:(A.toNat=224->160<=R.toNat)/\(A.toNat=237->R.toNat<=159)/\128<=R.toNat/\R.toNat<=191:=by
   refine⟨λe => ?_,λe => ?_,?_,?_⟩
   ·have:=a.1;rw[A9a e]at this;exact this
   ·have:=a.2;rw[A9a e]at this;exact this
   ·have:=a.1;split at this<;>first|omega|(split at this<;>omega)
   ·have:=a.2;split at this<;>first|omega|(split at this<;>omega)
  refine⟨by omega,?_⟩;rw[O3 Y,O3 Y,A9a Y];simp only[OW,and_true];rw[Fi Y,Fi Y,Fi Y];omega
def Wwy(t:UInt8):D0 [A,R,b8,t]=true↔240<=A.toNat/\A.toNat<=244/\iH A R/\eE b8/\eE t:=by
 have b:=K9 A;have c:=K9 R;have d:=K9 b8;have f:=K9 t;rw[QQ,rP,QI,Qgi,Qgi,Jt];generalize g:(64*(64*(64*((A.toNat:Int)-240)+R.toNat-128)+b8.toNat-128)+t.toNat-128)=n;unfold bo;constructor
 ·rintro⟨e,a⟩;split at a
  ·simp at a
  ·split at a
   ·simp at a
   ·split at a
    ·simp at a
    ·simp only[OW,and_true]at a;rw[Fi Y,Fi Y,Fi Y,Fi Y]at a;refine⟨by omega,by omega,⟨?_,?_⟩,by omega,by omega⟩<;>(repeat' split)<;>omega
 ·rintro⟨h,i,a,j,k⟩;have l:(A.toNat=240->144<=R.toNat)/\(A.toNat=244->R.toNat<=143)/\128<=R.toNat/\R.toNat<=191:=by
   refine⟨λe => ?_,λe => ?_,?_,?_⟩
   ·have:=a.1;rw[O3 Y,A9a e]at this;exact this
   ·have:=a.2;rw[O3 Y,A9a e]at this;exact this
   ·have:=a.1;split at this<;>first|omega|(split at this<;>omega)
   ·have:=a.2;split at this<;>first|omega|(split at this<;>omega)
  refine⟨by omega,?_⟩;rw[O3 Y,O3 Y,O3 Y];simp only[OW,and_true];rw[Fi Y,Fi Y,Fi Y,Fi Y];omega
def dD:u2->AQ
 |[]=>none
 |x::r=>
  if x.toNat<128 then some 1
  else if 194<=x.toNat/\x.toNat<=223 then(match r with|y::_=>if eE y then some 2 else none|[]=>none)
  else if 224<=x.toNat/\x.toNat<=239 then(match r with|y::z::_=>if iH x y&&eE z then some 3 else none|_=>none)
  else if 240<=x.toNat/\x.toNat<=244 then(match r with|y::z::t::_=>if iH x y&&eE z&&eE t then some 4 else none|_=>none)
  else none
def p3(x:UInt8)(r:u2):dD (x::r)=
  if x.toNat<128 then W 1
  else if 194<=x.toNat/\x.toNat<=223 then(match r with|y::_=>if eE y then W 2 else none|[]=>none)
  else if 224<=x.toNat/\x.toNat<=239 then(match r with|y::z::_=>if iH x y&&eE z then W 3 else none|_=>none)
  else if 240<=x.toNat/\x.toNat<=244 then(match r with|y::z::t::_=>if iH x y&&eE z&&eE t then W 4 else none|_=>none)
  else none:=rfl
def zN(h:dD B=W d):1<=d/\d<=4/\d<=B.length:=by
 unfold dD at h;split at h
 ·cases h
 ·split at h
  ·cases h;simp
  ·split at h
   ·split at h
    ·split at h
     ·cases h;simp
     ·cases h
    ·cases h
   ·split at h
    ·split at h
     ·split at h
      ·cases h;simp
      ·cases h
     ·cases h
    ·split at h
     ·split at h
      ·split at h
       ·cases h;simp
       ·cases h
      ·cases h
     ·cases h
def uC:D0 [A]=true↔dD (A::D)=some 1:=by
 rw[Wwv];constructor
 ·intro h;rw[p3,A9a h]
 ·intro h;rw[p3]at h;split at h
  ·assumption
  ·exfalso;split at h
   ·split at h
    ·split at h<;>cases h
    ·cases h
   ·split at h
    ·split at h
     ·split at h<;>cases h
     ·cases h
    ·split at h
     ·split at h
      ·split at h<;>cases h
      ·cases h
     ·cases h
def uD:D0 [A,R]=true↔dD (A::R::D)=some 2:=by
 rw[Www];constructor
 ·rintro⟨a,b,c⟩;rw[p3,O3 Y,A9a ⟨a,b⟩];simp only[c,A9c]
 ·intro h;rw[p3]at h;split at h
  ·cases h
  ·split at h
   ·rename_i a;simp only at h;split at h
    ·exact⟨a.1,a.2,by assumption⟩
    ·cases h
   ·exfalso;split at h
    ·split at h
     ·split at h<;>cases h
     ·cases h
    ·split at h
     ·split at h
      ·split at h<;>cases h
      ·cases h
     ·cases h
def uE:D0 [A,R,b8]=true↔dD (A::R::b8::D)=some 3:=by
 rw[Wwx];constructor
 ·rintro⟨a,b,c,d⟩;rw[p3,O3 Y,O3 Y,A9a ⟨a,b⟩];simp only[c,d,CB,A9c]
 ·intro h;rw[p3]at h;split at h
  ·cases h
  ·split at h
   ·exfalso;simp only at h;split at h<;>cases h
   ·split at h
    ·rename_i b;simp only at h;split at h
     ·rename_i a;simp only[vc]at a;exact⟨b.1,b.2,a.1,a.2⟩
     ·cases h
    ·exfalso;split at h
     ·split at h
      ·split at h<;>cases h
      ·cases h
     ·cases h
def uF(t:UInt8)(r:u2):D0 [A,R,b8,t]=true↔dD (A::R::b8::t::r)=some 4:=by
 rw[Wwy];constructor
 ·rintro⟨a,b,c,d,e⟩;rw[p3,O3 Y,O3 Y,O3 Y,A9a ⟨a,b⟩];simp only[c,d,e,CB,A9c]
 ·intro h;rw[p3]at h;split at h
  ·cases h
  ·split at h
   ·exfalso;simp only at h;split at h<;>cases h
   ·split at h
    ·exfalso;simp only at h;split at h<;>cases h
    ·split at h
     ·rename_i b;simp only at h;split at h
      ·rename_i a;simp only[vc]at a;exact⟨b.1,b.2,a.1.1,a.1.2,a.2⟩
      ·cases h
     ·cases h
def EJ(k:Nat)(a:1<=k)(b:k<=4)(c:k<=D.length):D0 (D.take k)=true↔dD D=some k:=by
 match k,a,b,D,c with
 |1,_,_,x::D,_=>exact uC x D
 |2,_,_,x::y::D,_=>exact uD x y D
 |3,_,_,x::y::z::D,_=>exact uE x y z D
 |4,_,_,x::y::z::t::D,_=>exact uF x y z t D
 |1,_,_,[],h=>simp at h
 |2,_,_,[],h=>simp at h
 |2,_,_,[_],h=>simp at h
 |3,_,_,[],h=>simp at h
 |3,_,_,[_],h=>simp at h
 |3,_,_,[_,_],h=>simp at h
 |4,_,_,[],h=>simp at h
 |4,_,_,[_],h=>simp at h
 |4,_,_,[_,_],h=>simp at h
 |4,_,_,[_,_,_],h=>simp at h
 |k+5,_,h,_,_=>omega
def Jw(b:u2)(a:Int)(k:Int)(c:0<=a)(d:0<=k):eD b a (a+k)=(b.drop a.toNat).take k.toNat:=by unfold eD;congr 1;omega
def Wl3(b:u2)(a:Int)(p:Int×Int):Prop:=
 1<=p.2/\p.2<=4/\a+p.2<=b.length/\((dD (b.drop a.toNat)=some p.2.toNat/\p.1=VN ((b.drop a.toNat).take p.2.toNat))\/(dD (b.drop a.toNat)=none/\p.1=65533))
section
variable(b:u2)(a:Int)(q:0<=a/\a<b.length)
include q
theorem Qla(c:dD (b.drop a.toNat)=none):∀(f:Nat) (s:Int),s<=4->Wl3 b a (gu b a f s)
 |0,s,d=>⟨by show(1:Int)<=1;decide,by show(1:Int)<=4;decide,by show a+1<=_;omega,.inr ⟨c,rfl⟩⟩
 |f+1,s,d=>by
  unfold gu;split
  ·split
   ·split
    ·exact⟨by show 1<=s;omega,d,by show a+s<=_;omega,.inr ⟨c,rfl⟩⟩
    ·exact Qla c f (s-1) Y
   ·exact Qla c f (s-1) Y
  ·exact⟨by decide,by decide,by show a+1<=_;omega,.inr ⟨c,rfl⟩⟩
theorem Wgh(h:∀j:Int,1<=j->j<=4->a+j<=b.length->D0 (eD b a (a+j))=T):dD (b.drop a.toNat)=none:=by
 cases d:dD (b.drop a.toNat)with
 |none=>rfl
 |some k=>have c:=zN d;have f:=(EJ _ k c.1 c.2.1 c.2.2).2 d;rw[zj]at c;have e:=h k Y Y Y;rw[Jw b a k q.1 Y,zi,f]at e;cases e
theorem Qur:∀(f:Nat) (s:Int),5-s=f->1<=s->(∀j:Int,1<=j->j<s->a+j<=b.length->D0 (eD b a (a+j))=T)->Wl3 b a (ir b a f s)
 |0,s,g,h,c=>by unfold ir;exact Qla b a q (Wgh b a q λj d i e=>c j d Y e) 3 3 Y
 |f+1,s,l,h,g=>by
  unfold ir;rw[A9a Y];by_cases c:a+s<=b.length
  ·rw[A9a c];cases d:D0 (eD b a (a+s))with
   |true=>
    rw[A9a rfl];refine⟨h,by show s<=4;omega,c,.inl ⟨?_,?_⟩⟩
    ·rw[Jw b a s q.1 Y]at d;exact(EJ _ s.toNat Y Y (by rw[zj];omega)).1 d
    ·show VN _=_;rw[Jw b a s q.1 Y]
   |false=>
    rw[O3 (by decide)];refine Qur f (s+1) Y Y λj i m k => ?_;by_cases e:j=s
    ·rw[e];exact d
    ·exact g j i Y k
  ·rw[O3 c];refine Qla b a q (Wgh b a q λj d i e => ?_) 3 3 Y;exact g j d Y e
theorem Qus:Wl3 b a (j3 b a):=Qur b a q 4 1 Y Y λj c d=>by omega
end
def Ju:Nat->u2->Bool
 |0,r=>true
 |f+1,r=>if r.isEmpty then true else match dD r with|none=>false|some k=>Ju f (r.drop k)
def BO:Nat->u2->Bool
 |0,r=>true
 |f+1,r=>if r.isEmpty then true else if r.headD 0=0 then false else match dD r with|none=>false|some k=>BO f (r.drop k)
def fy(b:u2):Bool:=b.all λx=>decide (x≠0)
def VT(b:u2):Bool:=fy b&&Ju b.length b
def Qz4(h:eE J):decide (J≠0):=by have:=Qgi.1 h;rw[A9f];rintro rfl;exact absurd this.1 (by decide)
def Woo(h:iH J b7):decide (b7≠0):=by
 have:=(Jt.1 h).1;rw[A9f];rintro rfl;revert this;split
 ·intro h;exact absurd h (by decide)
 ·split
  ·intro h;exact absurd h (by decide)
  ·intro h;exact absurd h (by decide)
def rR(h:¬J.toNat<128):decide (J≠0):=by rw[A9f];rintro rfl;exact h (by decide)
def Wl4(h:dD B=W d):fy B=(decide (B.headD 0≠0)&&fy (B.drop d)):=by
 unfold dD at h;split at h
 ·cases h
 ·rename_i x B;show(decide (x≠0)&&fy B)=_;split at h
  ·cases h;rfl
  ·rename_i r;have b:=rR r;show(decide (x≠0)&&fy B)=(decide (x≠0)&&_);rw[b,Ab,Ab];split at h
   ·split at h
    ·split at h
     ·rename_i y a c;cases h;show(decide (y≠0)&&fy a)=fy a;rw[Qz4 c,Ab]
     ·cases h
    ·cases h
   ·split at h
    ·split at h
     ·split at h
      ·rename_i y z c a;cases h;simp only[vc]at a;show(decide (y≠0)&&(decide (z≠0)&&fy c))=fy c;rw[Woo a.1,Qz4 a.2,Ab,Ab]
      ·cases h
     ·cases h
    ·split at h
     ·split at h
      ·split at h
       ·rename_i y z t c a;cases h;simp only[vc]at a;show(decide (y≠0)&&(decide (z≠0)&&(decide (t≠0)&&fy c)))=fy c;rw[Woo a.1.1,Qz4 a.1.2,Qz4 a.2,Ab,Ab,Ab]
       ·cases h
      ·cases h
     ·cases h
theorem Qz5:∀(f:Nat) (r:u2),r.length<=f->BO f r=(fy r&&Ju f r)
 |0,r,h=>by have:r=[]:=CP.1 Y;subst this;rfl
 |f+1,r,h=>by
  unfold BO Ju;cases r with
  |nil=>rfl
  |cons x r=>
   show(if(x::r).headD 0=0 then T else match dD (x::r)with|none=>T|some k=>BO f ((x::r).drop k))=(fy (x::r)&&match dD (x::r)with|none=>T|some k=>Ju f ((x::r).drop k));cases b:dD (x::r)with
   |none=>simp only[JM];split<;>rfl
   |some k=>
    have c:=zN b;simp only;rw[Wl4 b,Qz5 f _ (by rw[zj,vT];simp at h;omega)];by_cases a:(x::r).headD 0=0
    ·rw[A9a a];simp only[a];rfl
    ·rw[O3 a];simp only[ne_eq,a,not_false_eq_true,decide_true,Ab]
theorem Nx:∀(f:Nat) (r:u2),r.length<=f->Ju (f+1) r=Ju f r
 |0,r,h=>by have:r=[]:=CP.1 Y;subst this;rfl
 |f+1,r,h=>by
  show(if r.isEmpty then true else match dD r with|none=>T|some k=>Ju (f+1) (r.drop k))=(if r.isEmpty then true else match dD r with|none=>T|some k=>Ju f (r.drop k));split
  ·rfl
  ·cases a:dD r with
   |none=>rfl
   |some k=>have b:=zN a;exact Nx f _ (by rw[zj];omega)
theorem Qqr:∀(d f:Nat) (r:u2),r.length<=f->Ju (f+d) r=Ju f r
 |0,f,r,h=>rfl
 |d+1,f,r,h=>by rw[show f+(d+1)=(f+d)+1 by omega,Nx _ _ Y,Qqr d f r h]
def Wgi(h:D.length<=C):Ju C D=Ju D.length D:=by obtain⟨d,rfl⟩:=Xe h;exact Qqr d _ _ (vE _)
def QN(h:B≠[]):Ju B.length B=match dD B with|none=>T|some k=>Ju (B.drop k).length (B.drop k):=by
 cases B with
 |nil=>exact absurd rfl h
 |cons x B=>
  show(if(x::B).isEmpty then true else match dD (x::B)with|none=>T|some k=>Ju B.length ((x::B).drop k))=_;rw[O3 u0];cases a:dD (x::B)with
  |none=>rfl
  |some k=>have b:=zN a;simp only;exact Wgi _ _ (by rw[zj,vT];omega)
def Wr0(h:dD B=W d):(VN (B.take d)=0↔(B.headD 0=0)):=by
 have a:=zN h;have b:=(EJ B d a.1 a.2.1 a.2.2).2 h;rw[QQ]at b
 match B,a with
 |x::B,a=>
  show _↔x=0;by_cases c:d=1
  ·subst c;show VN [x]=0↔_;rw[Wwu];constructor
   ·intro e;apply UInt8.toNat_inj.1;show x.toNat=0;omega
   ·intro e;rw[e];rfl
  ·constructor
   ·intro e;rw[e]at b;exfalso;have r:(bo 0).length=((x::B).take d).length:=by rw[b.2]
    rw[GQ]at r;have f:(bo 0).length=1:=rfl;have:min d (x::B).length=1:=by omega
    omega
   ·intro e;exfalso;subst e;have:dD (0::B)=some 1:=by rw[p3,A9a (by decide)]
    rw[this]at h;cases h;exact c rfl
def Wwz(h:dD B=none)(k:Nat)(a:1<=k)(b:k<=4)(c:k<=B.length):D0 (B.take k)=T:=by
 cases d:D0 (B.take k)with
 |false=>rfl
 |true=>rw[(EJ B k a b c).1 d]at h;cases h
theorem Qqs(b:u2)(q:b.length<=1000000000):∀(f:Nat) (a:Int),0<=a/\a<=b.length->b.length-a<f->
  pN QaT 0 0 [.sl (u4 b) .no,iI a] []=W (.bool (BO f (b.drop a.toNat)),[])
 |0,a,c,d=>by omega
 |f+1,a,m,K=>by
  rw[Cl];by_cases g:a<b.length
  ·have t:=Qus b a ⟨m.1,g⟩;have i:=λI=>Wgg b q a ⟨m.1,g⟩ I;have u:(b.drop a.toNat).length=b.length-a.toNat:=zj ..;have o:(b.drop a.toNat).isEmpty=T:=by
    cases e:b.drop a.toNat with
    |nil=>rw[e]at u;simp at u;omega
    |cons x r=>rfl
   have j:(b.drop a.toNat).headD 0=b.getD a.toNat 0:=by rw[List.headD_eq_head?_getD,List.head?_drop,y9]
   generalize L:j3 b a=p at t i;obtain⟨n,s⟩:=p;obtain⟨B,C,D,v⟩:=t;simp only at B C D v i;have d:=Jw b a s m.1 Y;have w c:yy 1 (.sl (u4 b) c) (W (iI a)) (W (iI (a+s))) none=W (.sl (u4 (eD b a (a+s))) .no):=Qk9 Y;have E:=YC b a (a+s) Y;have y:=λI=>Jc (eD b a (a+s)) Y I;have F:BO (f+1) (b.drop a.toNat)=if b.getD a.toNat 0=0 then T else match dD (b.drop a.toNat)with|none=>T|some k=>BO f ((b.drop a.toNat).drop k):=by show(if(b.drop a.toNat).isEmpty then true else if(b.drop a.toNat).headD 0=0 then T else _)=_;rw[o,j];rfl
   rw[F];by_cases l:b.getD a.toNat 0=0
   ·have e:((b.getD a.toNat 0).toNat:Int)=0:=by rw[l];rfl
    rw[A9a l];simp -implicitDefEqProofs(disch:=try exact wK)only[go_sem,m5,i,g,e]
   ·have r:¬((b.getD a.toNat 0).toNat:Int)=0:=λe=>l (UInt8.toNat_inj.1 (by show _=0;omega));rw[O3 l];rcases v with ⟨h,x⟩|⟨h,x⟩
    ·have z:=(EJ _ s.toNat Y Y Y).2 h;have A:=Wr0 h;rw[j,<-x]at A;have G:¬n=0:=λe=>l (A.1 e);rw[<-d]at z;have H:=Qqs b q f (a+s) Y Y;rw[h];have J:(b.drop a.toNat).drop s.toNat=b.drop (a+s).toNat:=by rw[JL];congr 1;omega
     simp only[J];simp -implicitDefEqProofs(disch:=try exact wK)only[go_sem,m5,i,w,y,g,r,G,z,H]
    ·have z:=Wwz h s.toNat Y Y Y;rw[<-d]at z;rw[h];simp -implicitDefEqProofs(disch:=try exact wK)only[go_sem,m5,i,w,y,g,r,z]
  ·have e:b.drop a.toNat=[]:=T_ Y;rw[e];have c:BO (f+1) []:=rfl;rw[c];simp -implicitDefEqProofs(disch:=try exact wK)only[go_sem,m5,g]
def Ww0(b:u2)(a:b.length<=1000000000)(I:hN):E cx 29 [.sl (u4 b) .no] I=W (.bool (VT b),I):=by
 refine v_ X0K X0K ?_ (by rw[Qae,vN];rfl) I;have h:=Qqs b a (b.length+1) 0 Y Y;have e:BO (b.length+1) (b.drop (0:Int).toNat)=VT b:=by show BO _ b=_;rw[Qz5 _ _ Y,Nx _ _ (vE _)];rfl
 rw[e]at h;rw[QcB];simp -implicitDefEqProofs(disch:=try exact wK)only[go_sem,QeC,h]
abbrev lW:=BitVec 64
def kY:lW:=9259542123273814144#64
def fT(x:UInt8):lW:=BitVec.ofNat 64 x.toNat
def Wop:(fT A).toNat=A.toNat:=by have:=K9 A;unfold fT;rw[BitVec.toNat_ofNat];omega
def Qoy(A:lW):BitVec.ofInt 64 (A.toNat:Int)=A:=by apply BitVec.eq_of_toNat_eq;rw[BitVec.toNat_ofInt];have:=A.isLt;omega
def Woq(A:lW):IntKind.u64.wrap (A.toNat:Int)=A.toNat:=by have:=A.isLt;simp only[IntKind.wrap_u64];omega
variable{b5:iB}
def j4(A B:lW):eB .or b5 (.int .u64 A.toNat) (.int .u64 B.toNat)=W (.int .u64 (A|||B).toNat):=by show W (V.int .u64 (IntKind.u64.wrap (BitVec.ofInt 64 (A.toNat:Int)|||BitVec.ofInt 64 (B.toNat:Int)).toNat))=_;rw[Qoy,Qoy,Woq]
def Sp(A:lW):eB .and b5 (.int .u64 A.toNat) (.int .u64 9259542123273814144)=W (.int .u64 (A&&&kY).toNat):=by show W (V.int .u64 (IntKind.u64.wrap (BitVec.ofInt 64 (A.toNat:Int)&&&BitVec.ofInt 64 (9259542123273814144:Int)).toNat))=_;rw[Qoy,show BitVec.ofInt 64 (9259542123273814144:Int)=kY from rfl,Woq]
def Ww1:eC y (.toInt .u64) (.int .u8 A.toNat)=W (.int .u64 (fT A).toNat):=by have:=K9 A;show W (V.int .u64 (IntKind.u64.wrap (A.toNat:Int)))=_;rw[Wop];congr 2;simp only[IntKind.wrap_u64];omega
def PX(h:C=8\/C=16\/C=24\/C=32\/C=40\/C=48\/C=56):eB .shl b5 (.int .u64 (fT A).toNat) (.int .u64 C)=W (.int .u64 (fT A<<<C).toNat):=by
 have a:=K9 A;show(if(C:Int)<0 then none else W (V.int .u64 (IntKind.u64.wrap (((fT A).toNat:Int)*2^(min (C:Int).toNat 64)))))=_;rw[O3 Y];congr 2;rw[BitVec.toNat_shiftLeft,Xm,Wop];have b5:(2:Int)^(min (C:Int).toNat 64)=((2^C:Nat):Int):=by rcases h with rfl|rfl|rfl|rfl|rfl|rfl|rfl<;>rfl
 rw[b5,<-Qy];generalize A.toNat*2^C=y;simp only[IntKind.wrap_u64];omega
def jq(r:u2):lW:=
 fT (r.getD 0 0)|||fT (r.getD 1 0)<<<8|||fT (r.getD 2 0)<<<16|||fT (r.getD 3 0)<<<24|||fT (r.getD 4 0)<<<32|||fT (r.getD 5 0)<<<40|||fT (r.getD 6 0)<<<48|||fT (r.getD 7 0)<<<56
def fC(r:u2):Prop:=∀i,i<8->(r.getD i 0).toNat<128
def rS(h:C=0\/C=8\/C=16\/C=24\/C=32\/C=40\/C=48\/C=56):∀n:Fin 256,(BitVec.ofNat 64 n.val<<<C)&&&kY=0#64↔n.val<128:=by rcases h with rfl|rfl|rfl|rfl|rfl|rfl|rfl|rfl<;>decide
def jF(h:C=0\/C=8\/C=16\/C=24\/C=32\/C=40\/C=48\/C=56):(fT A<<<C)&&&kY=0#64↔A.toNat<128:=rS C h ⟨A.toNat,K9 A⟩
def DX(A B C:lW):(A|||B)&&&C=(A&&&C)|||(B&&&C):=by
 ext i a
 simp only[BitVec.getElem_and,BitVec.getElem_or];cases A[i]<;>cases B[i]<;>cases C[i]<;>rfl
def kZ(A B:lW):A|||B=0#64↔A=0#64/\B=0#64:=by
 constructor
 ·intro h;have a:∀i (b:i<64),A[i]=T/\B[i]=T:=λi b=>by
   have c:(A|||B)[i]=(0#64)[i]:=by rw[h]
   simp only[BitVec.getElem_or,BitVec.getElem_zero,Ud]at c;exact c
  constructor
  ·ext i b;rw[(a i b).1,BitVec.getElem_zero]
  ·ext i b;rw[(a i b).2,BitVec.getElem_zero]
 ·rintro⟨rfl,rfl⟩;rfl
def Qxn:jq D&&&kY=0#64↔fC D:=by
 have a:fT (D.getD 0 0)=fT (D.getD 0 0)<<<0:=u0;unfold jq;rw[a];simp only[DX,kZ];rw[jF _ 0 u0,jF _ 8 u0,jF _ 16 u0,jF _ 24 u0,jF _ 32 u0,jF _ 40 u0,jF _ 48 u0,jF _ 56 u0];constructor
 ·rintro⟨⟨⟨⟨⟨⟨⟨b,c⟩,d⟩,e⟩,f⟩,g⟩,h⟩,j⟩ i k
  match i,k with
  |0,_=>exact b
  |1,_=>exact c
  |2,_=>exact d
  |3,_=>exact e
  |4,_=>exact f
  |5,_=>exact g
  |6,_=>exact h
  |7,_=>exact j
 ·intro h;exact⟨⟨⟨⟨⟨⟨⟨h 0 Y,h 1 Y⟩,h 2 Y⟩,h 3 Y⟩,h 4 Y⟩,h 5 Y⟩,h 6 Y⟩,h 7 Y⟩
def N6(r:u2)(s:8<=r.length)(I:hN):E cx 105 [.sl (u4 r) .no] I=W (.int .u64 (jq r).toNat,I):=by
 have b x:eB .shl .no (.int .u64 (fT x).toNat) (.int .u64 8)=W (.int .u64 (fT x<<<8).toNat):=PX x 8 u0;have c x:eB .shl .no (.int .u64 (fT x).toNat) (.int .u64 16)=W (.int .u64 (fT x<<<16).toNat):=PX x 16 u0;have d x:eB .shl .no (.int .u64 (fT x).toNat) (.int .u64 24)=W (.int .u64 (fT x<<<24).toNat):=PX x 24 u0;have e x:eB .shl .no (.int .u64 (fT x).toNat) (.int .u64 32)=W (.int .u64 (fT x<<<32).toNat):=PX x 32 u0;have f x:eB .shl .no (.int .u64 (fT x).toNat) (.int .u64 40)=W (.int .u64 (fT x<<<40).toNat):=PX x 40 u0;have g x:eB .shl .no (.int .u64 (fT x).toNat) (.int .u64 48)=W (.int .u64 (fT x<<<48).toNat):=PX x 48 u0;have h x:eB .shl .no (.int .u64 (fT x).toNat) (.int .u64 56)=W (.int .u64 (fT x<<<56).toNat):=PX x 56 u0;have a:∀(k:Nat),k<8->eI 1 (iI k) (.sl (u4 r) .no)=W (.ai [.int .u8 (r.getD k 0).toNat] 0):=λk t=>by rw[EH Y,zi]
 have i:=a 0 Y;have j:=a 1 Y;have l:=a 2 Y;have m:=a 3 Y;have n:=a 4 Y;have o:=a 5 Y;have p:=a 6 Y;have q:=a 7 Y;refine v_ X0K X0K ?_ (by first|rfl|(rw[Qae,vN];rfl)|(simp only[Qae,C2,xA,ZZ,vN,xK,C4])) I;rw[QdA];simp -implicitDefEqProofs(disch:=try exact wK)only[go_sem,Kz,Ww1,PX,j4,i,j,l,m,n,o,p,q,b,c,d,e,f,g,h,jq]
def Wr1(r:u2):((jq r&&&kY).toNat:Int)=0↔fC r:=by
 rw[<-Qxn];constructor
 ·intro h;apply BitVec.eq_of_toNat_eq;show _=0;omega
 ·intro h;rw[h];rfl
def rT(b:u2):(((jq D|||jq b)&&&kY).toNat:Int)=0↔fC D/\fC b:=by
 rw[<-Qxn,<-Qxn,<-kZ,<-DX];constructor
 ·intro h;apply BitVec.eq_of_toNat_eq;show _=0;omega
 ·intro h;rw[h];rfl
def Ww2(b c d:u2):((((jq D|||jq b)|||(jq c|||jq d))&&&kY).toNat:Int)=0↔(fC D/\fC b)/\(fC c/\fC d):=by
 rw[<-Qxn,<-Qxn,<-Qxn,<-Qxn,<-kZ,<-kZ,<-kZ,<-DX,<-DX,<-DX];constructor
 ·intro h;apply BitVec.eq_of_toNat_eq;show _=0;omega
 ·intro h;rw[h];rfl
def RJ(r:u2):Bool:=Ju r.length r
def Wgj:RJ []:=rfl
def PY{r:u2}(h:J.toNat<128):RJ (J::r)=RJ r:=by unfold RJ;rw[QN u0,p3,A9a h];rfl
theorem JD:∀(k:Nat) (r:u2),k<=r.length->(∀i,i<k->(r.getD i 0).toNat<128)->RJ (r.drop k)=RJ r
 |0,r,_,_=>rfl
 |k+1,[],h,_=>by simp at h
 |k+1,x::r,h,a=>by have b:x.toNat<128:=a 0 Y;rw[PY b];exact JD k r (by simpa using h) λi c=>by simpa using a (i+1) Y
def Ny(h:fC (B.drop d)):∀i,d<=i->i<d+8->(B.getD i 0).toNat<128:=by
 intro i a b;have:=h (i-d) Y;rw[y9,DT,show d+(i-d)=i by omega]at this
 rwa[y9]
def Wr2{r:u2}(h:8<=r.length)(a:fC r):RJ (r.drop 8)=RJ r:=JD 8 r h a
def Wl5{r:u2}(h:16<=r.length)(a:fC r)(b:fC (r.drop 8)):RJ (r.drop 16)=RJ r:=JD 16 r h λi d=>by
 by_cases c:i<8
 ·exact a i c
 ·exact Ny b i Y Y
def Wl6(h:32<=B.length)(a:fC B)(b:fC (B.drop 8))(d:fC (B.drop 16))(e:fC (B.drop 24)):RJ (B.drop 32)=RJ B:=JD 32 B h λi f=>by
 by_cases c:i<8
 ·exact a i c
 ·by_cases c:i<16
  ·exact Ny b i Y Y
  ·by_cases c:i<24
   ·exact Ny d i Y Y
   ·exact Ny e i Y Y
def MU{r:u2}{c:bU}{k:Nat}(h:k<=r.length):yy 1 (.sl (u4 r) c) (W (iI k)) none none=W (.sl (u4 (r.drop k)) .no):=by
 have:=Wc8 (f:=λb:UInt8=>V.int .u8 b.toNat) (l:=r) (c:=c) (λ_=>rfl) (k:=.i64) (a:=(k:Int)) Y
 rwa[zi]at this
theorem Qz6(d:Rk):∀(f:Nat) (r:u2),r.length<f->(∀s:u2,s.length<=r.length->d [.sl (u4 s) .no] []=W (.bool (RJ s),[]))->
  pU QaT 0 0 d 0 [.sl (u4 r) .no] []=W (.bool (RJ r),[])
 |0,r,a,b=>by omega
 |f+1,r,y,h=>by
  have i:=h r (vE _);rw[Dd];by_cases e:32<(r.length:Int)
  ·have j:=λI=>N6 r Y I;have l:=λI=>N6 (r.drop 8) (by rw[zj];omega) I;have m:=λI=>N6 (r.drop 16) (by rw[zj];omega) I;have n:=λI=>N6 (r.drop 24) (by rw[zj];omega) I;have o:yy 1 (.sl (u4 r) .no) (W (iI 8)) none none=W (.sl (u4 (r.drop 8)) .no):=MU (k:=8) Y;have a:yy 1 (.sl (u4 r) .no) (W (iI 16)) none none=W (.sl (u4 (r.drop 16)) .no):=MU (k:=16) Y;have b:yy 1 (.sl (u4 r) .no) (W (iI 24)) none none=W (.sl (u4 (r.drop 24)) .no):=MU (k:=24) Y;have c:yy 1 (.sl (u4 r) .no) (W (iI 32)) none none=W (.sl (u4 (r.drop 32)) .no):=MU (k:=32) Y;have q:=Ww2 r (r.drop 8) (r.drop 16) (r.drop 24);by_cases g:((((jq r|||jq (r.drop 8))|||(jq (r.drop 16)|||jq (r.drop 24)))&&&kY).toNat:Int)=0
   ·have⟨⟨t,u⟩,v,w⟩:=q.1 g;have p:=Qz6 d f (r.drop 32) (by rw[zj];omega) (λs x=>h s (by rw[zj]at x;omega));rw[Wl6 Y t u v w]at p;simp only[go_sem,oj,e,g,j,l,m,n,o,a,b,c,j4,Sp,p]
   ·simp only[go_sem,oj,my,QdV,e,g,j,l,m,n,o,a,b,c,j4,Sp,i]
  ·simp only[go_sem,oj,my,QdV,e,i]
def j5(x:UInt8):Nat:=BY.getD x.toNat 0
def hU(x:UInt8):Nat:=if 194<=x.toNat/\x.toNat<=223 then 2 else if 224<=x.toNat/\x.toNat<=239 then 3 else if 240<=x.toNat/\x.toNat<=244 then 4 else 1
def je(x:UInt8):Nat:=if x.toNat=224 then 160 else if x.toNat=240 then 144 else 128
def jg(x:UInt8):Nat:=if x.toNat=237 then 159 else if x.toNat=244 then 143 else 191
def Wr3:∀n:Fin 256,128<=n.val->BY.getD n.val 0<256/\BY.getD n.val 0%8=(if 194<=n.val/\n.val<=223 then 2 else if 224<=n.val/\n.val<=239 then 3 else if 240<=n.val/\n.val<=244 then 4 else 1)/\BY.getD n.val 0/16<16/\
  (194<=n.val->n.val<=244->fu[BY.getD n.val 0/16]?=W (if n.val=224 then 160 else if n.val=240 then 144 else 128,if n.val=237 then 159 else if n.val=244 then 143 else 191)):=by decide
def Wr4:fu.length=16:=by decide
def Wgk:BY.length=256:=by decide
def Wr5:B4 256 1 (.int .u8 A.toNat) (.ai G_ 0)=W (.ai G_ A.toNat):=by
 have:=K9 A;have h:index (.int .u8 A.toNat) 256=W A.toNat:=by simp[index];omega
 simp[B4,h]
def Ww3:eL [] T 1 (.ai G_ A.toNat)=W (.int .u8 (j5 A)):=by
 have a:=K9 A;have h:A.toNat<BY.length:=by rw[Wgk];exact a
 show Ev.part T 1 G_ A.toNat=_;unfold Ev.part G_ j5;rw[O3 (by decide),A9a rfl,ym,vO h,y9,vO];rfl
def rU(h:C<256):eB .and .no (.int .u8 C) (.int .u8 7)=W (.int .u8 (C%8:Nat)):=by
 have a:(BitVec.ofInt 8 (C:Int)&&&BitVec.ofInt 8 7).toNat=C%8:=by
  rw[BitVec.toNat_and];have b:(BitVec.ofInt 8 (C:Int)).toNat=C:=by simp[BitVec.toNat_ofInt];omega
  have c:(BitVec.ofInt 8 7).toNat=2^3-1:=rfl;rw[b,c,W']
 show W (V.int .u8 (IntKind.u8.wrap (BitVec.ofInt 8 (C:Int)&&&BitVec.ofInt 8 7).toNat))=_;rw[a,w8 Y]
def rV:eB .shr .no (.int .u8 C) (.int .u64 4)=W (.int .u8 (C/16:Nat)):=by show(if(4:Int)<0 then none else W (V.int .u8 ((C:Int).fdiv (2^(min (4:Int).toNat 8)))))=_;rw[O3 (by decide)];have:((2:Int)^(min (4:Int).toNat 8))=16:=rfl;rw[this,T6 _ (by decide)];rfl
def Wl7(h:C<16):B4 16 2 (.int .u8 C) (.ai kx 0)=W (.ai kx (C*2)):=by
 have h:index (.int .u8 C) 16=some C:=by simp[index];omega
 simp[B4,h]
theorem Wor:∀(l:List (Nat×Nat)) (n:Nat) (p:Nat×Nat),l[n]?=W p->Ev.part true 2 (l.flatMap λp=>[V.int .u8 (p.1:Int),V.int .u8 (p.2:Int)]) (n*2)=W (V.agg [.int .u8 p.1,.int .u8 p.2])
 |[],n,p,h=>by simp at h
 |q::l,0,p,h=>by simp at h;subst h;rfl
 |q::l,n+1,p,h=>by
  have a:=Wor l n p (by simpa using h);unfold Ev.part at a ⊢;rw[A9a rfl]at a ⊢;rw[AR,show(n+1)*2=(n*2+1)+1 by omega];split at a
  ·rename_i b;rw[A9a (by simp;simp at b;omega)];exact a
  ·cases a
def Wr6{b:Nat}(h:fu[d]?=W (F,b)):eL [] true 2 (.ai kx (d*2))=W (.agg [.int .u8 F,.int .u8 b]):=Wor fu d (F,b) h
def Qc9:QaT.G.g 2=.ai G_ 0:=rfl
def EK:QaT.G.g 3=.ai kx 0:=rfl
def Wl8{x:UInt8}(h:194<=x.toNat/\x.toNat<=244):iH x J=true↔je x<=J.toNat/\J.toNat<=jg x:=Jt
def PN{r:u2}(h:r≠[])(a:dD r=none):RJ r=T:=by unfold RJ;rw[QN h,a]
def Pg{r:u2}{k:Nat}(h:r≠[])(a:dD r=W k):RJ r=RJ (r.drop k):=by unfold RJ;rw[QN h,a]
def oP{r:u2}(a:hU J=2):dD (J::b7::r)=if 128<=b7.toNat/\b7.toNat<=191 then W 2 else none:=by
 have h:194<=J.toNat/\J.toNat<=223:=by unfold hU at a;split at a;assumption;(split at a;cases a;split at a<;>cases a)
 rw[p3,O3 Y,A9a h];simp only[Qgi]
def rW(a:hU J=2):dD [J]=none:=by
 have h:194<=J.toNat/\J.toNat<=223:=by unfold hU at a;split at a;assumption;(split at a;cases a;split at a<;>cases a)
 rw[p3,O3 Y,A9a h]
def tN{x:UInt8}(a:hU x=3):224<=x.toNat/\x.toNat<=239:=by unfold hU at a;split at a;cases a;(split at a;assumption;split at a<;>cases a)
def tO{x:UInt8}(a:hU x=4):240<=x.toNat/\x.toNat<=244:=by unfold hU at a;split at a;cases a;(split at a;cases a;split at a;assumption;cases a)
def k7{x:UInt8}{r:u2}(a:hU x=3):dD (x::J::b7::r)=if(je x<=J.toNat/\J.toNat<=jg x)/\128<=b7.toNat/\b7.toNat<=191 then W 3 else none:=by have h:=tN a;rw[p3,O3 Y,O3 Y,A9a h];simp only[vc,Qgi,Wl8 (x:=x) ⟨by omega,by omega⟩]
def rX{r:u2}(a:hU J=3)(b:r.length<2):dD (J::r)=none:=by
 have h:=tN a;rw[p3,O3 Y,O3 Y,A9a h]
 match r,b with
 |[],_=>rfl
 |[_],_=>rfl
def j6{x t:UInt8}{r:u2}(a:hU x=4):dD (x::J::b7::t::r)=if((je x<=J.toNat/\J.toNat<=jg x)/\128<=b7.toNat/\b7.toNat<=191)/\128<=t.toNat/\t.toNat<=191 then W 4 else none:=by have h:=tO a;rw[p3,O3 Y,O3 Y,O3 Y,A9a h];simp only[vc,Qgi,Wl8 (x:=x) ⟨by omega,by omega⟩]
def rY{r:u2}(a:hU J=4)(b:r.length<3):dD (J::r)=none:=by
 have h:=tO a;rw[p3,O3 Y,O3 Y,O3 Y,A9a h]
 match r,b with
 |[],_=>rfl
 |[_],_=>rfl
 |[_,_],_=>rfl
def tP{r:u2}(a:hU J=1)(b:¬J.toNat<128):dD (J::r)=none:=by
 unfold hU at a;rw[p3,O3 b];split at a
 ·cases a
 ·split at a
  ·cases a
  ·split at a
   ·cases a
   ·rw[O3 (by assumption),O3 (by assumption),O3 (by assumption)]
def TH:hU A=1\/hU A=2\/hU A=3\/hU A=4:=by unfold hU;split;simp;split;simp;split<;>simp
theorem QY:∀(f:Nat) (r:u2) (c:bU),r.length<f->(c=.fx\/c=.no)->
  om QaT 0 0 [.sl (u4 r) c] []=W (.bool (RJ r),[])
 |0,r,c,a,_=>by omega
 |f+1,[],c,a,b=>by rw[zg];simp -implicitDefEqProofs(disch:=try exact wK)only[go_sem,QdL,u4,Wgj]
 |f+1,x::r,c,U,h=>by
  have A:∀s:u2,s.length<=r.length->om QaT 0 0 [.sl (u4 s) .no] []=W (.bool (RJ s),[]):=λs p=>QY f s .no (by simp at U;omega) (.inr rfl);have L:(x::r).length=r.length+1:=rfl;have i c:eI 1 (iI 0) (.sl (u4 (x::r)) c)=W (.ai [.int .u8 x.toNat] 0):=EH u0;have j c:yy 1 (.sl (u4 (x::r)) c) (W (iI 1)) none none=W (.sl (u4 r) .no):=MU (r:=x::r) (k:=1) u0;have l:(0:Int)<((x::r).length:Nat):=by rw[L];omega
  rw[zg];by_cases O:x.toNat<128
  ·have a:(x.toNat:Int)<128:=by omega
   have v:=A r (vE _);rw[PY O];by_cases d:8<(r.length:Int)
   ·have m:=λI=>N6 r Y I;by_cases e:((jq r&&&kY).toNat:Int)=0
    ·have B:=(Wr1 r).1 e;have o:=Wr2 Y B;have n:yy 1 (.sl (u4 r) .no) (W (iI 8)) none none=W (.sl (u4 (r.drop 8)) .no):=MU (k:=8) Y;have b:=A (r.drop 8) (by rw[zj];omega);rw[o]at b;have C:(r.drop 8).length=r.length-8:=zj ..;generalize r.drop 8=s at o n b C;by_cases p:16<(s.length:Int)
     ·have w:=λI=>N6 s Y I;have y:=λI=>N6 (s.drop 8) (by rw[zj];omega) I;have g:yy 1 (.sl (u4 s) .no) (W (iI 8)) none none=W (.sl (u4 (s.drop 8)) .no):=MU (k:=8) Y;have h:yy 1 (.sl (u4 s) .no) (W (iI 16)) none none=W (.sl (u4 (s.drop 16)) .no):=MU (k:=16) Y;by_cases q:(((jq s|||jq (s.drop 8))&&&kY).toNat:Int)=0
      ·have⟨D,E⟩:=(rT s (s.drop 8)).1 q;have u:=Wl5 Y D E;have z:=Qz6 (om QaT 0 0) ((s.drop 16).length+1) (s.drop 16) Y (λt F=>A t (by rw[zj]at F;omega));rw[u,o]at z;simp -implicitDefEqProofs(disch:=try exact wK)only[go_sem,QdL,i,j,l,a,d,e,p,q,m,w,y,n,g,h,j4,Sp,z]
      ·simp -implicitDefEqProofs(disch:=try exact wK)only[go_sem,QdL,my,QdV,i,j,l,a,d,e,p,q,m,w,y,n,g,h,j4,Sp,b]
     ·simp -implicitDefEqProofs(disch:=try exact wK)only[go_sem,QdL,my,QdV,i,j,l,a,d,e,p,m,n,j4,Sp,b]
    ·simp -implicitDefEqProofs(disch:=try exact wK)only[go_sem,QdL,my,QdV,i,j,l,a,d,e,m,j4,Sp,v]
   ·simp -implicitDefEqProofs(disch:=try exact wK)only[go_sem,QdL,my,QdV,i,j,l,a,d,v]
  ·have d:¬(x.toNat:Int)<128:=by omega
   have⟨X,a,P,f⟩:=Wr3 ⟨x.toNat,K9 x⟩ (by show 128<=x.toNat;omega);have M:j5 x%8=hU x:=a;have o:=Wr5 x;have q:=Ww3 x;have m:=rU (j5 x) X;rw[M]at m;have u:=rV (j5 x);have v:=Wl7 (j5 x/16) P;obtain⟨⟨Q,J⟩,R⟩:∃p,fu[j5 x/16]?=some p:=⟨_,vO (by rw[Wr4];exact P)⟩
   have n:=Wr6 R;have w:∀a b:Int,u5 [.cells [.int .u8 0,.int .u8 0]] 2 (.ptr 0 0) (.agg [.int .u8 a,.int .u8 b]) (.agg [.int .u8 a,.int .u8 b])=W (.undef,[.cells [.int .u8 a,.int .u8 b]]):=λa b=>rfl;have C:194<=x.toNat->x.toNat<=244->Q=je x/\J=jg x:=λh t=>by have:=f h t;rw[show fu[BY.getD x.toNat 0/16]?=W (Q,J)from R]at this;cases this;exact⟨rfl,rfl⟩
   have g:x::r≠[]:=u0;have a:128<=J/\J<=255\/True:=.inr trivial;have a:(hU x:Int)=1\/(hU x:Int)=2\/(hU x:Int)=3\/(hU x:Int)=4:=by have:=TH x;omega
   rcases TH x with e|e|e|e
   ·rw[e]at m;rw[PN g (tP e O)];simp -implicitDefEqProofs(disch:=try exact wK)only[go_sem,QdL,QdO,Qc9,EK,i,j,l,d,o,q,m,u,v,n,w]
   ·rw[e]at m;have E:194<=x.toNat/\x.toNat<=223:=by unfold hU at e;split at e;assumption;(split at e;cases e;split at e<;>cases e)
    obtain⟨rfl,rfl⟩:=C Y Y;have el:je x=128:=by unfold je;rw[O3 Y,O3 Y]
    have F:jg x=191:=by unfold jg;rw[O3 Y,O3 Y]
    rw[el,F]at n
    match r with
    |[]=>rw[PN g (rW e)];simp -implicitDefEqProofs(disch:=try exact wK)only[go_sem,QdL,QdO,Qc9,EK,i,j,l,d,o,q,m,u,v,n,w]
    |y::r=>
     have h:eI 1 (iI 1) (.sl (u4 (x::y::r)) .no)=W (.ai [.int .u8 y.toNat] 0):=EH yZ;have t c:yy 1 (.sl (u4 (x::y::r)) c) (W (iI 2)) none none=W (.sl (u4 r) .no):=MU (r:=x::y::r) (k:=2) u0;have d1:¬((x::y::r).length:Int)<2:=yZ;by_cases z:(y.toNat:Int)<128
     ·rw[PN g (by rw[oP e,O3 Y])];simp -implicitDefEqProofs(disch:=try exact wK)only[go_sem,QdL,QdO,Qc9,EK,i,h,j,t,l,d,d1,z,o,q,m,u,v,n,w]
     ·by_cases B:191<(y.toNat:Int)
      ·rw[PN g (by rw[oP e,O3 Y])];simp -implicitDefEqProofs(disch:=try exact wK)only[go_sem,QdL,QdO,Qc9,EK,i,h,j,t,l,d,d1,z,B,o,q,m,u,v,n,w]
      ·have D:=A r u0;rw[Pg g (by rw[oP e,A9a Y])];simp -implicitDefEqProofs(disch:=try exact wK)only[go_sem,QdL,QdV,Qc9,EK,i,h,j,t,l,d,d1,z,B,o,q,m,u,v,n,w,D]
   ·rw[e]at m;have K:=tN e;obtain⟨rfl,rfl⟩:=C Y Y;by_cases t:r.length<2
    ·rw[PN g (rX e t)];have d1:((x::r).length:Int)<3:=by rw[L];omega
     simp -implicitDefEqProofs(disch:=try exact wK)only[go_sem,QdL,QdO,Qc9,EK,i,j,l,d,d1,o,q,m,u,v,n,w]
    ·match r,t with
     |[],h=>exact absurd u0 h
     |[_],h=>exact absurd u0 h
     |y::z::r,_=>
      have h c:eI 1 (iI 1) (.sl (u4 (x::y::z::r)) c)=W (.ai [.int .u8 y.toNat] 0):=EH yZ;have D c:eI 1 (iI 2) (.sl (u4 (x::y::z::r)) c)=W (.ai [.int .u8 z.toNat] 0):=EH yZ;have B c:yy 1 (.sl (u4 (x::y::z::r)) c) (W (iI 3)) none none=W (.sl (u4 r) .no):=MU (r:=x::y::z::r) (k:=3) u0;have d1:¬((x::y::z::r).length:Int)<3:=yZ;by_cases E:(y.toNat:Int)<(je x:Nat)
      ·rw[PN g (by rw[k7 e,O3 Y])];simp -implicitDefEqProofs(disch:=try exact wK)only[go_sem,QdL,QdO,Qc9,EK,i,h,D,j,B,l,d,d1,E,o,q,m,u,v,n,w]
      ·skip
       by_cases F:((jg x:Nat):Int)<(y.toNat:Int)
       ·rw[PN g (by rw[k7 e,O3 Y])];simp -implicitDefEqProofs(disch:=try exact wK)only[go_sem,QdL,QdO,Qc9,EK,i,h,D,j,B,l,d,d1,E,F,o,q,m,u,v,n,w]
       ·skip
        by_cases G:(z.toNat:Int)<128
        ·rw[PN g (by rw[k7 e,O3 Y])];simp -implicitDefEqProofs(disch:=try exact wK)only[go_sem,QdL,QdO,Qc9,EK,i,h,D,j,B,l,d,d1,E,F,G,o,q,m,u,v,n,w]
        ·skip
         by_cases H:191<(z.toNat:Int)
         ·rw[PN g (by rw[k7 e,O3 Y])];simp -implicitDefEqProofs(disch:=try exact wK)only[go_sem,QdL,QdO,Qc9,EK,i,h,D,j,B,l,d,d1,E,F,G,H,o,q,m,u,v,n,w]
         ·skip
          have I:=A r yZ;rw[Pg g (by rw[k7 e,A9a Y])];simp -implicitDefEqProofs(disch:=try exact wK)only[go_sem,QdL,QdV,Qc9,EK,i,h,D,j,B,l,d,d1,E,F,G,H,o,q,m,u,v,n,w,I]
   ·rw[e]at m;have a:=tO e;obtain⟨rfl,rfl⟩:=C Y Y;by_cases B:r.length<3
    ·rw[PN g (rY e B)];have d1:((x::r).length:Int)<4:=by rw[L];omega
     simp -implicitDefEqProofs(disch:=try exact wK)only[go_sem,QdL,QdO,Qc9,EK,i,j,l,d,d1,o,q,m,u,v,n,w]
    ·match r,B with
     |[],h=>exact absurd u0 h
     |[_],h=>exact absurd u0 h
     |[_,_],h=>exact absurd u0 h
     |y::z::t::r,_=>
      have h c:eI 1 (iI 1) (.sl (u4 (x::y::z::t::r)) c)=W (.ai [.int .u8 y.toNat] 0):=EH yZ;have E c:eI 1 (iI 2) (.sl (u4 (x::y::z::t::r)) c)=W (.ai [.int .u8 z.toNat] 0):=EH yZ;have G c:eI 1 (iI 3) (.sl (u4 (x::y::z::t::r)) c)=W (.ai [.int .u8 t.toNat] 0):=EH yZ;have D c:yy 1 (.sl (u4 (x::y::z::t::r)) c) (W (iI 4)) none none=W (.sl (u4 r) .no):=MU (r:=x::y::z::t::r) (k:=4) u0;have d1:¬((x::y::z::t::r).length:Int)<4:=yZ;by_cases F:(y.toNat:Int)<(je x:Nat)
      ·rw[PN g (by rw[j6 e,O3 Y])];simp -implicitDefEqProofs(disch:=try exact wK)only[go_sem,QdL,QdO,Qc9,EK,i,h,E,G,j,D,l,d,d1,F,o,q,m,u,v,n,w]
      ·skip
       by_cases H:((jg x:Nat):Int)<(y.toNat:Int)
       ·rw[PN g (by rw[j6 e,O3 Y])];simp -implicitDefEqProofs(disch:=try exact wK)only[go_sem,QdL,QdO,Qc9,EK,i,h,E,G,j,D,l,d,d1,F,H,o,q,m,u,v,n,w]
       ·skip
        by_cases I:(z.toNat:Int)<128
        ·rw[PN g (by rw[j6 e,O3 Y])];simp -implicitDefEqProofs(disch:=try exact wK)only[go_sem,QdL,QdO,Qc9,EK,i,h,E,G,j,D,l,d,d1,F,H,I,o,q,m,u,v,n,w]
        ·skip
         by_cases K:191<(z.toNat:Int)
         ·rw[PN g (by rw[j6 e,O3 Y])];simp -implicitDefEqProofs(disch:=try exact wK)only[go_sem,QdL,QdO,Qc9,EK,i,h,E,G,j,D,l,d,d1,F,H,I,K,o,q,m,u,v,n,w]
         ·skip
          by_cases N:(t.toNat:Int)<128
          ·rw[PN g (by rw[j6 e,O3 Y])];simp -implicitDefEqProofs(disch:=try exact wK)only[go_sem,QdL,QdO,Qc9,EK,i,h,E,G,j,D,l,d,d1,F,H,I,K,N,o,q,m,u,v,n,w]
          ·skip
           by_cases S:191<(t.toNat:Int)
           ·rw[PN g (by rw[j6 e,O3 Y])];simp -implicitDefEqProofs(disch:=try exact wK)only[go_sem,QdL,QdO,Qc9,EK,i,h,E,G,j,D,l,d,d1,F,H,I,K,N,S,o,q,m,u,v,n,w]
           ·skip
            have V:=A r yZ;rw[Pg g (by rw[j6 e,A9a Y])];simp -implicitDefEqProofs(disch:=try exact wK)only[go_sem,QdL,QdV,Qc9,EK,i,h,E,G,j,D,l,d,d1,F,H,I,K,N,S,o,q,m,u,v,n,w,V]
def Wr7(g:D.length<=1000000000)(I:hN):E cx 95 [.sl (u4 D) .no] I=W (.bool (RJ D),I):=by
 refine v_ X0K X0K ?_ (by rw[Qae,vN];rfl) I;have h:=QY (D.length+1) D .no Y (.inr rfl);have d:=QY (D.length+1) D .fx Y (.inl rfl);have e:yy 1 (.sl (u4 D) .no) none (W (iI D.length)) (W (iI D.length))=W (.sl (u4 D) .fx):=by
  have c:(u4 D).length=D.length:=U8;have f:vr (iI D.length) D.length=W D.length:=by simp[vr]
  have a:(u4 D).all (λy=>decide (y.cells.length=1)):=all_map (λ_=>rfl);have b:vI D.length none (W (iI D.length)) (W (iI D.length))=W (0,D.length,W D.length):=by simp only[vI,f,A0,u7,va,Cr];rfl
  simp only[yy,c,b,u7,va,a,A9c,JN,OY];rw[JF (by rw[c];exact vE _)]
 rw[QcY];simp only[go_sem,JQ,e,h,d]
def Wl9{b:u2}(h:d<b.length):fy (b.drop d)=(decide (b.getD d 0≠0)&&fy (b.drop (d+1))):=by rw[KP h,y9,vO];rfl
theorem TI(b:u2)(d:b.length<=1000000000):∀(f:Nat) (i:Int),(b.length:Int)-i<f->0<=i/\i<=b.length->
  yT QaT 0 0 [.sl (u4 b) .no,.sl (u4 b) .no,iI b.length,iI i] []=W (.bool (fy (b.drop i.toNat)&&RJ b),[])
 |0,i,a,c=>by omega
 |f+1,i,m,j=>by
  have k:=λI=>Wr7 b d I;rw[Gg];by_cases a:i<b.length
  ·rw[Wl9 Y];have g:eI 1 (iI i) (.sl (u4 b) .no)=W (.ai [.int .u8 (b.getD i.toNat 0).toNat] 0):=EH ⟨j.1,a⟩;by_cases c:b.getD i.toNat 0=0
   ·have h:((b.getD i.toNat 0).toNat:Int)=0:=by rw[c];rfl
    have e:decide (b.getD i.toNat 0≠0)=T:=by simp only[c];rfl
    rw[e,I5,I5];simp -implicitDefEqProofs only[go_sem,zX,g,a,h]
   ·have l:¬((b.getD i.toNat 0).toNat:Int)=0:=λe=>c (UInt8.toNat_inj.1 (by show _=0;omega));have e:=xG c;have h:=TI b d f (i+1) Y Y;rw[show(i+1).toNat=i.toNat+1 by omega]at h;rw[e,Ab];simp -implicitDefEqProofs(disch:=try exact wK)only[go_sem,zX,g,a,l,h]
  ·have e:b.drop i.toNat=[]:=T_ Y;rw[e];show _=W (V.bool (RJ b),[]);simp -implicitDefEqProofs only[go_sem,zX,a,k]
def Qqt(b:u2)(a:b.length<=1000000000)(I:hN):E cx 81 [.sl (u4 b) .no] I=W (.bool (VT b),I):=by refine v_ X0K X0K ?_ (by rw[Qae,vN];rfl) I;have h:=TI b a (b.length+1) 0 Y Y;have c:yT QaT 0 0 [.sl (u4 b) .no,.sl (u4 b) .no,iI b.length,iI 0] []=W (.bool (VT b),[]):=h;rw[QcV];simp only[go_sem,zY,c]
section
variable{q:Type}{f:q->V}{s:Sl q}{sz:Nat}
def Nk{k:IntKind}{i:Int}{x:q}(h:s.l[i.toNat]?=W x)(c:0<=i)(a:(f x).cells.length=sz):eI sz (.int k i) (ae f s)=W (.ai (f x).cells 0):=by
 have⟨d,e⟩:=wy.1 h;have b:s.l=s.l.take i.toNat++x::s.l.drop (i.toNat+1):=by rw[<-e];simp
 refine KZ b ?_ a;rw[GQ];omega
end
abbrev Ad:Sl (List UInt8)->V:=ae V.str
def IP{s:Sl u2}:V.rb d (Ad s):=vw λ_ _=>rfl
attribute [go_sem] IP
def Wgl{f:a2->V}{s:Sl a2}(h:∀d x,V.rb d (f x)):V.rb d (ae f s):=vw λx _=>h d x
structure bq where
 kind:Int
 has:Bool
 space:List UInt8
 name:List UInt8
 op:Int
 text:List UInt8
 fold:Bool
 deriving DecidableEq
abbrev wD:=List bq
def aH(a:bq):uZ:=[.int .i64 a.kind,.bool a.has,.str a.space,.str a.name,.int .i64 a.op,.str a.text,.bool a.fold]
@[reducible] def af(a:bq):V:=.agg (aH a)
section
variable{n:Nat}
def Wr8{a:bq}:V.aL n (aH a):=rfl
def BC{a:bq}:(aH a).map V.ng=aH a:=rfl
end
def cR(k:Int):V:=.bE 66 (.ai [.int .i64 k,.int .i64 0,.bc] 0)
def Wgm(I:hN):E cx 22 [iI r,iI c8] I=W (.bE 66 (.ai [iI r,iI c8,.bc] 0),I):=by refine v_ X0K X0K ?_ (by first|rfl|(rw[Qae,vN];rfl)|(rw[Qae,IP];rfl)|(simp only[Qae,C2,xA,ZZ,vN,xK,C4])) I;rw[Z'];simp only[go_sem,N5]
def K4(s:u2)(a:s.length<=1000000000)(I:hN):E cx 13 [.str s] I=W (.bool (VT s),I):=by have h:=λI=>Ww0 s a I;refine v_ X0K X0K ?_ (by first|rfl|(rw[Qae,vN];rfl)|(rw[Qae,IP];rfl)|(simp only[Qae,C2,xA,ZZ,vN,xK,C4])) I;rw[QbS];simp -implicitDefEqProofs only[go_sem,FM,h]
def ky(l:List u2)(t:u2):Nat->Nat->Int
 |0,i => -1
 |f+1,i=>if i<l.length then(if t=l.getD i []then(i:Int)else ky l t f (i+1))else -1
def oQ(l:List u2)(t:u2):Int:=ky l t (l.length+1) 0
def bu(l:List u2)(t:u2):Bool:=l.any λx=>decide (t=x)
def Wgn{l:List a2}{i:Nat}(h:i<l.length)(d:a2):l[i]?=W (l.getD i d):=by rw[vO h,y9,vO];rfl
theorem Quv(s:Sl u2)(t:u2)(g:s.l.length<=1000000000):∀(f i:Nat),s.l.length<f+i->i<=s.l.length->
  A7 QaT 0 0 [Ad s,.str t,iI s.l.length,iI i] []=W (iI (ky s.l t f i),[])
 |0,i,a,b=>by omega
 |f+1,i,h,j=>by
  rw[FN];unfold ky;by_cases b:(i:Int)<s.l.length
  ·have c:=Nk (f:=V.str) (s:=s) (k:=.i64) (i:=(i:Int)) (Wgn Y []) Y (sz:=1) rfl;rw[zi]at c;have a:i<s.l.length:=by omega
   by_cases d:t=s.l.getD i []
   ·simp -implicitDefEqProofs only[go_sem,A6,b,a,d,c]
   ·have e:=Quv s t g f (i+1) Y Y;rw[Hm]at e;simp -implicitDefEqProofs(disch:=try exact wK)only[go_sem,A6,b,a,d,c,e]
  ·have a:¬i<s.l.length:=by omega
   simp -implicitDefEqProofs only[go_sem,A6,b,a]
def Wr9(s:Sl u2)(t:u2)(a:s.l.length<=1000000000)(I:hN):E cx 71 [Ad s,.str t] I=W (iI (oQ s.l t),I):=by refine v_ X0K X0K ?_ (by rw[Qae,IP];rfl) I;have h:A7 QaT 0 0 [Ad s,.str t,iI s.l.length,iI 0] []=W (iI (oQ s.l t),[]):=Quv s t a (s.l.length+1) 0 Y Y;rw[Sk];simp only[go_sem,LA,h]
theorem MY(l:List u2)(t:u2):∀(f i:Nat),l.length<f+i->i<=l.length->(decide (0<=ky l t f i)=bu (l.drop i) t)
 |0,i,a,b=>by omega
 |f+1,i,c,d=>by
  unfold ky;split
  ·rename_i a;have e:l.drop i=l.getD i []::l.drop (i+1):=by rw[KP,y9,vO a];rfl
   rw[e];show _=(decide (t=l.getD i [])||bu (l.drop (i+1)) t);split
   ·rename_i b;rw[<-b];simp
   ·rename_i b;rw[MY l t f (i+1) Y Y,A9i b,C3]
  ·have e:l.drop i=[]:=T_ Y;rw[e];rfl
def W7(l:List u2)(t:u2):decide (0<=oQ l t)=bu l t:=MY l t _ 0 Y Y
def Lb(s:Sl u2)(t:u2)(a:s.l.length<=1000000000)(I:hN):E cx 44 [Ad s,.str t] I=W (.bool (bu s.l t),I):=by have h:=λI=>Wr9 s t a I;refine v_ X0K X0K ?_ (by first|rfl|(rw[Qae,vN];rfl)|(rw[Qae,IP];rfl)|(simp only[Qae,C2,xA,ZZ,vN,xK,C4])) I;rw[SL,<-W7];simp -implicitDefEqProofs only[go_sem,L5,h]
def Wma{xs:List u2}(h:xs.length=d):BU d 1 T (.ai (xs.map V.str) 0) none none=W (.sl (xs.map V.str) .no):=by
 have c:∀(k a:Nat),a+k<=xs.length->vk T 1 (xs.map V.str) k a=W (((xs.drop a).take k).map V.str):=by
  intro k;induction k with
  |zero=>intro a _;simp[vk]
  |succ k n=>
   intro a i;have b:a<xs.length:=by omega
   have e:Ev.part T 1 (xs.map V.str) a=W (V.str xs[a]):=by unfold Ev.part;rw[O3 (by decide),A9a rfl,ym,vO b];rfl
   unfold vk;rw[e,n (a+1) Y];rw[KP b];rfl
 have f:yd (xs.map V.str):=by unfold yd;rw[List.all_map];exact AI.2 λx _=>rfl
 have g:vI d none none none=W (0,d,none):=by simp[vI]
 unfold BU;simp only[g,u7,va,OY,QB,xr];rw[c d 0 Y];simp only[va,f,A9c,JN];rw[<-h,Hl]
def Wmb:QaT.G.g 1=.ai (DI.map V.str) 0:=rfl
def P2(t:u2):Bool:=bu DI t
def Wsb(t:u2)(I:hN):E cx 54 [.str t] I=W (.bool (P2 t),I):=by
 have c:BU 10 1 T (.ai (DI.map V.str) 0) none none=W (Ad (.row DI)):=Wma rfl;have a:=λI=>Lb (.row DI) t (by decide) I;refine v_ X0K X0K ?_ (by first|rfl|(rw[Qae,vN];rfl)|(rw[Qae,IP];rfl)|(simp only[Qae,C2,xA,ZZ,vN,xK,C4])) I;rw[SY];unfold P2;generalize d:(Sl.row DI)=L at c a;have b:∀I,E cx 44 [Ad L,.str t] I=W (.bool (bu DI t),I):=by rw[<-d]at a ⊢; exact a
 simp -implicitDefEqProofs only[go_sem,Mh,Wmb,c,b]
theorem P0(s:Sl u2)(t:u2)(g:s.l.length<=1000000000):∀(r q:List u2),s.l=q++r->
  oG QaT 0 0 [Ad s,.str t,iI q.length] []=W (.bool (bu r t),[])
 |[],q,b=>by
  have a:s.l.length=q.length:=by rw[b];simp
  have c:¬(q.length:Int)<s.l.length:=by omega
  rw[xL];show _=W (V.bool T,[]);simp -implicitDefEqProofs only[go_sem,n7,ON,vz,c]
 |x::r,q,a=>by
  have b:s.l.length=q.length+r.length+1:=by rw[a];simp;omega
  have d:(q.length:Int)<s.l.length:=by omega
  have e:eI 1 (iI q.length) (Ad s)=W (.ai [.str x] 0):=KZ a rfl rfl;have f:=P0 s t g r (q++[x]) (by rw[a];simp);rw[show((q++[x]).length:Int)=q.length+1 by simp]at f;rw[xL];show _=W (V.bool (decide (t=x)||bu r t),[]);by_cases c:x=t
  ·subst c;rw[xG rfl,CR];simp -implicitDefEqProofs only[go_sem,n7,ON,vz,d,e]
  ·rw[A9i (λh=>c h.symm),C3];simp -implicitDefEqProofs(disch:=try exact wK)only[go_sem,n7,ON,vz,d,e,c,f]
def Qsn(s:Sl u2)(t:u2)(a:s.l.length<=1000000000)(I:hN):E cx 16 [Ad s,.str t] I=W (.bool (bu s.l t),I):=by refine v_ X0K X0K ?_ (by rw[Qae,IP];rfl) I;have h:oG QaT 0 0 [Ad s,.str t,iI 0] []=W (.bool (bu s.l t),[]):=P0 s t a s.l [] rfl;rw[QbV];simp only[go_sem,FW,h]
def Wda(t:u2)(I:hN):E cx 14 [.str t] I=W (.bool (P2 t),I):=by have a:wS T 1 10 (.str []) [(0,.str [104,111,118,101,114]),(1,.str [97,99,116,105,118,101]),(2,.str [102,111,99,117,115]),(3,.str [102,111,99,117,115,45,118,105,115,105,98,108,101]),(4,.str [118,105,115,105,116,101,100]),(5,.str [108,105,110,107]),(6,.str [99,104,101,99,107,101,100]),(7,.str [100,105,115,97,98,108,101,100]),(8,.str [101,110,97,98,108,101,100]),(9,.str [116,97,114,103,101,116])]=W (.sl (DI.map V.str) .fx):=rfl;have b I:E cx 16 [.sl (DI.map V.str) .no,.str t] I=W (.bool (P2 t),I):=Qsn (.row DI) t (by decide) I;refine v_ X0K X0K ?_ (by first|rfl|(rw[Qae,vN];rfl)|(rw[Qae,IP];rfl)|(simp only[Qae,C2,xA,ZZ,vN,xK,C4])) I;rw[QbT];simp -implicitDefEqProofs only[go_sem,FQ,a,b]
def zu(a b:Int):Int:=if 4611686018427387904<=a then 4611686018427387904 else if 4611686018427387904<=b then 4611686018427387904 else if 4611686018427387904<a+b then 4611686018427387904 else a+b
def P1(b:Int)(f:0<=r/\r<=4611686018427387904)(g:0<=b/\b<=4611686018427387904)(I:hN):E cx 19 [iI r,iI b] I=W (iI (zu r b),I):=by
 refine v_ X0K X0K ?_ rfl I;rw[QbY];unfold zu;by_cases c:4611686018427387904<=r
 ·simp -implicitDefEqProofs only[go_sem,p_,c]
 ·by_cases d:4611686018427387904<=b
  ·simp -implicitDefEqProofs only[go_sem,p_,c,d]
  ·by_cases e:4611686018427387904<r+b
   ·simp -implicitDefEqProofs(disch:=try exact wK)only[go_sem,p_,c,d,e]
   ·simp -implicitDefEqProofs(disch:=try exact wK)only[go_sem,p_,c,d,e]
def VG(a b:Int):Int:=if a=0 then 0 else if b=0 then 0 else if 4611686018427387904/b<a then 4611686018427387904 else a*b
def BP(b:Int)(d:0<=r)(c:0<=b):0<=VG r b/\VG r b<=4611686018427387904:=by
 unfold VG;split
 ·omega
 ·split
  ·omega
  ·split
   ·omega
   ·rename_i h e i;have f:r<=4611686018427387904/b:=by omega
    have g:=Int.le_trans (T4 f c) (Int.ediv_mul_le _ e);exact⟨Int.mul_nonneg d c,g⟩
def K5(b:Int)(i:0<=r)(f:0<=b/\b<=4611686018427387904)(I:hN):E cx 17 [iI r,iI b] I=W (iI (VG r b),I):=by
 refine v_ X0K X0K ?_ rfl I;rw[QbW];have c:=BP r b i f.1;unfold VG at c ⊢;by_cases d:r=0
 ·simp -implicitDefEqProofs only[go_sem,p7,d]
 ·by_cases e:b=0
  ·simp -implicitDefEqProofs only[go_sem,p7,d,e]
  ·have h:(4611686018427387904:Int).tdiv b=4611686018427387904/b:=MQ ⟨by omega,f.1⟩;have j:0<=4611686018427387904/b/\4611686018427387904/b<=4611686018427387904:=⟨Int.ediv_nonneg Y f.1,Int.ediv_le_self _ Y⟩
   rw[O3 d,O3 e]at c;by_cases g:4611686018427387904/b<r
   ·simp -implicitDefEqProofs(disch:=try exact wK)only[go_sem,p7,d,e,h,g]
   ·rw[O3 g]at c;simp -implicitDefEqProofs(disch:=try exact wK)only[go_sem,p7,d,e,h,g]
def ec(n:Nat):Int:=(List.range n).foldl (λo _=>VG o 2) 1
def Qo1:ec (C+1)=VG (ec C) 2:=by simp[ec,List.range_succ]
theorem Qso:∀n,0<=ec n/\ec n<=4611686018427387904
 |0=>by decide
 |n+1=>by rw[Qo1];exact BP _ _ (Qso n).1 Y
theorem Quy(n:Nat)(b:n<=1000000):∀(d k:Nat),k+d=n->oT QaT 0 0 [iI n,iI (ec k),iI k] []=W (iI (ec n),[])
 |0,k,c=>by
  obtain rfl:k=n:=by omega
  have a:¬(k:Int)<k:=by omega
  rw[xZ];simp -implicitDefEqProofs only[go_sem,oO,a]
 |d+1,k,e=>by
  have c:(k:Int)<n:=by omega
  have h:=λI=>K5 (ec k) 2 (Qso k).1 Y I;have a:=Quy n b d (k+1) Y;rw[Qo1,Hm]at a;rw[xZ];simp -implicitDefEqProofs(disch:=try exact wK)only[go_sem,oO,c,h,a]
def Wsc(a:C<=1000000)(I:hN):E cx 30 [iI C] I=W (iI (ec C),I):=by refine v_ X0K X0K ?_ rfl I;have h:oT QaT 0 0 [iI C,iI 1,iI 0] []=W (iI (ec C),[]):=Quy C a C 0 Y;rw[QcC];simp only[go_sem,F5,h]
def qd(c:Int):Int:=if 65<=c/\c<=90 then c+32 else c
def DZ(c:Int)(d:-1<=c/\c<=1114111)(I:hN):E cx 102 [iI c] I=W (iI (qd c),I):=by
 refine v_ X0K X0K ?_ rfl I;rw[SP];unfold qd;by_cases a:65<=c
 ·by_cases b:c<=90
  ·have e:c+97-65=c+32:=by omega
   simp -implicitDefEqProofs(disch:=try exact wK)only[go_sem,L',a,b,e]
  ·simp -implicitDefEqProofs only[go_sem,L',a,b]
 ·simp -implicitDefEqProofs only[go_sem,L',a]
def Waa(c:Int):Bool:=decide (c=32)||decide (c=9)||decide (c=10)
def Wmc:E cx 217 [iI r] c5=W (.bool (Waa r),c5):=by
 refine v_ X0K X0K ?_ rfl c5;rw[SH];unfold Waa;by_cases a:r=32
 ·simp -implicitDefEqProofs only[go_sem,Ee,a]
 ·by_cases b:r=9
  ·simp -implicitDefEqProofs(disch:=try exact wK)only[go_sem,Ee,a,b]
  ·simp -implicitDefEqProofs only[go_sem,Ee,a,b]
def VW(c:Int):Int:=if 65<=c/\c<=90 then c+32 else if 97<=c/\c<=122 then c-32 else c
def Quz(f:-1<=r/\r<=1114111)(I:hN):E cx 79 [iI r] I=W (iI (VW r),I):=by refine v_ X0K X0K ?_ rfl I;rw[QcO];unfold VW;by_cases a:65<=r<;>by_cases b:r<=90<;>by_cases d:97<=r<;>by_cases e:r<=122<;>first|(exfalso;omega)|simp -implicitDefEqProofs(disch:=try exact wK)only[go_sem,HV,a,b,d,e]
def rZ(h:(65<=r/\r<=90)\/(97<=r/\r<=122)):eB .xor .no (iI r) (iI 32)=some (iI (VW r)):=by
 have b:∀n:Nat,n<123->(65<=n/\n<=90)\/(97<=n/\n<=122)->eB .xor .no (iI (n:Int)) (iI 32)=some (iI (VW n)):=by
  intro n d f;have:(List.range 123).all (λn=>!(decide ((65<=n/\n<=90)\/(97<=n/\n<=122)))||((match eB .xor .no (iI (n:Int)) (iI 32)with|some (.int .i64 m)=>decide (m=VW n)|_=>false))):=X0K;have a:=AI.1 this n (KX.2 d);rw[xG f]at a;simp only[OX,C3]at a;split at a
  ·rename_i m e;rw[e,pM a]
  ·cases a
 obtain⟨n,rfl⟩:∃n:Nat,r=n:=⟨r.toNat,by omega⟩
 exact b n Y Y
def W_(b:-1<=r/\r<=1114111)(I:hN):E cx 110 [iI r] I=W (iI (VW r),I):=by
 refine v_ X0K X0K ?_ rfl I;have h:=λI=>DZ r b I;rw[Sx];by_cases d:(65<=r/\r<=90)\/(97<=r/\r<=122)
 ·have x:=rZ r d;have e:97<=qd r/\qd r<=122:=by unfold qd;split<;>omega
  obtain⟨a,f⟩:=e;simp -implicitDefEqProofs only[go_sem,LO,h,a,f,x]
 ·have t:VW r=r:=by unfold VW;rw[O3 Y,O3 Y]
  have t2:qd r=r:=by unfold qd;rw[O3 Y]
  rw[t];rw[t2]at h;by_cases a:97<=r
  ·have e:¬r<=122:=by omega
   simp -implicitDefEqProofs only[go_sem,LO,h,a,e]
  ·simp -implicitDefEqProofs only[go_sem,LO,h,a]
def kz(l:u_)(c:Int):Bool:=l.any λx=>decide (x=c)
theorem Qqu(s:Sl Int)(c:Int)(g:s.l.length<=1000000000):∀(r q:u_),s.l=q++r->
  pg QaT 0 0 [ae (V.int .i64) s,iI c,iI q.length] []=W (.bool (kz r c),[])
 |[],q,a=>by
  have b:¬(q.length:Int)<s.l.length:=by rw[a];simp
  rw[yN];show _=W (V.bool T,[]);simp -implicitDefEqProofs only[go_sem,oh,b]
 |x::r,q,a=>by
  have d:s.l.length=q.length+r.length+1:=by rw[a];simp;omega
  have b:(q.length:Int)<s.l.length:=by omega
  have e:eI 1 (iI q.length) (ae (V.int .i64) s)=W (.ai [iI x] 0):=KZ a rfl rfl;have f1 k I:fz k I fzD (ae (V.int .i64) s)=W (ae (V.int .i64) s):=vC (vw λ_ _=>rfl);have f:=Qqu s c g r (q++[x]) (by rw[a];simp);rw[show((q++[x]).length:Int)=q.length+1 by simp]at f;rw[yN];show _=W (V.bool (decide (x=c)||kz r c),[]);by_cases h:x=c
  ·simp -implicitDefEqProofs only[go_sem,oh,b,e,f1,h]
  ·rw[A9i h,C3];simp -implicitDefEqProofs(disch:=try exact wK)only[go_sem,oh,b,e,f1,h,f]
def Wos(s:Sl Int)(c:Int)(a:s.l.length<=1000000000)(I:hN):E cx 80 [ae (V.int .i64) s,iI c] I=W (.bool (kz s.l c),I):=by refine v_ X0K X0K ?_ (by rw[Qae,vw λ_ _=>rfl];rfl) I;have f1 k I:fz k I fzD (ae (V.int .i64) s)=W (ae (V.int .i64) s):=vC (vw λ_ _=>rfl);have h:pg QaT 0 0 [ae (V.int .i64) s,iI c,iI 0] []=W (.bool (kz s.l c),[]):=Qqu s c a s.l [] rfl;rw[QcP];simp only[go_sem,HX,f1,h]
def Qsp(s:u2)(a:s.length<=1000000000)(I:hN):E cx 53 [.str s] I=W (.bool (VT s),I):=by refine v_ X0K X0K ?_ rfl I;have h:=λI=>Qqt s a I;rw[S9];simp -implicitDefEqProofs only[go_sem,Il,h]
def iJ(a:bq):Bool:=VT a.space&&(VT a.text&&(if a.kind=2 then decide (¬a.name=[])&&VT a.name else if a.kind=1 then VT a.name else decide (a.kind=3)&&P2 a.name))
def jh(a:bq):Prop:=a.space.length<=1000000/\a.name.length<=1000000/\a.text.length<=1000000
def Wgp(a:bq)(h:jh a)(I:hN):E cx 34 [af a] I=W (.bool (iJ a),I):=by
 refine v_ X0K X0K ?_ rfl I;obtain⟨r,s,t⟩:=h;have c:=λI=>Qsp a.space Y I;have d:=λI=>Qsp a.text Y I;have k:=λI=>Qsp a.name Y I;have p:=λI=>Wsb a.name I;rw[QcI];obtain⟨b,q,e,f,u,g,l⟩:=a;simp only at*;unfold iJ;simp only;cases m:VT e with
 |false=>rw[m]at c;simp -implicitDefEqProofs only[go_sem,Ia,af,aH,c]
 |true=>
  rw[m]at c;cases n:VT g with
  |false=>rw[n]at d;simp -implicitDefEqProofs only[go_sem,Ia,af,aH,c,d]
  |true=>
   rw[n]at d;by_cases i:b=2
   ·by_cases j:f=[]
    ·simp -implicitDefEqProofs only[go_sem,Ia,af,aH,c,d,i,j]
    ·simp -implicitDefEqProofs only[go_sem,Ia,pa,af,aH,c,d,k,i,j]
   ·by_cases j:b=1
    ·simp -implicitDefEqProofs(disch:=try exact wK)only[go_sem,Ia,pa,af,aH,c,d,k,i,j]
    ·by_cases o:b=3
     ·simp -implicitDefEqProofs(disch:=try exact wK)only[go_sem,Ia,af,aH,c,d,p,i,j,o]
     ·simp -implicitDefEqProofs(disch:=try exact wK)only[go_sem,Ia,af,aH,c,d,i,j,o]
variable{g1:ah}
def LY{I:hN}:Qfc g1 I (.fn b1 [] []) [w]=g1.call b1 [w.ng] I:=rfl
theorem EN{a:Type}[DecidableEq a]:∀(xs l:List a),xs.Nodup->(∀x∈xs,x∈l)->xs.length<=l.length
 |[],l,_,_=>wV _
 |x::xs,l,h,b=>by have⟨e,f⟩:=Nb.1 h;have c:=b x (wA ..);have:=EN xs (l.erase x) f λy d=>(List.mem_erase_of_ne (by rintro rfl;exact e d)).2 (b y (wh _ d));rw[List.length_erase_of_mem c]at this;have:=List.length_pos_of_mem c;simp;omega
def xg{I:hN}{cs:uZ}{n:Nat}(a:cs.length=n)(b:cs.map V.ng=cs):eL I true n (.ai cs 0)=W (.agg cs):=by show Ev.part true n cs 0=_;unfold Ev.part;rw[A9a rfl,xr,A9a Y,JN,<-a,Hl,b]
section
variable{q:Type}{f:q->V}{s:Sl q}
def qe(h:∀d x,V.rb d (f x)):fz d y F (ae f s)=W (ae f s):=vC (Wgl h)
end
theorem Wab(s t:Sl Bool)(b:t.l=s.l)(e:s.l.length<=1000000000):∀(r q:List Bool),s.l=q++r->
  oD QaT 0 0 [ae V.bool s,ae V.bool t,iI q.length] []=W (.bool true,[])
 |[],q,a=>by
  have c:¬(q.length:Int)<s.l.length:=by rw[a];simp
  rw[xm];simp -implicitDefEqProofs only[go_sem,oC,c]
 |x::r,q,a=>by
  have c:s.l.length=q.length+r.length+1:=by rw[a];simp;omega
  have f:(q.length:Int)<s.l.length:=by omega
  have g:eI 1 (iI q.length) (ae V.bool s)=W (.ai [.bool x] 0):=KZ a rfl rfl;have h:eI 1 (iI q.length) (ae V.bool t)=W (.ai [.bool x] 0):=KZ (b.trans a) rfl rfl;have f1 k I:fz k I fzD (ae V.bool s)=W (ae V.bool s):=qe λ_ _=>rfl;have f2 k I:fz k I fzD (ae V.bool t)=W (ae V.bool t):=qe λ_ _=>rfl;have d:=Wab s t b e r (q++[x]) (by rw[a];simp);rw[show((q++[x]).length:Int)=q.length+1 by simp]at d;rw[xm];simp -implicitDefEqProofs(disch:=try exact wK)only[go_sem,oC,f,g,h,f1,f2,d]
def Wsd(s t:Sl Bool)(a:t.l=s.l)(b:s.l.length<=1000000000)(I:hN):E cx 11 [ae V.bool s,ae V.bool t] I=W (.bool true,I):=by
 refine v_ X0K X0K ?_ (by rw[Qae,Qae,vw λ_ _=>rfl,vw λ_ _=>rfl];rfl) I;have h:oD QaT 0 0 [ae V.bool s,ae V.bool t,iI 0] []=W (.bool true,[]):=Wab s t a b s.l [] rfl;have c:Qai (ae V.bool s)=W (iI s.l.length):=ON;have d:Qai (ae V.bool t)=W (iI s.l.length):=by rw[<-a];exact ON
 have f1 k I:fz k I fzD (ae V.bool s)=W (ae V.bool s):=qe λ_ _=>rfl;have f2 k I:fz k I fzD (ae V.bool t)=W (ae V.bool t):=qe λ_ _=>rfl;rw[QbQ];simp only[go_sem,E9,c,d,f1,f2,h]
theorem Wac(s t:Sl u2)(b:t.l=s.l)(e:s.l.length<=1000000000):∀(r q:List u2),s.l=q++r->
  oN QaT 0 0 [Ad s,Ad t,iI q.length] []=W (.bool true,[])
 |[],q,a=>by
  have c:¬(q.length:Int)<s.l.length:=by rw[a];simp
  rw[xY];simp -implicitDefEqProofs only[go_sem,oM,c]
 |x::r,q,a=>by
  have c:s.l.length=q.length+r.length+1:=by rw[a];simp;omega
  have f:(q.length:Int)<s.l.length:=by omega
  have g:eI 1 (iI q.length) (Ad s)=W (.ai [.str x] 0):=KZ a rfl rfl;have h:eI 1 (iI q.length) (Ad t)=W (.ai [.str x] 0):=KZ (b.trans a) rfl rfl;have d:=Wac s t b e r (q++[x]) (by rw[a];simp);rw[show((q++[x]).length:Int)=q.length+1 by simp]at d;rw[xY];simp -implicitDefEqProofs(disch:=try exact wK)only[go_sem,oM,f,g,h,d]
def Wse(s t:Sl u2)(a:t.l=s.l)(b:s.l.length<=1000000000)(I:hN):E cx 28 [Ad s,Ad t] I=W (.bool true,I):=by
 refine v_ X0K X0K ?_ (by rw[Qae,Qae,IP,IP];rfl) I;have h:oN QaT 0 0 [Ad s,Ad t,iI 0] []=W (.bool true,[]):=Wac s t a b s.l [] rfl;have c:Qai (Ad s)=W (iI s.l.length):=ON;have d:Qai (Ad t)=W (iI s.l.length):=by rw[<-a];exact ON
 rw[QcA];simp only[go_sem,QeB,c,d,h]
def Wgq(a:bq)(h:jh a)(I:hN):E cx 33 [af a] I=W (.bool (!iJ a),I):=by refine v_ X0K X0K ?_ rfl I;have b:=λI=>Wgp a h I;have c:bK [] (.agg (aH a))=W (.ptr 0 0,[.cells (aH a)]):=rfl;have d:eL [.cells (aH a)] true 7 (.ptr 0 0)=W (.agg (aH a)):=rfl;rw[CE];simp only[af]at*;simp -implicitDefEqProofs only[go_sem,uW,c,d,b]
def dq:wD->Nat->Int
 |[],_ => -1
 |a::r,i=>if iJ a then dq r (i+1)else i
theorem Wad(s:Sl bq)(l:s.l.length<=1000000000)(e:∀a∈s.l,jh a):∀(r q:wD),s.l=q++r->
  Dq QaT 0 0 [ae af s,.fn 33 [] [],iI s.l.length,iI q.length] []=W (iI (dq r q.length),[])
 |[],q,b=>by
  have c:¬(q.length:Int)<s.l.length:=by rw[b];simp
  rw[F7];show _=W (V.int .i64 (-1),[]);simp -implicitDefEqProofs only[go_sem,ya,c]
 |a::r,q,b=>by
  have g:s.l.length=q.length+r.length+1:=by rw[b];simp;omega
  have f:(q.length:Int)<s.l.length:=by omega
  have h:eI 7 (iI q.length) (ae af s)=W (.ai (aH a) 0):=KZ b rfl rfl;have i I:eL I true 7 (.ai (aH a) 0)=W (.agg (aH a)):=xg rfl BC;have f1 k I:fz k I fzD (ae af s)=W (ae af s):=qe λ_ _=>rfl;have d I:E cx 33 [.agg (aH a)] I=W (.bool (!iJ a),I):=Wgq a (e a (by rw[b];simp)) I;have j:=Wad s l e r (q++[a]) (by rw[b];simp);rw[show((q++[a]).length:Int)=q.length+1 by simp,show(q++[a]).length=q.length+1 by simp]at j;rw[F7];show _=W (V.int .i64 (if iJ a then dq r (q.length+1)else q.length),[]);have f3 k I:fz k I fzD (.fn 33 [] [])=W (.fn 33 [] []):=vC rfl;cases c:iJ a with
  |true=>rw[c]at d;simp -implicitDefEqProofs(disch:=try exact wK)only[go_sem,ya,LY,f,h,i,f1,f3,d,j]
  |false=>rw[c]at d;simp -implicitDefEqProofs(disch:=try exact wK)only[go_sem,ya,LY,f,h,i,f1,f3,d]
def Wgr(s:Sl bq)(b:s.l.length<=1000000000)(c:∀a∈s.l,jh a)(I:hN):E cx 32 [ae af s,.fn 33 [] []] I=W (iI (dq s.l 0),I):=by refine v_ X0K X0K ?_ (by rw[Qae,vw λ_ _=>rfl];rfl) I;have h:Dq QaT 0 0 [ae af s,.fn 33 [] [],iI s.l.length,iI 0] []=W (iI (dq s.l 0),[]):=Wad s b c s.l [] rfl;have f1 k I:fz k I fzD (ae af s)=W (ae af s):=qe λ_ _=>rfl;have f3 k I:fz k I fzD (.fn 33 [] [])=W (.fn 33 [] []):=vC rfl;rw[SK];simp only[go_sem,L3,f1,f3,h]
theorem Wgs:∀(l:wD) (i:Nat),(∀a∈l,iJ a)->dq l i = -1
 |[],_,_=>rfl
 |a::r,i,h=>by unfold dq;rw[A9a (h a (wA ..))];exact Wgs r _ λb c=>h b (wh _ c)
def Ts(s:Sl bq)(d:s.l.length<=1000000000)(e:∀a∈s.l,jh a)(b:∀a∈s.l,iJ a)(I:hN):E cx 20 [ae af s] I=W (.bc,I):=by refine v_ X0K X0K ?_ (by rw[Qae,vw λ_ _=>rfl];rfl) I;have c:=λI=>Wgr s d e I;rw[Wgs _ _ b]at c;rw[SQ];simp -implicitDefEqProofs only[go_sem,Ma,c]
def Wsf{s:u2}(h:P2 s):VT s:=by have:DI.all VT:=X0K;unfold P2 bu at h;have⟨x,a,e⟩:=OV.1 h;rw[pM e];exact AI.1 this x a
def oR(a:bq):Bool:=(VT a.space&&(VT a.text&&VT a.name))&&(if a.kind=2 then decide (¬a.name=[])else if a.kind=3 then P2 a.name else decide (a.kind=1))
def Ww4(a:bq):oR a=iJ a:=by
 unfold oR iJ;cases VT a.space<;>cases VT a.text<;>simp only[I5,Ab,JM]
 all_goals try rfl
 by_cases b:a.kind=2
 ·rw[A9a b,A9a b];cases VT a.name<;>simp[b]
 ·rw[O3 b,O3 b];by_cases c:a.kind=3
  ·have d:¬a.kind=1:=by omega
   rw[A9a c,O3 d,xG c];cases e:P2 a.name with
   |true=>rw[Wsf e]
   |false=>simp
  ·rw[O3 c];by_cases d:a.kind=1
   ·rw[A9a d,xG d,CB]
   ·rw[O3 d,A9i d,A9i c];simp
theorem P4(s:Sl bq)(E:s.l.length<=1000000000)(z:∀a∈s.l,jh a):∀(r q:wD),s.l=q++r->
  oB QaT 0 0 [ae af s,iI q.length] []=W (iI (dq r q.length),[])
 |[],q,b=>by
  have c:¬(q.length:Int)<s.l.length:=by rw[b];simp
  rw[xk];show _=W (V.int .i64 (-1),[]);simp -implicitDefEqProofs only[go_sem,QdN,c]
 |a::r,q,v=>by
  have B:s.l.length=q.length+r.length+1:=by rw[v];simp;omega
  have e:(q.length:Int)<s.l.length:=by omega
  have⟨K,L,M⟩:=z a (by rw[v];simp);have f:eI 7 (iI q.length) (ae af s)=W (.ai (aH a) 0):=KZ v rfl rfl;have g I:eL I true 7 (.ai (aH a) 0)=W (.agg (aH a)):=xg rfl BC;have h:u5 [.cells [iI 0,.bool T,.str [],.str [],iI 0,.str [],.bool T]] 7 (.ptr 0 0) (.agg (aH a)) (.agg (aH a))=W (.undef,[.cells (aH a)]):=rfl;have i:eL [.cells (aH a)] T 1 (.ptr 0 0)=W (iI a.kind):=rfl;have j:eL [.cells (aH a)] T 1 (.ptr 0 2)=W (.str a.space):=rfl;have l:eL [.cells (aH a)] T 1 (.ptr 0 3)=W (.str a.name):=rfl;have m:eL [.cells (aH a)] T 1 (.ptr 0 5)=W (.str a.text):=rfl;have d:=λI=>K4 a.space Y I;have n:=λI=>K4 a.text Y I;have o:=λI=>K4 a.name Y I;have y:=λI=>Wda a.name I;have f1 k I:fz k I fzD (ae af s)=W (ae af s):=qe λ_ _=>rfl;have w:=P4 s E z r (q++[a]) (by rw[v];simp);rw[show((q++[a]).length:Int)=q.length+1 by simp,show(q++[a]).length=q.length+1 by simp]at w;rw[xk];show _=W (V.int .i64 (if iJ a then dq r (q.length+1)else q.length),[]);rw[<-Ww4];unfold oR;generalize aH a=A at*;obtain⟨b,F,t,p,N,u,C⟩:=a;simp only at*;cases G:VT t<;>rw[G]at d
  ·by_cases c:b=2
   ·simp -implicitDefEqProofs only[go_sem,QdN,QdM,e,f,g,h,i,j,l,m,d,f1,c]
   ·by_cases x:b=3
    ·simp -implicitDefEqProofs(disch:=try exact wK)only[go_sem,QdN,QdM,e,f,g,h,i,j,l,m,d,f1,c,x]
    ·by_cases D:b=1
     ·simp -implicitDefEqProofs(disch:=try exact wK)only[go_sem,QdN,QdM,e,f,g,h,i,j,l,m,d,f1,c,x,D]
     ·simp -implicitDefEqProofs(disch:=try exact wK)only[go_sem,QdN,QdM,e,f,g,h,i,j,l,m,d,f1,c,x,D]
  cases H:VT u<;>rw[H]at n
  ·by_cases c:b=2
   ·simp -implicitDefEqProofs(disch:=try exact wK)only[go_sem,QdN,QdM,e,f,g,h,i,j,l,m,d,n,f1,c]
   ·by_cases x:b=3
    ·simp -implicitDefEqProofs(disch:=try exact wK)only[go_sem,QdN,QdM,e,f,g,h,i,j,l,m,d,n,f1,c,x]
    ·by_cases D:b=1
     ·simp -implicitDefEqProofs(disch:=try exact wK)only[go_sem,QdN,QdM,e,f,g,h,i,j,l,m,d,n,f1,c,x,D]
     ·simp -implicitDefEqProofs(disch:=try exact wK)only[go_sem,QdN,QdM,e,f,g,h,i,j,l,m,d,n,f1,c,x,D]
  cases J:VT p<;>rw[J]at o
  ·by_cases c:b=2
   ·simp -implicitDefEqProofs(disch:=try exact wK)only[go_sem,QdN,QdM,e,f,g,h,i,j,l,m,d,n,o,f1,c]
   ·by_cases x:b=3
    ·simp -implicitDefEqProofs(disch:=try exact wK)only[go_sem,QdN,QdM,e,f,g,h,i,j,l,m,d,n,o,f1,c,x]
    ·by_cases D:b=1
     ·simp -implicitDefEqProofs(disch:=try exact wK)only[go_sem,QdN,QdM,e,f,g,h,i,j,l,m,d,n,o,f1,c,x,D]
     ·simp -implicitDefEqProofs(disch:=try exact wK)only[go_sem,QdN,QdM,e,f,g,h,i,j,l,m,d,n,o,f1,c,x,D]
  by_cases c:b=2
  ·by_cases x:p=[]
   ·subst x;simp -implicitDefEqProofs(disch:=try exact wK)only[go_sem,QdN,QdM,e,f,g,h,i,j,l,m,d,n,o,f1,c]
   ·simp -implicitDefEqProofs(disch:=try exact wK)only[go_sem,QdN,QdM,e,f,g,h,i,j,l,m,d,n,o,f1,c,x,w]
  ·by_cases x:b=3
   ·cases D:P2 p<;>rw[D]at y
    ·simp -implicitDefEqProofs(disch:=try exact wK)only[go_sem,QdN,QdM,e,f,g,h,i,j,l,m,d,n,o,y,f1,c,x]
    ·simp -implicitDefEqProofs(disch:=try exact wK)only[go_sem,QdN,QdM,e,f,g,h,i,j,l,m,d,n,o,y,f1,c,x,w]
   ·by_cases D:b=1
    ·simp -implicitDefEqProofs(disch:=try exact wK)only[go_sem,QdN,QdM,e,f,g,h,i,j,l,m,d,n,o,f1,c,x,D,w]
    ·simp -implicitDefEqProofs(disch:=try exact wK)only[go_sem,QdN,QdM,e,f,g,h,i,j,l,m,d,n,o,f1,c,x,D]
def Ov(s:Sl bq)(b:s.l.length<=1000000000)(c:∀a∈s.l,jh a)(I:hN):E cx 6 [ae af s] I=W (iI (dq s.l 0),I):=by refine v_ X0K X0K ?_ (by rw[Qae,vw λ_ _=>rfl];rfl) I;have h:oB QaT 0 0 [ae af s,iI 0] []=W (iI (dq s.l 0),[]):=P4 s b c s.l [] rfl;have f1 k I:fz k I fzD (ae af s)=W (ae af s):=qe λ_ _=>rfl;rw[QbO];simp only[go_sem,E5,f1,h]
def ak{a:Type}:List a->Sl a
 |[]=>.nil
 |x::r=>.row (x::r)
def CL{a:Type}:∀l:List a,(ak l).l=l
 |[]=>rfl
 |_::_=>rfl
def vG{a:Type}(f:a->V)(sz:Nat):List a->V
 |[]=>.ad
 |x::r=>.sl ((x::r).map f) (.gr sz)
section
variable{q:Type}{f:q->V}{sz:Nat}{l:List q}
def h7:(vG f sz l).ng=ae f (ak l):=by cases l<;>rfl
def Ww5:V.one (vG f sz l):=by cases l<;>rfl
def Wsg:(vG f sz l).dg=T:=by cases l<;>rfl
def Qc3{n:Nat}(h:∀x,V.rb n (f x)):V.rb n (vG f sz l):=by
 cases l with
 |nil=>rfl
 |cons x r=>exact vw (s:=.row (x::r)) λy _=>h y
def UM{bytes:Nat}{I:hN}{x:q}(b:∀x,(f x).cells.length=sz)(d:∀x,yd (f x).cells)(e:∀x,eg v (f x))(g:(l.length+1)*bytes<=Qaq):
  aT T v sz bytes I (vG f sz l) (.sl [f x] a0)=W (vG f sz (l++[x])):=by
 cases l with
 |nil=>have h:=DU (l:=[x]) b d e;have a:ZS v sz [f x]:=h;unfold aT;simp only[Nv,vD,A9d,Nq,u7,va];unfold RE;rw[a,A9a rfl];simp only[vT,xJ];rw[O3 u0,A9a (by simpa using g)];rfl
 |cons y r=>exact yC (m:=[x]) b d e (.inr rfl) u0 g
end
mutual
theorem xI{n m:Nat}(h:n<=m):∀ {x:V},V.rb n x->V.rb m x
 | .ptr o a,b=>by simp[V.rb]at b ⊢; omega
 | .hs o a c d e,b=>by simp[V.rb]at b ⊢; omega
 | .mp o,a=>by simp[V.rb]at a ⊢; omega
 | .ai c a,b=>zB h (l:=c) b
 | .sl b c,a=>zB h (l:=b) a
 | .agg b,a=>zB h (l:=b) a
 | .aR b,a=>zB h (l:=b) a
 | .bE t x,a=>xI h (x:=x) a
 | .fn f c d,b=>by
  have a:V.aL n c/\V.aL n d:=by simpa[V.rb]using b
  simp[V.rb,zB h a.1,zB h a.2]
 | .hg o b c d,a=>by simp[V.rb]at a ⊢; omega
 | .eQ k x,a=>xI h (x:=x) a
 | .any,_=>rfl | .undef,_=>rfl | .bool x,_=>rfl | .int j n,_=>rfl | .str s,_=>rfl
 | .c_,_=>rfl | .ad,_=>rfl | .bc,_=>rfl | .dt,_=>rfl | .cg,_=>rfl
theorem zB{n m:Nat}(h:n<=m):∀ {l:uZ},V.aL n l->V.aL m l
 |[],_=>rfl
 |x::b,a=>by rw[Qae,vc]at a;rw[Qae,xI h a.1,zB h a.2];rfl
end
structure kI where
 space:List UInt8
 name:List UInt8
 value:List UInt8
def ay(x:kI):V:=.agg [.str x.space,.str x.name,.str x.value]
structure Nd where
 parent:Int
 kind:Int
 space:List UInt8
 name:List UInt8
 attrs:Sl kI
 an:Sl (List UInt8)
 text:List UInt8
def bX(n:Nd):uZ:=[.int .i64 n.parent,.int .i64 n.kind,.str n.space,.str n.name,ae ay n.attrs,ae V.str n.an,.str n.text]
@[reducible] def qE(n:Nd):V:=.agg (bX n)
def yD{n:Nd}:V.aL d (bX n):=by unfold bX;simp only[Qae,C2,xA,xK,CB,Ab];rw[vw λ_ _=>rfl,vw λ_ _=>rfl];rfl
variable{g4:Nd}
def Wot:V.rb d (qE g4):=yD
def Gn{n:Nd}:(bX n).map V.ng=bX n:=by unfold bX;simp only[xc,Xbx,vz,We8,Wfa]
def qf{n:Nd}:yd (bX n):=by unfold bX;simp only[CY,MO,CA,Jf,Jg,CB]
def Ss:bK y (.agg (bX g4))=W (.ptr y.length 0,y++[.cells (bX g4)]):=by rw[Qos,RH,qf,A9a rfl,Gn]
def Qc{I:hN}(h:∀o∈I,∃cs,o=.cells cs/\V.aL 0 cs):Wf I:=AI.2 λo a=>by obtain⟨cs,rfl,b⟩:=h o a;exact zB (wV _) b
def Wsh{b d e f:u2}:eB .neq (.agg [.s,.s,.s]) (.agg [.str B,.str b,.str g2]) (.agg [.str d,.str e,.str f])=W (.bool (!(decide (B=d)&&(decide (b=e)&&(decide (g2=f)&&true))))):=rfl
theorem Wae(n:Nd)(e:n.attrs.l.length<=1000000000):∀(r q:List kI),n.attrs.l=q++r->
  oF QaT 0 2 [.ptr 0 0,.ptr 1 0,iI q.length] [.cells (bX n),.cells (bX n)]=W (.bool true,[])
 |[],q,b=>by
  have c:¬(q.length:Int)<n.attrs.l.length:=by rw[b];simp
  have d:eL [.cells (bX n),.cells (bX n)] T 1 (.ptr 0 4)=W (ae ay n.attrs):=by show W (V.ng (ae ay n.attrs))=_;rw[vz]
  have f:ve 2 [.cells (bX n),.cells (bX n)]=W [.cells (bX n),.cells (bX n)]:=Kk (I:=[.cells (bX n),.cells (bX n)]) (Qc (by intro o a;simp at a;subst a;exact⟨_,rfl,yD⟩));have g:Qai (ae ay n.attrs)=W (iI n.attrs.l.length):=ON;rw[xn];simp -implicitDefEqProofs only[go_sem,oE,d,g,c,f]
 |x::r,q,a=>by
  have c:n.attrs.l.length=q.length+r.length+1:=by rw[a];simp;omega
  have f:(q.length:Int)<n.attrs.l.length:=by omega
  have g:eL [.cells (bX n),.cells (bX n)] T 1 (.ptr 0 4)=W (ae ay n.attrs):=by show W (V.ng (ae ay n.attrs))=_;rw[vz]
  have j:eL [.cells (bX n),.cells (bX n)] T 1 (.ptr 1 4)=W (ae ay n.attrs):=by show W (V.ng (ae ay n.attrs))=_;rw[vz]
  have h:ve 2 [.cells (bX n),.cells (bX n)]=W [.cells (bX n),.cells (bX n)]:=Kk (I:=[.cells (bX n),.cells (bX n)]) (Qc (by intro o b;simp at b;subst b;exact⟨_,rfl,yD⟩));have i:Qai (ae ay n.attrs)=W (iI n.attrs.l.length):=ON;have k:eI 3 (iI q.length) (ae ay n.attrs)=W (.ai [.str x.space,.str x.name,.str x.value] 0):=KZ a rfl rfl;have l I:eL I true 3 (.ai [.str x.space,.str x.name,.str x.value] 0)=W (.agg [.str x.space,.str x.name,.str x.value]):=rfl;have d:=Wae n e r (q++[x]) (by rw[a];simp);rw[show((q++[x]).length:Int)=q.length+1 by simp]at d;rw[xn];simp -implicitDefEqProofs(disch:=try exact wK)only[go_sem,oE,g,j,i,f,k,l,Wsh,h,d]
def Wdb(n:Nd)(a:n.attrs.l.length<=1000000000/\n.an.l.length<=1000000000)(I:hN):E cx 12 [qE n,qE n] I=W (.bool true,I):=by
 refine v_ X0K X0K ?_ (by rw[Qae,Qae,Wot];rfl) I;have h:oF QaT 0 2 [.ptr 0 0,.ptr 1 0,iI 0] [.cells (bX n),.cells (bX n)]=W (.bool true,[]):=Wae n a.1 n.attrs.l [] rfl;have t1:=λI=>Wse n.an n.an rfl a.2 I;have b:bK [] (.agg (bX n))=W (.ptr 0 0,[.cells (bX n)]):=Ss;have b2:bK [.cells (bX n)] (.agg (bX n))=W (.ptr 1 0,[.cells (bX n),.cells (bX n)]):=Ss;have c:eL [.cells (bX n),.cells (bX n)] T 1 (.ptr 0 0)=W (iI n.parent):=rfl;have d:eL [.cells (bX n),.cells (bX n)] T 1 (.ptr 1 0)=W (iI n.parent):=rfl;have e:eL [.cells (bX n),.cells (bX n)] T 1 (.ptr 0 1)=W (iI n.kind):=rfl;have f:eL [.cells (bX n),.cells (bX n)] T 1 (.ptr 1 1)=W (iI n.kind):=rfl;have g:eL [.cells (bX n),.cells (bX n)] T 1 (.ptr 0 2)=W (.str n.space):=rfl;have i:eL [.cells (bX n),.cells (bX n)] T 1 (.ptr 1 2)=W (.str n.space):=rfl;have j:eL [.cells (bX n),.cells (bX n)] T 1 (.ptr 0 3)=W (.str n.name):=rfl;have k:eL [.cells (bX n),.cells (bX n)] T 1 (.ptr 1 3)=W (.str n.name):=rfl;have l:eL [.cells (bX n),.cells (bX n)] T 1 (.ptr 0 6)=W (.str n.text):=rfl;have m:eL [.cells (bX n),.cells (bX n)] T 1 (.ptr 1 6)=W (.str n.text):=rfl;have o:eL [.cells (bX n),.cells (bX n)] T 1 (.ptr 0 4)=W (ae ay n.attrs):=by show W (V.ng (ae ay n.attrs))=_;rw[vz]
 have p:eL [.cells (bX n),.cells (bX n)] T 1 (.ptr 1 4)=W (ae ay n.attrs):=by show W (V.ng (ae ay n.attrs))=_;rw[vz]
 have q:eL [.cells (bX n),.cells (bX n)] T 1 (.ptr 0 5)=W (ae V.str n.an):=by show W (V.ng (ae V.str n.an))=_;rw[vz]
 have r:eL [.cells (bX n),.cells (bX n)] T 1 (.ptr 1 5)=W (ae V.str n.an):=by show W (V.ng (ae V.str n.an))=_;rw[vz]
 have s:Qai (ae ay n.attrs)=W (iI n.attrs.l.length):=ON;have t:V.aL 2 (bX n):=yD;rw[QbR];simp only[qE,Ad]at*;simp -implicitDefEqProofs only[go_sem,FD,b,b2,c,d,e,f,g,i,j,k,l,m,o,p,q,r,s,t1,h]
def Ww6(s:u2)(c:Int)(a:0<=c/\c<=255)(I:hN):E cx 117 [.str s,.int .u8 c] I=W (iI (ko c s 0),I):=by rw[RN (h:=mr) X0K];show(if 0<=c/\c<=255 then W (V.int .i64 (ko c s 0),I)else none)=_;rw[A9a a]
def Qsr(s:u2)(c:Int)(a:0<=c/\c<=255)(I:hN):E cx 103 [.str s,.int .u8 c] I=W (iI (ko c s 0),I):=by refine v_ X0K X0K ?_ rfl I;have h:=λI=>Ww6 s c a I;rw[QdB];simp -implicitDefEqProofs only[go_sem,KE,h]
def Kv(s:u2)(c:Int)(a:0<=c/\c<=255)(I:hN):E cx 89 [.str s,.int .u8 c] I=W (iI (ko c s 0),I):=by refine v_ X0K X0K ?_ rfl I;have h:=λI=>Qsr s c a I;rw[QcZ];simp -implicitDefEqProofs only[go_sem,Kx,h]
def O0(c:Int):Bool:=decide (0<=ko c [32,9,10,12,13] 0)
def MX(s:u2):Bool:=s.any λb=>O0 b.toNat
theorem Waf(s:u2)(h:s.length<=1000000000):∀(r q:u2),s=q++r->
  po QaT 0 0 [.str s,iI s.length,iI q.length] []=W (.bool (MX r),[])
 |[],q,a=>by
  have b:¬(q.length:Int)<s.length:=by rw[a];simp
  rw[yQ];show _=W (V.bool T,[]);simp -implicitDefEqProofs only[go_sem,oi,b]
 |x::r,q,a=>by
  have d:s.length=q.length+r.length+1:=by rw[a];simp;omega
  have b:(q.length:Int)<s.length:=by omega
  have e:Wx (iI q.length) (.str s)=W (.int .u8 x.toNat):=by rw[WM Y,zi,a,O7]
  have i:=K9 x;have f:=λI=>Kv [32,9,10,12,13] (x.toNat:Int) Y I;have g:=Waf s h r (q++[x]) (by rw[a];simp);rw[show((q++[x]).length:Int)=q.length+1 by simp]at g;rw[yQ];show _=W (V.bool (O0 x.toNat||MX r),[]);unfold O0;generalize ko (x.toNat:Int) [32,9,10,12,13] 0=z at*;by_cases c:0<=z
  ·simp -implicitDefEqProofs only[go_sem,oi,b,e,f,c]
  ·rw[A9i c,C3];simp -implicitDefEqProofs(disch:=try exact wK)only[go_sem,oi,b,e,f,c,g]
def Wsi(s:u2)(a:s.length<=1000000000)(I:hN):E cx 85 [.str s] I=W (.bool (MX s),I):=by refine v_ X0K X0K ?_ rfl I;have h:po QaT 0 0 [.str s,iI s.length,iI 0] []=W (.bool (MX s),[]):=Waf s a s [] rfl;rw[QcW];simp only[go_sem,IT,h]
def V5(a:Int)(s:u2):Bool:=
 if a=1\/a=2\/a=4 then false else if a=3 then MX s||decide (s=[])else if a=5\/a=6\/a=7 then decide (s=[])else true
def Wgu(s:u2)(fold:Bool)(j:s.length<=1000000000)(I:hN):E cx 64 [.agg [iI r,.str s,.bool fold]] I=W (.bool (V5 r s),I):=by
 refine v_ X0K X0K ?_ rfl I;have h:=λI=>Wsi s j I;rw[QcQ];unfold V5;by_cases b:r=1
 ·simp -implicitDefEqProofs only[go_sem,nc,QeI,QdX,QdW,b]
 ·by_cases c:r=2
  ·simp -implicitDefEqProofs(disch:=try exact wK)only[go_sem,nc,QeI,QdX,QdW,b,c]
  ·by_cases d:r=3
   ·cases e:MX s with
    |true=>rw[e]at h;simp -implicitDefEqProofs(disch:=try exact wK)only[go_sem,nc,QeI,QdX,QdW,b,c,d,h]
    |false=>rw[e]at h;simp -implicitDefEqProofs(disch:=try exact wK)only[go_sem,nc,QeI,QdX,QdW,b,c,d,h]
   ·by_cases e:r=4
    ·simp -implicitDefEqProofs(disch:=try exact wK)only[go_sem,nc,QeI,QdX,QdW,b,c,d,e]
    ·by_cases f:r=5
     ·simp -implicitDefEqProofs(disch:=try exact wK)only[go_sem,nc,QeI,QdX,QdW,b,c,d,e,f]
     ·by_cases g:r=6
      ·simp -implicitDefEqProofs(disch:=try exact wK)only[go_sem,nc,QeI,QdX,QdW,b,c,d,e,f,g]
      ·by_cases i:r=7
       ·simp -implicitDefEqProofs(disch:=try exact wK)only[go_sem,nc,QeI,QdX,QdW,b,c,d,e,f,g,i]
       ·simp -implicitDefEqProofs(disch:=try exact wK)only[go_sem,nc,QeI,QdX,QdW,b,c,d,e,f,g,i]
attribute [go_sem] vz h7 Wgl Qc3 AM Wr8 yD
theorem N_:∀(z xs:uZ),z.length=xs.length->RK z 0 xs=xs
 |[],[],_=>rfl
 |[],_::_,h=>by simp at h
 |_::_,[],h=>by simp at h
 |c::a,x::xs,h=>by show x::RK a 0 xs=_;rw[N_ a xs (by simpa using h)]
def Wgv(a:w.cells=[w])(b:w.one)(c:∀ds,w≠.agg ds)(v:w.dg=T)(h:d+1<=g.length):u5 (.cells g::y) 1 (.ptr 0 d) w w=W (.undef,.cells (g.set d w)::y):=by
 have e:yd [w]:=by simp[yd,b]
 unfold u5;simp only[hN.get,Gs,u7,va,a,vT,xJ,xr];rw[A9a ⟨trivial,h,e⟩,v];cases w with
 |agg ds=>exact absurd rfl (c ds)
 |_=>rfl
def Ww7(h:d+1<=g.length):u5 (.cells g::y) 1 (.ptr 0 d) (.int X j) (.int X j)=W (.undef,.cells (g.set d (.int X j))::y):=Wgv rfl rfl (λb e=>by cases e) rfl h
def Ww8(h:d+1<=g.length):u5 (.cells g::y) 1 (.ptr 0 d) (.str B) (.str B)=W (.undef,.cells (g.set d (.str B))::y):=Wgv rfl rfl (λb e=>by cases e) rfl h
def Wsj(h:d+1<=g.length):u5 (.cells g::y) 1 (.ptr 0 d) (.bool v) (.bool v)=W (.undef,.cells (g.set d (.bool v))::y):=Wgv rfl rfl (λb e=>by cases e) rfl h
attribute [go_sem] Ww7 Ww8 Wsj GR
def QT{i:Int}{o len:Nat}(h:0<=i/\i<len):eI 1 (.int X i) (.hs o 0 len 1 v)=W (.ptr o i.toNat):=by simp only[eI,index,A9a h,u7,va,A9c,I9,xr]
def Qqx{s:u2}(h:d<s.length):part T 1 (u4 s) d=W (.int .u8 (s.getD d 0).toNat):=by simp only[part,vD,A9d,A9c,u4,ym,vO h,A0,y9,Cr];rfl
theorem PZ:∀(r p:u2),vk T 1 (u4 (p++r)) r.length p.length=W (u4 r)
 |[],p=>rfl
 |b::r,p=>by
  have h:=PZ r (p++[b]);rw[wL]at h;simp only[vW,vT,xJ,AJ,xQ,xr]at h;have a:part T 1 (u4 (p++b::r)) p.length=W (.int .u8 b.toNat):=by rw[Qqx u0];simp
  rw[vT];simp only[vk,a,h,u7,va,AK];rfl
def Qxo{s:u2}:eC (.cells (u4 s)::y) .bh (.hs 0 0 s.length 1 T)=(bytesOf (u4 s)).map V.str:=by have h:=PZ s [];simp only[xQ,xJ]at h;show(Nq (.cells (u4 s)::y) (.hs 0 0 s.length 1 T)).bind (λa=>(bytesOf a).map V.str)=_;have b:Nq (.cells (u4 s)::y) (.hs 0 0 s.length 1 T)=W (u4 s):=h;rw[b];rfl
def Wgw{b c:UInt8}:(u4 (B++b::g2)).set B.length (.int .u8 c.toNat)=u4 (B++c::g2):=by unfold u4;rw[yW,yW,xc,xc,Hh _ _ u0];simp
def Qxp{s:u2}:Qw1 [] (.str s)=W (.hs 0 0 s.length 1 T,[.cells (u4 s)]):=rfl
def Wgx{s:u2}:(u4 s).length=s.length:=by unfold u4;rw[wq]
attribute [go_sem] QT Qqx Qxp Wgx
def k8(b:UInt8):UInt8:=dz (qd b.toNat)
def jG(s:u2):u2:=s.map k8
def Qu1{c:Int}(h:0<=c/\c<=255):0<=qd c/\qd c<=255:=by unfold qd;split<;>omega
def Tt(b:UInt8):((k8 b).toNat:Int)=qd b.toNat:=by have a:=K9 b;exact Dp (Qu1 Y)
theorem Wgy(n:Nat)(f:n<=100000000000):∀(r p:u2),n=p.length+r.length->
  E7 QaT 0 1 [.hs 0 0 n 1 T,.hs 0 0 n 1 T,iI n,iI p.length] [.cells (u4 (p++r))]=W (.str (p++jG r),[])
 |[],p,b=>by
  have a:n=(p++([]:u2)).length:=by rw[b];simp
  have d:¬p.length<n:=by rw[b];simp
  have c:eC [.cells (u4 (p++([]:u2)))] .bh (.hs 0 0 n 1 T)=W (.str (p++[])):=by rw[a,Qxo,QF];rfl
  have e:jG []=[]:=rfl;rw[Om,e];simp only[wt]at c ⊢;simp -implicitDefEqProofs(disch:=try exact wK)only[go_sem,Di,d,c]
 |b::r,p,g=>by
  have d:n=p.length+r.length+1:=by rw[g];simp;omega
  have m:=K9 b;have o:=Qu1 (c:=(b.toNat:Int)) Y;have h:=λI=>DZ (b.toNat:Int) Y I;have i:(u4 (p++b::r)).set p.length (.int .u8 (qd b.toNat))=u4 (p++k8 b::r):=by rw[<-Tt,Wgw]
  have a:=Wgy n f r (p++[k8 b]) yZ;simp only[wL,AJ,xQ,vW,vT,xJ,xr]at a;have e:jG (b::r)=k8 b::jG r:=rfl;have j:(p.length+1:Nat)=((p.length:Nat):Int)+1:=by omega
  rw[j]at a;have k:(p++b::r).getD p.length 0=b:=u0;have q:p.length<(p++b::r).length:=u0;have l:((p.length:Nat):Int).toNat=p.length:=by omega
  rw[Om,e];simp -implicitDefEqProofs(disch:=try exact wK)only[go_sem,Di,h,i,k,a,l]
def TX(s:u2)(a:s.length<=100000000000)(I:hN):E cx 86 [.str s] I=W (.str (jG s),I):=by refine v_ X0K X0K ?_ rfl I;have h:=Wgy s.length a s [] u0;simp only[xQ,xJ]at h;have b:E7 QaT 0 1 [.hs 0 0 s.length 1 T,.hs 0 0 s.length 1 T,iI s.length,iI 0] [.cells (u4 s)]=W (.str (jG s),[]):=h;rw[SF];simp only[go_sem,Ki,b]
def Cn(s p:u2):Bool:=decide (s.take p.length=p)
def Wou(s p:u2)(b:s.length<=100000000000)(c:p.length<=100000000000)(I:hN):E cx 91 [.str s,.str p] I=W (.bool (Cn s p),I):=by
 refine v_ X0K X0K ?_ (by first|rfl|(rw[Qae,vN];rfl)|(rw[Qae,IP];rfl)|(simp only[Qae,C2,xA,ZZ,vN,xK,C4])) I;rw[S8];unfold Cn;by_cases h:p.length<=s.length
 ·have a:AP (.str s) none (W (iI p.length))=W (.str (s.take p.length)):=W4 Y;simp -implicitDefEqProofs(disch:=try exact wK)only[go_sem,Em,h,a]
 ·have a:¬s.take p.length=p:=λe=>h (by rw[<-e,GQ];omega);simp -implicitDefEqProofs(disch:=try exact wK)only[go_sem,Em,h,a]
def Qxq(s p:u2)(a:s.length<=100000000000)(b:p.length<=100000000000)(I:hN):E cx 68 [.str s,.str p] I=W (.bool (Cn s p),I):=by have c:=λI=>Wou s p a b I;refine v_ X0K X0K ?_ (by first|rfl|(rw[Qae,vN];rfl)|(rw[Qae,IP];rfl)|(simp only[Qae,C2,xA,ZZ,vN,xK,C4])) I;rw[QcS];simp -implicitDefEqProofs only[go_sem,Ir,c]
def Ww9(s p:u2)(c:s.length<=100000000000)(d:p.length<=100000000000)(I:hN):E cx 90 [.str s,.str p] I=W (.aR [.str (if Cn s p then s.drop p.length else s),.bool (Cn s p)],I):=by
 have a:=λI=>Wou s p c d I;refine v_ X0K X0K ?_ (by first|rfl|(rw[Qae,vN];rfl)|(rw[Qae,IP];rfl)|(simp only[Qae,C2,xA,ZZ,vN,xK,C4])) I;rw[SI];cases b:Cn s p with
 |true=>
  rw[b]at a;have g:p.length<=s.length:=by
   have:=pM b;have e:(s.take p.length).length=p.length:=by rw[this]
   rw[GQ]at e;omega
  have f:AP (.str s) (W (iI p.length)) none=W (.str (s.drop p.length)):=Qxj Y;simp only[go_sem,Fy,a,f]
 |false=>simp only[go_sem,Fy,a,b,vD]
def Qxr(s p:u2)(a:s.length<=100000000000)(b:p.length<=100000000000)(I:hN):E cx 67 [.str s,.str p] I=W (.aR [.str (if Cn s p then s.drop p.length else s),.bool (Cn s p)],I):=by have c:=λI=>Ww9 s p a b I;refine v_ X0K X0K ?_ (by first|rfl|(rw[Qae,vN];rfl)|(rw[Qae,IP];rfl)|(simp only[Qae,C2,xA,ZZ,vN,xK,C4])) I;rw[Sr];simp only[go_sem,Ea,c]
def lX(s p:u2):Bool:=decide (p.length<=s.length)&&decide (s.drop (s.length-p.length)=p)
def Wxa(s p:u2)(c:s.length<=100000000000)(d:p.length<=100000000000)(I:hN):E cx 92 [.str s,.str p] I=W (.bool (lX s p),I):=by
 refine v_ X0K X0K ?_ (by first|rfl|(rw[Qae,vN];rfl)|(rw[Qae,IP];rfl)|(simp only[Qae,C2,xA,ZZ,vN,xK,C4])) I;rw[SU];unfold lX;by_cases h:p.length<=s.length
 ·have a:AP (.str s) (W (iI ((s.length:Int)-p.length))) none=W (.str (s.drop (s.length-p.length))):=by rw[Qxj Y];congr 3;omega
  have b:(p.length:Int)<=s.length:=by omega
  simp -implicitDefEqProofs(disch:=try exact wK)only[go_sem,Me,h,a,b]
 ·have a:¬(p.length:Int)<=s.length:=by omega
  simp -implicitDefEqProofs only[go_sem,Me,h,a]
def Qxs(s p:u2)(a:s.length<=100000000000)(b:p.length<=100000000000)(I:hN):E cx 69 [.str s,.str p] I=W (.bool (lX s p),I):=by have c:=λI=>Wxa s p a b I;refine v_ X0K X0K ?_ (by first|rfl|(rw[Qae,vN];rfl)|(rw[Qae,IP];rfl)|(simp only[Qae,C2,xA,ZZ,vN,xK,C4])) I;rw[QcT];simp -implicitDefEqProofs only[go_sem,ID,c]
def Qss(s t:u2)(a:s.length<4294967281)(I:hN):E cx 70 [.str s,.str t] I=W (.bool (Lib.contains s t),I):=by rw[RN (h:=Wla) X0K];show(if s.length<4294967281 then W (V.bool (Lib.contains s t),I)else none)=_;rw[A9a a]
mutual
theorem V.beq_refl:∀x:V,V.beq x x
 | .any | .undef | .c_ | .ad | .bc | .dt | .cg=>rfl
 | .bool b=>by simp[V.beq]
 | .int k n=>by simp[V.beq]
 | .str s=>by simp[V.beq]
 | .ptr o a=>by simp[V.beq]
 | .mp o=>by simp[V.beq]
 | .hs o a b c d=>by simp[V.beq]
 | .ai b a=>by simp[V.beq,V.bG b]
 | .sl a c=>by simp[V.beq,V.bG a]
 | .agg a=>by simp[V.beq,V.bG a]
 | .aR a=>by simp[V.beq,V.bG a]
 | .bE t x=>by simp[V.beq,V.beq_refl x]
 | .fn f a b=>by simp[V.beq,V.bG a,V.bG b]
 | .hg o a b c=>by simp[V.beq]
 | .eQ k x=>by simp[V.beq,V.beq_refl x]
theorem V.bG:∀xs:uZ,V.fj xs xs
 |[]=>rfl
 |x::xs=>by simp[V.fj,V.beq_refl x,V.bG xs]
end
def Wsk:ZU [xN v d (.ptr F b9)] y=some y:=rfl
def Qst{I:hN}(h:hN.get I F=W g):w_ [xN v d (.ptr F b9)] I I=some I:=by
 have e:bt I I (.same T F b9 (if v then d else 1)):=by simp only[bt,h,decide_true,Ab];rw[O3 (by decide)];exact V.bG _
 show(if(bt I I (.same T F b9 (if v then d else 1))&&true)=true then W I else none)=_;rw[e];rfl
attribute [go_sem] Wsk
variable{e4:O}
section
variable{q u z:O}{cs ds:uZ}{t:V}{H:hN}{sz:Nat}
def Wgz(a:ds.length=sz)(b:cs.length=sz)(c:yd ds)(d:ds.map V.ng=ds):
  u5 (.cells cs::H) sz (.ptr 0 0) (.agg ds) t=W (.undef,.cells ds::H):=by
 show(if(V.agg ds).cells.length=sz/\0+sz<=cs.length/\yd (V.agg ds).cells=true then _ else _)=_;rw[A9a ⟨a,by omega,c⟩,RH,d,N_ _ _ (by rw[a,b])];rfl
def Pb(a:ds.length=sz)(b:cs.length=sz)(c:yd ds)(d:ds.map V.ng=ds):
  u5 (q :: .cells cs::H) sz (.ptr 1 0) (.agg ds) t=W (.undef,q :: .cells ds::H):=by
 show(if(V.agg ds).cells.length=sz/\0+sz<=cs.length/\yd (V.agg ds).cells=true then _ else _)=_;rw[A9a ⟨a,by omega,c⟩,RH,d,N_ _ _ (by rw[a,b])];rfl
def Wg1(a:ds.length=sz)(b:cs.length=sz)(c:yd ds)(d:ds.map V.ng=ds):
  u5 (q::u :: .cells cs::H) sz (.ptr 2 0) (.agg ds) t=W (.undef,q::u :: .cells ds::H):=by
 show(if(V.agg ds).cells.length=sz/\0+sz<=cs.length/\yd (V.agg ds).cells=true then _ else _)=_;rw[A9a ⟨a,by omega,c⟩,RH,d,N_ _ _ (by rw[a,b])];rfl
def Wg2(a:ds.length=sz)(b:cs.length=sz)(c:yd ds)(d:ds.map V.ng=ds):
  u5 (q::u::z :: .cells cs::H) sz (.ptr 3 0) (.agg ds) t=W (.undef,q::u::z :: .cells ds::H):=by
 show(if(V.agg ds).cells.length=sz/\0+sz<=cs.length/\yd (V.agg ds).cells=true then _ else _)=_;rw[A9a ⟨a,by omega,c⟩,RH,d,N_ _ _ (by rw[a,b])];rfl
def P5(b:ds.length=sz)(a:ds.map V.ng=ds):Ev.part true sz ds 0=W (.agg ds):=by unfold Ev.part;rw[A9a rfl,A9a Y,JN,JF Y,a]
def Wsl:il y v d (.ptr F b9)=(hN.get y F).bind λcs=>Ev.part v d cs b9:=rfl
def tQ{u z:O}:hN.get (e4::u::z :: .cells g::y) 3=some g:=rfl
end
def tR{b:O}:hN.get (e4::b :: .cells g::y) 2=some g:=rfl
attribute [go_sem] tR
attribute [go_sem] Wgz Pb Wg1 Wg2 P5 Wsl tQ
def Wg3(b:UInt8)(s:u2):1<=(CN (b::s)).2/\(CN (b::s)).2<=(b::s).length:=by
 have a:1<=(b::s).length:=u0;unfold CN;simp only[vc,A9f]
 repeat' split
 all_goals first
  |exact⟨by decide,by omega⟩
  |(constructor<;>simp only<;>omega)
def Wsm(h:0<=r/\r<=1000000000000):fk .xor (iI r)=W (iI (-r-1)):=by
 obtain⟨n,rfl⟩:∃n:Nat,r=n:=⟨r.toNat,by omega⟩
 have e:(BitVec.ofInt 64 (-1) ^^^ BitVec.ofInt 64 (n:Int)).toNat=18446744073709551615-n:=by
  have a:BitVec.ofInt 64 (-1)=BitVec.allOnes 64:=by decide
  rw[a,BitVec.allOnes_xor,BitVec.toNat_not,BitVec.toNat_ofInt];have:((n:Int)%((2^64:Nat):Int)).toNat=n:=by omega
  rw[this]
 show W (V.int .i64 (IntKind.i64.wrap ((BitVec.ofInt 64 (-1) ^^^ BitVec.ofInt 64 (n:Int)).toNat:Int)))=_;rw[e];congr 2;simp only[IntKind.wrap_i64];omega
def BW(p:Int×Int):V:=.agg [.int .i64 p.1,.int .i64 p.2]
def lY(r:Int):Bool:=decide (r<128)&&decide (0<=ko r [32,9,10,13,12] 0)
def Wmf(b:0<=r)(I:hN):E cx 88 [.int .i32 r] I=W (.bool (lY r),I):=by
 refine v_ X0K X0K ?_ rfl I;rw[MN];unfold lY;by_cases c:r<128
 ·have h:=λI=>Kv [32,9,10,13,12] r Y I;have a:IntKind.u8.wrap r=r:=w8 Y;simp -implicitDefEqProofs only[go_sem,qj,c,h,a]
 ·simp -implicitDefEqProofs only[go_sem,qj,c]
def kA:Nat->u2->Nat->Int->List (Int×Int)->Int×List (Int×Int)
 |0,_,_,z,c=>(z,c)
 |_+1,[],_,z,c=>(z,c)
 |f+1,b::s,a,z,c=>
  if lY (CN (b::s)).1 then
   if 0<=z then kA f ((b::s).drop (CN (b::s)).2) (a+(CN (b::s)).2) (-z-1) (c++[(z,(a:Int))])
   else kA f ((b::s).drop (CN (b::s)).2) (a+(CN (b::s)).2) z c
  else if z<0 then kA f ((b::s).drop (CN (b::s)).2) (a+(CN (b::s)).2) (a:Int) c
   else kA f ((b::s).drop (CN (b::s)).2) (a+(CN (b::s)).2) z c
def o0(s:u2)(p:Int×List (Int×Int)):List (Int×Int):=if 0<=p.1 then p.2++[(p.1,(s.length:Int))]else p.2
def Wsn(s:u2)(p:Int×Int):u2:=(s.drop p.1.toNat).take (p.2.toNat-p.1.toNat)
def Qm(s:u2):List u2:=(o0 s (kA s.length s 0 (-1) [])).map (Wsn s)
def lZ(n:Nat)(l:List (Int×Int)):Prop:=l.length<=n+1/\∀p∈l,0<=p.1/\p.1<=p.2/\p.2<=n
theorem Su(s:u2):∀(f:Nat) (r:u2) (pos:Nat) (z:Int) (sp:List (Int×Int)),pos+r.length=s.length->z<pos->sp.length<=pos->(∀p∈sp,0<=p.1/\p.1<=p.2/\p.2<=s.length)->lZ s.length (o0 s (kA f r pos z sp))
 |0,r,pos,z,sp,d,e,g,a=>by
  unfold kA o0 lZ;split
  ·rename_i b;simp only at b;refine⟨yZ,λp c => ?_⟩;rcases xf.1 c with h|h
   ·exact a p h
   ·obtain rfl:=vR.1 h;simp only;omega
  ·exact⟨by simp only;omega,a⟩
 |f+1,[],pos,z,sp,d,e,g,a=>by
  unfold kA o0 lZ;split
  ·rename_i b;simp only at b;refine⟨yZ,λp c => ?_⟩;rcases xf.1 c with h|h
   ·exact a p h
   ·obtain rfl:=vR.1 h;simp only;omega
  ·exact⟨by simp only;omega,a⟩
 |f+1,b::d,pos,z,sp,g,i,j,a=>by
  have⟨l,m⟩:=Wg3 b d;unfold kA;generalize CN (b::d)=R at*;have c:pos+R.2+((b::d).drop R.2).length=s.length:=by rw[zj];omega
  split
  ·split
   ·rename_i k;refine Su s f _ _ _ _ c Y yZ λp e => ?_;rcases xf.1 e with h|h
    ·exact a p h
    ·obtain rfl:=vR.1 h;simp only;omega
   ·exact Su s f _ _ _ _ c Y Y a
  ·split
   ·exact Su s f _ _ _ _ c Y Y a
   ·exact Su s f _ _ _ _ c Y Y a
def Wg4{pos:Nat}:gk [.si [] pos] (.ptr 0 0)=W (.aR [.bool T],[.si [] pos]):=rfl
def Wmg{b:UInt8}{s:u2}{pos:Nat}:gk [.si (b::s) pos] (.ptr 0 0)=W (.aR [.bool true,iI pos,.int .i32 (CN (b::s)).1],[.si ((b::s).drop (CN (b::s)).2) (pos+(CN (b::s)).2)]):=rfl
def Sv{s:u2}{pos:Nat}:ve 1 [.si s pos]=W [.si s pos]:=rfl
theorem Qq0{b:Type}{f:b->V}(c:∀x,(f x).ng=f x){xs:List b}:∀(k off:Nat),off+k<=xs.length->vk T 1 (xs.map f) k off=W (((xs.drop off).take k).map f)
 |0,off,_=>by simp[vk]
 |k+1,off,d=>by
  have a:off<xs.length:=by omega
  have e:Ev.part T 1 (xs.map f) off=W (f xs[off]):=by unfold Ev.part;rw[O3 (by decide),A9a rfl,ym,vO];show W (f xs[off]).ng=_;rw[c]
  unfold vk;rw[e,Qq0 c k (off+1) Y,KP a];rfl
def Wso{b:Type}{f:b->V}{l:List b}(c:∀x,(f x).ng=f x)(d:∀n x,V.rb n (f x)):nK 0 [e4,.cells (l.map f)] (.hs 1 0 l.length 1 T)=W (.sl (l.map f) .no,[]):=by
 have e:vk T 1 (l.map f) l.length 0=W (l.map f):=by rw[Qq0 c l.length 0 Y,JN,Hl]
 have g:(l.map f).mapM (fz 0 [e4,.cells (l.map f)] 39)=W (l.map f):=Cz (AM (d 0));have h:fz 0 [e4,.cells (l.map f)] fzD (.hs 1 0 l.length 1 T)=W (.sl (l.map f) .no):=by show fz 0 [e4,.cells (l.map f)] (39+1) (.hs 1 0 l.length 1 T)=_;unfold fz;rw[O3 (by simp[V.rb])];simp only[hN.get,M8,Gs,u7,va,e,g];rfl
 unfold nK;rw[Qz0,vQ,h,vQ]
def Wsp{b:O}(h:d+1<=g.length):u5 (b :: .cells g::y) 1 (.ptr 1 d) (.str B) (.str B)=W (.undef,b :: .cells (g.set d (.str B))::y):=by unfold u5;simp only[hN.get,Gs,M8,u7,va];rw[A9a ⟨rfl,h,rfl⟩];rfl
def Wg5(h:V.aL 2 g):ve 2 (.si B d :: .cells g::y)=W [.si B d,.cells g]:=by show([O.si B d,.cells g]).mapM (fb 2 (.si B d :: .cells g::y))=_;rw[xw,xw,Fe];simp[fb,h]
def Wg6{s:u2}{b:Int}(h:0<=j/\j<=b/\b<=s.length):AP (.str s) (W (iI j)) (W (iI b))=W (.str ((s.drop j.toNat).take (b.toNat-j.toNat))):=by
 have c:vr (iI b) s.length=W b.toNat:=by simp[vr];omega
 have d:vr (iI j) b.toNat=W j.toNat:=by simp[vr];omega
 simp[AP,vI,c,d]
def Wg7{k:IntKind}{i:Int}{o len:Nat}{ag:Bool}(h:0<=i/\i<len):eI 1 (.int k i) (.hs o 0 len 1 ag)=W (.ptr o i.toNat):=by simp only[eI,index,A9a h,u7,va,A9c,I9,xr]
abbrev mo:V:=.fn 88 [] []
@[reducible] def EP(s:List UInt8)(p:Int×Int):V:=.str (Wsn s p)
theorem Wah(s:u2)(pos:Nat)(sp:List (Int×Int))(b:∀p∈sp,0<=p.1/\p.1<=p.2/\p.2<=s.length)(c:bU)(l:sp.length<=1000000000):∀(r q:List (Int×Int)),sp=q++r->
  pr QaT 0 2 [.str s,.hs 1 0 sp.length 1 T,.sl (sp.map BW) c,iI sp.length,iI q.length] [.si [] pos,.cells (q.map (EP s)++List.replicate r.length (.str []))]=W (.sl (sp.map (EP s)) .no,[])
 |[],q,a=>by
  have d:¬(q.length:Int)<sp.length:=by rw[a];simp
  have e:sp=q:=by rw[a,wt]
  subst e;have f:nK 0 [.si [] pos,.cells (sp.map (EP s))] (.hs 1 0 sp.length 1 T)=W (.sl (sp.map (EP s)) .no,[]):=Wso (λ_=>rfl) (λ_ _=>rfl);have g:ve 2 [.si [] pos,.cells (sp.map (EP s))]=W [.si [] pos,.cells (sp.map (EP s))]:=by exact Wg5 (AM λ_=>rfl)
  have h I:fz 2 I fzD (.hs 1 0 sp.length 1 T)=W (.hs 1 0 sp.length 1 T):=vC rfl;rw[yR,xJ,JJ,wt];simp only[go_sem,pq,d,f,g,h]
 |p::r,q,e=>by
  have g:sp.length=q.length+r.length+1:=by rw[e];simp;omega
  have m:(q.length:Int)<sp.length:=by omega
  have t:=b p (by rw[e];simp);have u:eI 2 (iI q.length) (.sl (sp.map BW) .no)=W (.ai [iI p.1,iI p.2] 0):=by
   have h:(sp.map BW)[q.length]?=W (BW p):=by rw[e];simp
   have f:(0:Int)<=q.length/\(q.length:Int)<(sp.map BW).length:=by rw[wq];omega
   simp only[eI,index,A9a f,u7,va,zi,h];rfl
  have v:eI 1 (iI q.length) (.hs 1 0 sp.length 1 T)=W (.ptr 1 q.length):=by
   have:=Wg7 (k:=.i64) (i:=(q.length:Int)) (o:=1) (ag:=T) ⟨by omega,by omega⟩
   rwa[zi]at this
  have w:=Wg6 t;have d:(q.map (EP s)++List.replicate (r.length+1) (V.str [])).set q.length (.str ((s.drop p.1.toNat).take (p.2.toNat-p.1.toNat)))=(q++[p]).map (EP s)++List.replicate r.length (.str []):=by rw[Hh _ _ u0,wq,EU,Gu];simp[EP,Wsn]
  have n:∀O,ve 2 [.si [] pos,.cells ((q++[p]).map (EP s)++List.replicate r.length (.str [])),O]=W [.si [] pos,.cells ((q++[p]).map (EP s)++List.replicate r.length (.str []))]:=by
   intro O;refine Wg5 ?_;rw[<-KV];refine Co.2 λx i => ?_;rcases xf.1 i with h|h
   ·obtain⟨y,_,rfl⟩:=wa.1 h;rfl
   ·obtain⟨y,_,rfl⟩:=wa.1 h;rfl
  have z:q.length+1<=(q.map (EP s)++List.replicate (r.length+1) (V.str [])).length:=u0;have f I:fz 2 I fzD (.hs 1 0 sp.length 1 T)=W (.hs 1 0 sp.length 1 T):=vC rfl;have B I:fz 2 I fzD (.sl (sp.map BW) c)=W (.sl (sp.map BW) c):=vC (AM λ_=>rfl);have C a H:u5 (.si [] pos :: .cells (q.map (EP s)++List.replicate (r.length+1) (V.str []))::H) 1 (.ptr 1 q.length) (.str a) (.str a)=W (.undef,.si [] pos :: .cells ((q.map (EP s)++List.replicate (r.length+1) (V.str [])).set q.length (.str a))::H):=Wsp z;have j:=Wah s pos sp b c l r (q++[p]) (by rw[e];simp);rw[show((q++[p]).length:Int)=q.length+1 by simp]at j;rw[yR,vT];generalize q.map (EP s)++List.replicate (r.length+1) (V.str [])=A at*;simp -implicitDefEqProofs(disch:=try exact wK)only[go_sem,pq,m,u,v,w,C,d,n,f,B,j]
def Wsq{I:hN}(h:d<=1000000000):ej T 1 16 (.str []) (iI d) (iI d) I=W (.hs I.length 0 d 1 T,I++[.cells (List.replicate d (.str []))]):=by
 have e:(List.replicate d (V.str [])).flatMap V.cells=List.replicate d (V.str []):=by
  induction d with
  |zero=>rfl
  |succ d a=>rw[Gu,AR,a Y];rfl
 unfold ej;simp only[Et,u7,va,zi,e];rw[A9a ⟨by omega,by omega,by simp only[Qaq];omega,rfl,rfl,rfl⟩]
def Wg8(s:u2)(pos:Nat)(sp:List (Int×Int))(c:lZ s.length sp)(j:s.length<=100000000):
  QdQ QaT 0 (.str s) (.sl (sp.map BW) (.gr 2)) [.si [] pos]=W (.sl (sp.map (EP s)) .no,[]):=by
 have d:sp.length<=1000000000:=by have:=c.1;omega
 have f:=Wsq (I:=[.si [] pos]) d;have e:=Wah s pos sp c.2 (.gr 2) d sp [] rfl;simp only[Xbx,xQ,xJ]at e;have a:pr QaT 0 2 [.str s,.hs 1 0 sp.length 1 T,.sl (sp.map BW) (.gr 2),iI sp.length,iI 0] [.si [] pos,.cells (List.replicate sp.length (.str []))]=W (.sl (sp.map (EP s)) .no,[]):=e;have g:Qai (.sl (sp.map BW) .no)=W (iI sp.length):=by show W (V.int .i64 ((sp.map BW).length:Nat))=_;rw[wq]
 have h:Qai (.sl (sp.map BW) (.gr 2))=W (iI sp.length):=by show W (V.int .i64 ((sp.map BW).length:Nat))=_;rw[wq]
 have i k I:fz k I fzD (.sl (sp.map BW) (.gr 2))=W (.sl (sp.map BW) (.gr 2)):=vC (AM λ_=>rfl);have b:=f;simp only[go_sem,QdQ,g,h,b,i,a]
def Wov{I:hN}{sp:List (Int×Int)}{p:Int×Int}{c:bU}(h:sp.length<=100000000):aT T true 2 16 I (.sl (sp.map BW) (.gr 2)) (.sl [.agg [iI p.1,iI p.2]] c)=W (.sl ((sp++[p]).map BW) (.gr 2)):=
 yC (m:=[p]) (λ_=>rfl) (λ_=>rfl) (λ_=>rfl) (.inr rfl) u0 (by simp only[Qaq,vT,xJ];omega)
theorem K6(s:u2)(g:s.length<=100000000):∀(f:Nat) (r:u2) (pos:Nat) (z:Int) (sp:List (Int×Int)),r.length<=f->pos+r.length=s.length->z<pos->-1000000000<=z->sp.length<=pos->(∀p∈sp,0<=p.1/\p.1<=p.2/\p.2<=s.length)->
  pw QaT 0 1 [.str s,mo,.sl (sp.map BW) (.gr 2),iI z,.ptr 0 0] [.si r pos]=W (.sl ((o0 s (kA f r pos z sp)).map (EP s)) .no,[])
 |f,[],pos,z,sp,o,i,j,q,l,m=>by
  have e:kA f [] pos z sp=(z,sp):=by cases f<;>rfl
  have a:=Su s f [] pos z sp i j l m;rw[e]at a;have b k I:fz k I fzD (.sl (sp.map BW) (.gr 2))=W (.sl (sp.map BW) (.gr 2)):=vC (AM λ_=>rfl);have d k I:fz k I fzD mo=some mo:=vC rfl;have h:=λI c=>Wov (I:=I) (sp:=sp) (p:=(z,(s.length:Int))) (c:=c) Y;rw[yS,e];unfold o0 at a ⊢;simp only at a ⊢ h;by_cases c:0<=z
  ·rw[A9a c]at a ⊢;have n:=Wg8 s pos (sp++[(z,(s.length:Int))]) a g;simp -implicitDefEqProofs(disch:=try exact wK)only[go_sem,mG,Wg4,Sv,c,b,d,h,n]
  ·rw[O3 c]at a ⊢;have n:=Wg8 s pos sp a g;simp -implicitDefEqProofs(disch:=try exact wK)only[go_sem,mG,Wg4,Sv,c,b,d,n]
 |0,b::r,pos,z,sp,a,c,d,e,h,i=>by simp at a
 |f+1,b::r,pos,z,sp,x,y,A,B,C,i=>by
  have⟨D,E⟩:=Wg3 b r;have j k I:fz k I fzD (.sl (sp.map BW) (.gr 2))=W (.sl (sp.map BW) (.gr 2)):=vC (AM λ_=>rfl);have l k I:fz k I fzD mo=some mo:=vC rfl;have m:=Wmg (b:=b) (s:=r) (pos:=pos);have e:=λI=>Wmf ((CN (b::r)).1:Int) Y I;rw[yS];unfold kA;generalize CN (b::r)=R at*;have n:pos+R.2+((b::r).drop R.2).length=s.length:=by rw[zj];omega
  have a:((b::r).drop R.2).length<=f:=by rw[zj];omega
  generalize(b::r).drop R.2=d at*;cases q:lY (R.1:Int)with
  |true=>
   rw[q]at e;simp only[A9c];by_cases c:0<=z
   ·rw[A9a c];have o:=λI c=>Wov (I:=I) (sp:=sp) (p:=(z,(pos:Int))) (c:=c) Y;have t:=K6 s g f d (pos+R.2) (-z-1) (sp++[(z,(pos:Int))]) a n Y Y yZ (λp u=>by
     rcases xf.1 u with h|h
     ·exact i p h
     ·obtain rfl:=vR.1 h;simp only;omega)
    have v:=Wsm z Y;have w k I:fz k I fzD (.sl ((sp++[(z,(pos:Int))]).map BW) (.gr 2))=W (.sl ((sp++[(z,(pos:Int))]).map BW) (.gr 2)):=vC (AM λ_=>rfl);simp only at o;generalize sp.map BW=S,(sp++[(z,(pos:Int))]).map BW=F at*;simp -implicitDefEqProofs(disch:=try exact wK)only[go_sem,mG,mF,m,LY,e,Sv,c,j,l,w,o,v,t]
   ·rw[O3 c];have h:=K6 s g f d (pos+R.2) z sp a n Y Y Y i;generalize sp.map BW=S at*;simp -implicitDefEqProofs(disch:=try exact wK)only[go_sem,mG,mF,m,LY,e,Sv,c,j,l,h]
  |false=>
   rw[q]at e;simp only[vD,A9d];by_cases c:z<0
   ·rw[A9a c];have h:=K6 s g f d (pos+R.2) pos sp a n Y Y Y i;generalize sp.map BW=S at*;simp -implicitDefEqProofs(disch:=try exact wK)only[go_sem,mG,mF,m,LY,e,Sv,c,j,l,h]
   ·rw[O3 c];have h:=K6 s g f d (pos+R.2) z sp a n Y Y Y i;generalize sp.map BW=S at*;simp -implicitDefEqProofs(disch:=try exact wK)only[go_sem,mG,mF,m,LY,e,Sv,c,j,l,h]
def Wg9(s:u2):(o0 s (kA s.length s 0 (-1) [])).map (EP s)=(Qm s).map V.str:=by unfold Qm;rw[Ni];rfl
def Wmh(s:u2)(a:s.length<=100000000)(I:hN):E cx 87 [.str s,mo] I=W (Ad (.row (Qm s)),I):=by refine v_ X0K X0K ?_ rfl I;have h:=K6 s a s.length s 0 (-1) [] (vE _) u0 Y Y u0 (λp b=>by cases b);rw[Wg9]at h;have c:pw QaT 0 1 [.str s,mo,.sl [] (.gr 2),iI (-1),.ptr 0 0] [.si s 0]=W (Ad (.row (Qm s)),[]):=h;have d:gH true 2 16 (.agg [iI 0,iI 0]) (iI 0) (iI 32)=W (.sl [] (.gr 2)):=X0K;have e:jY [] (.str s)=W (.ptr 0 0,[.si s 0]):=rfl;have f k I:fz k I fzD mo=some mo:=vC rfl;rw[QcX];simp -implicitDefEqProofs only[go_sem,QdS,d,e,f,c]
def Wsr(s:u2)(a:s.length<=100000000)(I:hN):E cx 66 [.str s] I=W (Ad (.row (Qm s)),I):=by refine v_ X0K X0K ?_ rfl I;have h:=λI=>Wmh s a I;rw[QaE];simp only[go_sem,RA,h]
def GA{I:hN}:Qfc g1 I (.fn b1 [] [c3]) [w]=g1.call b1 [w.ng,c3.ng] I:=rfl
@[reducible] def Wmi(a:Int)(s:List UInt8)(fold:Bool):V:=.agg [.int .i64 a,.str s,.bool fold]
def cW(fold:Bool)(s:u2):u2:=if fold then jG s else s
def Wai(fold:Bool)(s:u2):(cW fold s).length=s.length:=by unfold cW jG;split<;>simp
def Wss(s v:u2)(fold:Bool)(d:s.length<=100000000)(e:v.length<=100000000)(I:hN):
  E cx 65 [Wmi r s fold,.str v] I=W (.aR [Wmi r (cW fold s) fold,.str (cW fold v)],I):=by
 refine v_ X0K X0K ?_ rfl I;have b:=λI=>TX s Y I;have c:=λI=>TX v Y I;rw[QcR];unfold cW;cases fold with
 |true=>simp only[go_sem,Bm,pj,b,c]
 |false=>simp only[go_sem,Bm,pj]
def Wxb(v s:u2):Bool:=Cn v s&&(decide (v.drop s.length=[])||decide (((v.drop s.length).getD 0 0).toNat=45))
def Qu3(a:Int)(s:u2)(fold:Bool)(v:u2):Bool:=
 if V5 a s then false else
 if a=2 then decide (cW fold v=cW fold s)else
 if a=3 then bu (Qm (cW fold v)) (cW fold s)else
 if a=4 then Wxb (cW fold v) (cW fold s)else
 if a=5 then Cn (cW fold v) (cW fold s)else
 if a=6 then lX (cW fold v) (cW fold s)else
 if a=7 then Lib.contains (cW fold v) (cW fold s)else true
def Wha(s:u2):(Qm s).length<=s.length+1:=by unfold Qm;rw[wq];exact(Su s s.length s 0 (-1) [] u0 Y u0 (λp a=>by cases a)).1
def Wmj(s v:u2)(fold:Bool)(n:s.length<=100000000)(o:v.length<=100000000)(I:hN):
  E cx 43 [Wmi r s fold,.str v] I=W (.bool (Qu3 r s fold v),I):=by
 refine v_ X0K X0K ?_ rfl I;have c:=λI=>Wgu r s fold Y I;have e:=λI=>Wss r s v fold n o I;have z:=Wai fold s;have A:=Wai fold v;have p:=λI=>Wsr (cW fold v) Y I;have j:=λI=>Lb (.row (Qm (cW fold v))) (cW fold s) (by have:=Wha (cW fold v);show(Qm (cW fold v)).length<=_;omega) I;have g:=λI=>Qxr (cW fold v) (cW fold s) Y Y I;have q:=λI=>Qxq (cW fold v) (cW fold s) Y Y I;have t:=λI=>Qxs (cW fold v) (cW fold s) Y Y I;have u:=λI=>Qss (cW fold v) (cW fold s) Y I;rw[QcJ];unfold Qu3;generalize B:cW fold s=S at*;generalize C:cW fold v=a at*;cases l:V5 r s with
 |true=>rw[l]at c;simp -implicitDefEqProofs only[go_sem,mU,c]
 |false=>
  rw[l]at c;simp only[vD,A9d];by_cases f:r=2
  ·subst f;simp -implicitDefEqProofs only[go_sem,mU,c,e]
  ·by_cases h:r=3
   ·subst h;have i:w_ [xN T 1 (.ptr 0 1)] [.cells [iI 3,.str S,.bool fold]] [.cells [iI 3,.str S,.bool fold]]=W [.cells [iI 3,.str S,.bool fold]]:=Qst rfl;have b:∀I,E cx 44 [Ad (.row (Qm a)),.str S] I=W (.bool (bu (Qm a) S),I):=j;simp -implicitDefEqProofs only[go_sem,mU,c,e,p,b,i,f]
   ·by_cases i:r=4
    ·subst i;unfold Wxb;cases k:Cn a S with
     |false=>rw[k]at g;simp -implicitDefEqProofs only[go_sem,mU,c,e,g,f,h]
     |true=>
      rw[k]at g;simp only[A9c]at g;cases m:a.drop S.length with
      |nil=>rw[m]at g;simp -implicitDefEqProofs only[go_sem,mU,c,e,g,f,h]
      |cons b d=>
       rw[m]at g;have w:Wx (iI 0) (.str (b::d))=W (.int .u8 b.toNat):=WM (by rw[vT];omega);have x:¬(b::d)=[]:=u0;have y:((b.toNat:Int)=45)=(b.toNat=45):=by apply propext;omega
       simp -implicitDefEqProofs only[go_sem,mU,c,e,g,f,h,w,x,y]
    ·by_cases b:r=5
     ·subst b;simp -implicitDefEqProofs only[go_sem,mU,c,e,q,f,h,i]
     ·by_cases k:r=6
      ·subst k;simp -implicitDefEqProofs only[go_sem,mU,c,e,t,f,h,i,b]
      ·by_cases m:r=7
       ·subst m;simp -implicitDefEqProofs only[go_sem,mU,c,e,u,f,h,i,b,k]
       ·simp -implicitDefEqProofs only[go_sem,mU,c,e,f,h,i,b,k,m]
def Tl(a:bq)(x:kI):Bool:=decide (x.name=a.name)&&((!a.has||decide (a.space=x.space))&&Qu3 a.op a.text a.fold x.value)
def Xz(a:bq)(n:Nd):Bool:=
 if a.kind=1 then(decide (a.name=[])||decide (a.name=n.name))&&(!a.has||decide (a.space=n.space))else
 if a.kind=2 then n.attrs.l.any (Tl a)else
 if a.kind=3 then bu n.an.l a.name else false
def Wmk(b:V)(I:hN)(h:V.aL 0 [a1,b]=T)(c:I.isEmpty=T):E cx 42 [a1,b] I=m7 QaT a1 b I:=(cQ X0K X0K h c).trans (Cj ..)
def Qu4(b:V)(I:hN)(h:V.aL 0 [a1,b]=T)(c:I.isEmpty=T):E cx 63 [a1,b] I=Md QaT a1 b I:=(cQ X0K X0K h c).trans (QaY ..)
def V6(b:V)(I:hN)(h:V.aL 0 [a1,b]=T)(c:I.isEmpty=T):E cx 41 [a1,b] I=LS QaT a1 b I:=(cQ X0K X0K h c).trans (QaX ..)
section
variable(a:bq)(N:uZ)
abbrev hO(a:bq)(N:List V):hN:=[.cells (aH a),.cells N]
def Ol(c:V.aL 0 N):Wf (hO a N):=Qc (by
 intro o b;simp only[vZ,AS,R7]at b;rcases b with rfl|rfl
 ·exact⟨_,rfl,rfl⟩
 ·exact⟨_,rfl,c⟩)
def Wml(s:V.aL 0 N)(x:kI)(t:a.text.length<=100000000)(u:x.value.length<=100000000):
  E cx 42 [ay x,.ptr 0 0] (hO a N)=W (.bool (Tl a x),hO a N):=by
 have f:=λI=>Wmj a.op a.text x.value a.fold t u I;have h H:eL (.cells (aH a)::H) T 1 (.ptr 0 1)=W (.bool a.has):=rfl;have i H:eL (.cells (aH a)::H) T 1 (.ptr 0 2)=W (.str a.space):=rfl;have j H:eL (.cells (aH a)::H) T 1 (.ptr 0 3)=W (.str a.name):=rfl;have k H:eL (.cells (aH a)::H) true 3 (.ptr 0 4)=W (Wmi a.op a.text a.fold):=rfl;have l b:nK 2 [.cells (aH a),.cells N,.cells [.str x.space,.str x.name,.str x.value]] (.bool b)=W (.bool b,hO a N):=VO (Ol a N s) rfl;rw[Wmk _ _ _ rfl rfl];unfold Tl;simp only[hO]at*;obtain⟨n,m,e,g,o,c,d⟩:=a;obtain⟨v,w,p⟩:=x;simp only[ay]at*;by_cases q:w=g
 ·subst q;cases m with
  |false=>cases r:Qu3 o c d p<;>(rw[r]at f;simp -implicitDefEqProofs only[go_sem,m7,h,i,j,k,l,f])
  |true=>
   by_cases r:e=v
   ·subst r;cases y:Qu3 o c d p<;>(rw[y]at f;simp -implicitDefEqProofs only[go_sem,m7,h,i,j,k,l,f])
   ·simp -implicitDefEqProofs only[go_sem,m7,h,i,j,k,l,f,r]
 ·simp -implicitDefEqProofs only[go_sem,m7,h,i,j,k,l,f,q]
def j7(a:bq):List kI->Nat->Int
 |[],_ => -1
 |x::r,i=>if Tl a x then i else j7 a r (i+1)
theorem M4(a:bq):∀(l:List kI) (i:Nat),decide (0<=j7 a l i)=l.any (Tl a)
 |[],i=>rfl
 |x::r,i=>by
  unfold j7;rw[Ng];cases h:Tl a x with
  |true=>simp
  |false=>simp only[vD,A9d,C3];exact M4 a r (i+1)
abbrev hF:V:=.fn 42 [] [.ptr 0 0]
theorem Qu5(d:V.aL 0 N)(s:Sl kI)(v:s.l.length<=1000000000)(g:a.text.length<=100000000)(h:∀x∈s.l,x.value.length<=100000000):∀(r q:List kI),s.l=q++r->
  Dr QaT 2 2 [ae ay s,hF,iI s.l.length,iI q.length] (hO a N)=W (iI (j7 a r q.length),hO a N)
 |[],q,b=>by
  have c:¬(q.length:Int)<s.l.length:=by rw[b];simp
  have e n:nK 2 (hO a N) (iI n)=W (iI n,hO a N):=yg (Ol a N d) rfl;have f:ve 2 (hO a N)=W (hO a N):=Kk (Ol a N d);rw[F_];show _=W (V.int .i64 (-1),hO a N);simp only[go_sem,By,c,e,f]
 |x::r,q,e=>by
  have m:s.l.length=q.length+r.length+1:=by rw[e];simp;omega
  have i:(q.length:Int)<s.l.length:=by omega
  have j n:nK 2 (hO a N) (iI n)=W (iI n,hO a N):=yg (Ol a N d) rfl;have l:ve 2 (hO a N)=W (hO a N):=Kk (Ol a N d);have o:eI 3 (iI q.length) (ae ay s)=W (.ai [.str x.space,.str x.name,.str x.value] 0):=KZ e rfl rfl;have p I:eL I true 3 (.ai [.str x.space,.str x.name,.str x.value] 0)=W (ay x):=rfl;have t:(ay x).ng=ay x:=rfl;have f1 k I:fz k I fzD (ae ay s)=W (ae ay s):=qe λ_ _=>rfl;have f2 I:fz 2 I fzD hF=some hF:=vC rfl;have f:=Wml a N d x g (h x (by rw[e];simp));have u:=Qu5 d s v g h r (q++[x]) (by rw[e];simp);rw[show((q++[x]).length:Int)=q.length+1 by simp,show(q++[x]).length=q.length+1 by simp]at u;rw[F_];show _=W (V.int .i64 (if Tl a x then(q.length:Int)else j7 a r (q.length+1)),hO a N);generalize ay x=X,hO a N=b at*;cases c:Tl a x with
  |true=>rw[c]at f;simp only[go_sem,By,GA,i,j,l,o,p,t,f1,f2,f]
  |false=>rw[c]at f;simp -implicitDefEqProofs(disch:=try exact wK)only[go_sem,By,GA,i,j,l,o,p,t,f1,f2,f,u]
def r6(b:V.aL 0 N)(s:Sl kI)(e:s.l.length<=1000000000)(f:a.text.length<=100000000)(g:∀x∈s.l,x.value.length<=100000000):
  E cx 41 [ae ay s,hF] (hO a N)=W (.bool (s.l.any (Tl a)),hO a N):=by
 have l n:nK 2 (hO a N) (iI n)=W (iI n,hO a N):=yg (Ol a N b) rfl;have i n:nK 2 (hO a N) (.bool n)=W (.bool n,hO a N):=yg (Ol a N b) rfl;have f1 k I:fz k I fzD (ae ay s)=W (ae ay s):=qe λ_ _=>rfl;have f2 I:fz 2 I fzD hF=some hF:=vC rfl;have c:(hO a N).length=2:=rfl;have h:Dr QaT 2 2 [ae ay s,hF,iI s.l.length,iI 0] (hO a N)=W (iI (j7 a s.l 0),hO a N):=Qu5 a N b s e f g s.l [] rfl;have d:V.aL 0 [ae ay s,hF]=T:=by rw[Qae,Qae];have:V.rb 0 hF=T:=rfl;rw[this,I5,JM]
 have j:E cx 63 [ae ay s,hF] (hO a N)=W (iI (j7 a s.l 0),hO a N):=by rw[Qu4 _ _ _ d rfl];simp only[go_sem,Md,f1,f2,c,h]
 rw[V6 _ _ _ d rfl,<-M4 a s.l 0];simp only[go_sem,LS,j,c,i]
end
def PR(a:bq)(n:Nd)(v:jh a)(s:n.attrs.l.length<=1000000000/\n.an.l.length<=1000000000)(w:∀x∈n.attrs.l,x.value.length<=100000000)(I:hN):
  E cx 26 [af a,qE n] I=some (.bool (Xz a n),I):=by
 refine v_ X0K X0K ?_ (by rw[Qae,Qae,Wot];rfl) I;have d:bK [] (.agg (aH a))=some (.ptr 0 0,[.cells (aH a)]):=rfl;have b2:bK [.cells (aH a)] (.agg (bX n))=some (.ptr 1 0,[.cells (aH a),.cells (bX n)]):=Ss;have e:eL [.cells (aH a),.cells (bX n)] false 1 (.ptr 0 0)=some (iI a.kind):=rfl;have j:eL [.cells (aH a),.cells (bX n)] false 1 (.ptr 0 1)=some (.bool a.has):=rfl;have k:eL [.cells (aH a),.cells (bX n)] false 1 (.ptr 0 2)=some (.str a.space):=rfl;have g:eL [.cells (aH a),.cells (bX n)] false 1 (.ptr 0 3)=some (.str a.name):=rfl;have l:eL [.cells (aH a),.cells (bX n)] false 1 (.ptr 1 2)=some (.str n.space):=rfl;have m:eL [.cells (aH a),.cells (bX n)] false 1 (.ptr 1 3)=some (.str n.name):=rfl;have y:eL [.cells (aH a),.cells (bX n)] false 1 (.ptr 1 4)=some (ae ay n.attrs):=by show some (V.ng (ae ay n.attrs))=_;rw[vz]
 have z:eL [.cells (aH a),.cells (bX n)] false 1 (.ptr 1 5)=some (Ad n.an):=by show some (V.ng (ae V.str n.an))=_;rw[vz]
 have B:E cx 41 [ae ay n.attrs,.fn 42 [] [.ptr 0 0]] [.cells (aH a),.cells (bX n)]=some (.bool (n.attrs.l.any (Tl a)),[.cells (aH a),.cells (bX n)]):=r6 a (bX n) yD n.attrs s.1 (by have:=v.2.2;omega) w;have C:=λI=>Lb n.an a.name s.2 I;rw[S7];unfold Xz;simp only[af,qE]at*;generalize D:aH a=A at*;obtain⟨b,o,c,h,F,t,u⟩:=a;simp only at*;by_cases p:b=1
 ·subst p;have q:(1:Int)=1:=rfl;by_cases f:h=[]
  ·subst f;cases o with
   |false=>simp -implicitDefEqProofs only[go_sem,FH,d,b2,e,j,k,g,l,m,q]
   |true=>
    by_cases i:c=n.space
    ·simp -implicitDefEqProofs only[go_sem,FH,d,b2,e,j,k,g,l,m,q,i]
    ·simp -implicitDefEqProofs only[go_sem,FH,d,b2,e,j,k,g,l,m,q,i]
  ·by_cases r:h=n.name
   ·cases o with
    |false=>simp -implicitDefEqProofs only[go_sem,FH,d,b2,e,j,k,g,l,m,q,f,<-r]
    |true=>
     by_cases i:c=n.space
     ·simp -implicitDefEqProofs only[go_sem,FH,d,b2,e,j,k,g,l,m,q,f,<-r,<-i]
     ·simp -implicitDefEqProofs only[go_sem,FH,d,b2,e,j,k,g,l,m,q,f,<-r,i]
   ·simp -implicitDefEqProofs only[go_sem,FH,d,b2,e,j,k,g,l,m,q,f,r]
 ·by_cases f:b=2
  ·subst f;have q:(2:Int)=2:=rfl;simp -implicitDefEqProofs only[go_sem,FH,d,b2,e,y,B,p,q]
  ·by_cases i:b=3
   ·subst i;have q:(3:Int)=3:=rfl;simp -implicitDefEqProofs only[go_sem,FH,d,b2,e,g,z,C,p,f,q]
   ·simp -implicitDefEqProofs only[go_sem,FH,d,b2,e,p,f,i]
def M6(f:c2<8)(h:C<256):eB .and b5 (.int .u8 C) (.int .u8 ((2^c2-1:Nat):Int))=W (.int .u8 (C%2^c2:Nat)):=by
 have g:2^c2<=128:=by have:=Nat.pow_le_pow_right (show 0<2 by omega) (show c2<=7 by omega);simpa using this
 have b:0<2^c2:=Nat.pow_pos Y;have a:(BitVec.ofInt 8 (C:Int)&&&BitVec.ofInt 8 ((2^c2-1:Nat):Int)).toNat=C%2^c2:=by
  rw[BitVec.toNat_and];have c:(BitVec.ofInt 8 (C:Int)).toNat=C:=by simp[BitVec.toNat_ofInt];omega
  have d:(BitVec.ofInt 8 ((2^c2-1:Nat):Int)).toNat=2^c2-1:=by rw[BitVec.toNat_ofInt];omega
  rw[c,d,W']
 show W (V.int .u8 (IntKind.u8.wrap ((BitVec.ofInt 8 (C:Int)&&&BitVec.ofInt 8 ((2^c2-1:Nat):Int)).toNat:Int)))=_;rw[a,w8];have:=Nat.mod_lt C b;omega
def r7(h:d<256):eB .and b5 (.int .u8 d) (.int .u8 7)=W (.int .u8 (d%8:Nat)):=M6 d 3 Y h
def Wxc(h:d<256):eB .and b5 (.int .u8 d) (.int .u8 15)=W (.int .u8 (d%16:Nat)):=M6 d 4 Y h
def Wxd(h:d<256):eB .and b5 (.int .u8 d) (.int .u8 31)=W (.int .u8 (d%32:Nat)):=M6 d 5 Y h
def Wow(h:d<256):eB .and b5 (.int .u8 d) (.int .u8 63)=W (.int .u8 (d%64:Nat)):=M6 d 6 Y h
def r8(h:0<=j/\j<=1000000000):eB .shl b5 (iI j) (.int .u64 6)=W (iI (64*j)):=by show(if(6:Int)<0 then none else W (V.int .i64 (IntKind.i64.wrap (j*2^(min (6:Int).toNat 64)))))=_;rw[O3 (by decide)];have:((2:Int)^(min (6:Int).toNat 64))=64:=rfl;rw[this,Nh];congr 2;simp only[IntKind.wrap_i64];omega
def tS(h:0<=j/\j<=1000000000)(g:d<64):eB .or b5 (iI (64*j)) (iI d)=W (iI (64*j+d)):=by
 obtain⟨n,rfl⟩:∃n:Nat,j=n:=⟨j.toNat,by omega⟩
 have b:(BitVec.ofInt 64 (64*(n:Int))|||BitVec.ofInt 64 (d:Int)).toNat=64*n+d:=by
  rw[BitVec.toNat_or];have c:(BitVec.ofInt 64 (64*(n:Int))).toNat=n<<<6:=by rw[BitVec.toNat_ofInt,Xm];omega
  have f:(BitVec.ofInt 64 (d:Int)).toNat=d:=by rw[BitVec.toNat_ofInt];omega
  rw[c,f,<-Nat.shiftLeft_add_eq_or_of_lt (show d<2^6 by omega),Xm];omega
 show W (V.int .i64 (IntKind.i64.wrap ((BitVec.ofInt 64 (64*(n:Int))|||BitVec.ofInt 64 (d:Int)).toNat:Int)))=_;rw[b];congr 2;simp only[IntKind.wrap_i64];omega
attribute [go_sem] r7 Wxc Wxd Wow r8 tS
abbrev eZ(c n l h:Int):hN:=[.cells [.int .i64 c,.int .i64 n,.int .u8 l,.int .u8 h]]
def Wxe(l h:Int):Wf (eZ r c8 l h):=by rfl
def iu(x:UInt8):hN:=
 if x.toNat<128 then eZ x.toNat 0 128 191 else
 if x.toNat<=223 then eZ (x.toNat%32:Nat) 1 128 191 else
 if x.toNat<=239 then eZ (x.toNat%16:Nat) 2 (je x) (jg x)else eZ (x.toNat%8:Nat) 3 (je x) (jg x)
def Wst(m:A.toNat<128\/194<=A.toNat/\A.toNat<=244)(c n l h:Int):
  E cx 150 [.ptr 0 0,.int .u8 A.toNat] (eZ c n l h)=W (.bool true,iu A):=by
 have o:=K9 A;have a c n l h:nK 1 (eZ c n l h) (.bool true)=W (.bool true,eZ c n l h):=yg (Wxe c n l h) rfl;rw[QJ _ _ _ rfl rfl];unfold iu je jg;generalize A.toNat=k at*;by_cases b:k<128
 ·simp -implicitDefEqProofs(disch:=try exact wK)only[go_sem,CJ,wH,b,a]
  all_goals rfl
 ·have d1:¬(k:Int)<128:=by omega
  have d2:(194:Int)<=k:=by omega
  by_cases d:k<=223
  ·simp -implicitDefEqProofs(disch:=try exact wK)only[go_sem,CJ,wH,d1,d2,b,d,a]
   all_goals rfl
  ·have d3:¬(k:Int)<=223:=by omega
   by_cases e:k=224
   ·subst e;simp only[go_sem,CJ,wH,d1,d2,d3,b,d,a]
    all_goals rfl
   ·have d4:¬(k:Int)=224:=by omega
    by_cases f:k=237
    ·subst f;simp only[go_sem,CJ,wH,Cm,d1,d2,d3,d4,b,d,e,a]
     all_goals rfl
    ·have d5:¬(k:Int)=237:=by omega
     by_cases g:k<=239
     ·have d6:(k:Int)<=239:=by omega
      have d7:(224:Int)<k:=by omega
      simp -implicitDefEqProofs(disch:=try exact wK)only[go_sem,CJ,wH,Cm,d1,d2,d3,d4,d5,d6,d7,b,d,e,f,g,a]
      all_goals rfl
     ·have d6:¬(k:Int)<=239:=by omega
      have d7:(224:Int)<k:=by omega
      by_cases i:k=240
      ·subst i;simp only[go_sem,CJ,wH,Cm,d1,d2,d3,d4,d5,d6,d7,b,d,e,f,g,a]
       all_goals rfl
      ·have d8:¬(k:Int)=240:=by omega
       by_cases j:k=244
       ·subst j;simp -implicitDefEqProofs(disch:=try exact wK)only[go_sem,CJ,wH,DE,d1,d2,d3,d4,d5,d6,d7,d8,b,d,e,f,g,i,a]
        all_goals rfl
       ·have d9:¬(k:Int)=244:=by omega
        have d10:(240:Int)<k:=by omega
        have d11:(k:Int)<244:=by omega
        simp -implicitDefEqProofs(disch:=try exact wK)only[go_sem,CJ,wH,DE,d1,d2,d3,d4,d5,d6,d7,d8,d9,d10,d11,b,d,e,f,g,i,j,a]
        all_goals rfl
def Wxf(n l h:Int)(f:0<=c8/\c8<=1000000)(g:0<=n/\n<=10)(i:l<=A.toNat/\A.toNat<=h):
  E cx 151 [.ptr 0 0,.int .u8 A.toNat] (eZ c8 n l h)=W (.bool true,eZ (64*c8+(A.toNat%64:Nat)) (n-1) 128 191):=by
 have a:=K9 A;have b c8 n l h:nK 1 (eZ c8 n l h) (.bool true)=W (.bool true,eZ c8 n l h):=yg (Wxe c8 n l h) rfl;rw[Qhv _ _ _ rfl rfl];have d1:¬(A.toNat:Int)<l:=by omega
 have d2:¬h<(A.toNat:Int):=by omega
 generalize d:A.toNat%64=m at*;have e:eB .and .no (.int .u8 A.toNat) (.int .u8 63)=W (.int .u8 (m:Int)):=by rw[<-d];exact Wow a
 simp -implicitDefEqProofs(disch:=try exact wK)only[go_sem,Og,d1,d2,e,b]
def ji:Nat->u2->u_
 |0,_=>[]
 |f+1,r=>if r.isEmpty then[]else match dD r with|none=>[]|some k=>VN (r.take k)::ji f (r.drop k)
def bP(r:u2):u_:=ji r.length r
theorem Wxg:∀(f:Nat) (r:u2),r.length<=f->ji (f+1) r=ji f r
 |0,r,h=>by have:r=[]:=CP.1 Y;subst this;rfl
 |f+1,r,h=>by
  show(if r.isEmpty then[]else match dD r with|none=>[]|some k=>VN (r.take k)::ji (f+1) (r.drop k))=(if r.isEmpty then[]else match dD r with|none=>[]|some k=>VN (r.take k)::ji f (r.drop k));split
  ·rfl
  ·cases a:dD r with
   |none=>rfl
   |some k=>have b:=zN a;simp only;rw[Wxg f _ (by rw[zj];omega)]
theorem Whc:∀(d f:Nat) (r:u2),r.length<=f->ji (f+d) r=ji f r
 |0,f,r,h=>rfl
 |d+1,f,r,h=>by rw[show f+(d+1)=(f+d)+1 by omega,Wxg _ _ Y,Whc d f r h]
def Wsu(h:D.length<=C):ji C D=bP D:=by obtain⟨d,rfl⟩:=Xe h;exact Whc d _ _ (vE _)
def EX(h:dD B=W d):bP B=VN (B.take d)::bP (B.drop d):=by
 have a:=zN h;cases B with
 |nil=>cases h
 |cons x B=>show(if(x::B).isEmpty then[]else match dD (x::B)with|none=>[]|some d=>VN ((x::B).take d)::ji B.length ((x::B).drop d))=_;rw[O3 u0,h];simp only;rw[Wsu _ _ (by rw[zj,vT];omega)]
def Whd:bP []=[]:=rfl
theorem Whe:∀(f:Nat) (r:u2),(ji f r).length<=r.length
 |0,r=>by simp[ji]
 |f+1,r=>by
  show(if r.isEmpty then[]else match dD r with|none=>[]|some k=>VN (r.take k)::ji f (r.drop k)).length<=_;split
  ·simp
  ·cases a:dD r with
   |none=>simp
   |some k=>have c:=zN a;have b:=Whe f (r.drop k);rw[zj]at b;simp only[vT];omega
def Hu:(bP D).length<=D.length:=Whe _ D
def Wal(a:RJ B)(h:B≠[]):∃k,dD B=W k/\RJ (B.drop k):=by
 unfold RJ at a;rw[QN h]at a;cases b:dD B with
 |none=>rw[b]at a;cases a
 |some k=>rw[b]at a;exact⟨k,rfl,a⟩
def o6:u2->Int->Int->Prop
 |[],_,_=>True
 |y::r,l,h=>(l<=y.toNat/\y.toNat<=h)/\o6 r 128 191
theorem Wam(b:u2)(v:b.length<=1000000000):∀(m q r:u2) (c l h:Int) (N:Int),b=q++(m++r)->o6 m l h->128<=l->h<=191->m.length<=4->0<=c->c<N->N*64^m.length<=60000000->
  pC QaT 0 1 [.sl (u4 b) .no,iI q.length,.ptr 0 0] (eZ c m.length l h)=W (.aR [iI (pZ m c),iI (q.length+m.length)],[])
 |[],q,r,c,l,h,N,d,e,f,g,i,j,k,n=>by have a:ve 1 (eZ c 0 l h)=W (eZ c 0 l h):=Kk (I:=eZ c 0 l h) rfl;rw[zy];show _=W (V.aR [iI c,iI ((q.length:Int)+0)],[]);rw[Int.add_zero];simp -implicitDefEqProofs(disch:=try exact wK)only[go_sem,pB,a]
 |y::m,q,r,c,l,h,N,d,e,H,J,k,K,L,o=>by
  have p:b.length=q.length+(m.length+r.length)+1:=by rw[d];simp;omega
  have M:128<=(y.toNat:Int)/\(y.toNat:Int)<=191:=by have:=e.1;omega
  have w:1<=(64:Int)^m.length:=by have:=Int.pow_pos (n:=64) (m:=m.length) (by decide);omega
  have g:(64:Int)^(y::m).length=64^m.length*64:=by rw[vT,Int.pow_succ]
  rw[g]at o;have i:N*64*64^m.length<=60000000:=by rw[Un,Nh 64];exact o
  have s:N*64*1<=N*64*64^m.length:=OQ w Y;have t:=Wxf y c (m.length+1:Nat) l h Y (by rw[vT]at k;omega) e.1;have x:eI 1 (iI q.length) (.sl (u4 b) .no)=W (.ai [.int .u8 y.toNat] 0):=by rw[EH Y,zi,d];simp
  have z I:eL I T 1 (.ai [.int .u8 y.toNat] 0)=W (.int .u8 y.toNat):=rfl;have A:¬(q.length:Int)=b.length:=by omega
  have B:64*c+((y.toNat%64:Nat):Int)=64*c+y.toNat-128:=by omega
  have C:((m.length+1:Nat):Int)-1=m.length:=by omega
  rw[B,C]at t;have u:=Wam b v m (q++[y]) r (64*c+y.toNat-128) 128 191 (N*64) (by rw[d];simp) e.2 Y Y (by rw[vT]at k;omega) Y Y i;rw[show((q++[y]).length:Int)=q.length+1 by simp]at u;have f:=λc n l h=>Kk (I:=eZ c n l h) rfl;have D:eL (eZ c ((m.length+1:Nat):Int) l h) T 1 (.ptr 0 1)=W (iI ((m.length+1:Nat):Int)):=rfl;have E:(0:Int)<((m.length+1:Nat):Int):=by omega
  have F:W (V.aR [iI (pZ (y::m) c),iI (q.length+(y::m).length)],([]:hN))=W (V.aR [iI (pZ m (64*c+y.toNat-128)),iI ((q.length:Int)+1+m.length)],([]:hN)):=by
   have:((q.length:Int)+(y::m).length)=(q.length:Int)+1+m.length:=by rw[vT];omega
   rw[this];rfl
  have hO:(λn:Nat=>eZ c n l h) (y::m).length=eZ c ((m.length+1:Nat):Int) l h:=rfl;simp only at hO;rw[F,hO,zy];generalize G:eZ (64*c+y.toNat-128) m.length 128 191=a at*;have j:ve 1 a=some a:=by rw[<-G];exact f ..
  simp -implicitDefEqProofs(disch:=try exact wK)only[go_sem,pB,D,x,z,A,E,t,j,u]
def KO{l:u_}{c:bU}{k:IntKind}(h:0<=j/\j<=l.length):yy 1 (.sl (Z l) c) (W (.int k j)) none none=W (.sl (Z (l.drop j.toNat)) .no):=by
 have b:=MW (l:=l) (c:=c) (k:=k) (k':=.i64) ⟨h.1,h.2,by omega⟩;have e:(l.drop j.toNat).take ((l.length:Int).toNat-j.toNat)=l.drop j.toNat:=JF (by rw[zj];omega);rw[e]at b;rw[<-b];have d:vr (iI l.length) l.length=W l.length:=by simp[vr]
 unfold yy;simp only[vI,BB,u7,JK,d,va,Option.map_none]
def XG(b m r:u2)(x:UInt8)(c l h:Int)(k:b.length<=1000000000)(a:b=x::(m++r))(n:o6 m l h)(o:128<=l)(p:h<=191)(y:m.length<=3)(q:0<=c)(s:c<128)(t:x.toNat<128\/194<=x.toNat/\x.toNat<=244)(d:iu x=eZ c m.length l h)(u:(64:Int)^m.length*(c+1)<=60000000):
  Mm QaT (.sl (u4 b) .no) []=W (.aR [iI (pZ m c),iI (1+m.length)],[]):=by
 have g:=Wst x t 0 0 0 0;rw[d]at g;have i:=Wam b k m [x] r c l h (c+1) (by rw[a];rfl) n o p Y q Y (by rw[Nh];exact u);simp only[vT,xJ,xr]at i;have j:b.length=m.length+r.length+1:=by rw[a];simp
 have v:eI 1 (iI 0) (.sl (u4 b) .no)=W (.ai [.int .u8 x.toNat] 0):=by rw[EH Y,a];rfl
 have w I:eL I T 1 (.ai [.int .u8 x.toNat] 0)=W (.int .u8 x.toNat):=rfl;have e:(eZ c m.length l h).length=1:=rfl;have f:pC QaT 0 1 [.sl (u4 b) .no,iI 1,.ptr 0 0] (eZ c m.length l h)=W (.aR [iI (pZ m c),iI (1+m.length)],[]):=i;simp only[go_sem,Mm,v,w,g,e,f]
def Wsv(b:u2)(d:b.length<=1000000000)(k:Nat)(a:dD b=some k)(I:hN):E cx 133 [.sl (u4 b) .no] I=some (.aR [iI (VN (b.take k)),iI k],I):=by
 refine v_ X0K X0K ?_ (by rw[Qae,vN];rfl) I;rw[S0];have i:Mm QaT (.sl (u4 b) .no) []=some (.aR [iI (VN (b.take k)),iI k],[]):=by
  match b,a with
  |x::c,a=>
   have v:=K9 x;rw[p3]at a;unfold VN;by_cases g:x.toNat<128
   ·rw[A9a g]at a;cases a;have e:iu x=eZ x.toNat 0 128 191:=by unfold iu;rw[A9a g]
    have h:=XG (x::c) [] c x x.toNat 128 191 d rfl trivial Y Y u0 Y Y (.inl g) e (by simp only[xJ,Int.pow_zero];omega);rw[h];simp[pZ,qc]
   ·rw[O3 g]at a;by_cases j:194<=x.toNat/\x.toNat<=223
    ·rw[A9a j]at a
     match c,a,d with
     |y::r,a,d=>
      simp only at a;split at a
      ·cases a;rename_i f _;have s:128<=y.toNat/\y.toNat<=191:=by unfold eE at f;simpa using f
       have e:iu x=eZ ((x.toNat:Int)-192) 1 128 191:=by
        unfold iu;rw[O3 g,A9a j.2];have:((x.toNat%32:Nat):Int)=(x.toNat:Int)-192:=by omega
        rw[this]
       have h:=XG (x::y::r) [y] r x ((x.toNat:Int)-192) 128 191 d rfl ⟨by omega,trivial⟩ Y Y u0 Y Y (.inr Y) e (by simp only[vT,xJ];omega);rw[h];simp[pZ,qc]
      ·cases a
    ·rw[O3 j]at a;by_cases l:224<=x.toNat/\x.toNat<=239
     ·rw[A9a l]at a
      match c,a,d with
      |y::z::r,a,d=>
       simp only at a;split at a
       ·cases a;rename_i f _;rw[vc]at f;have m:=(Wl8 Y).1 f.1;have n:128<=z.toNat/\z.toNat<=191:=by have:=f.2;unfold eE at this;simpa using this
        have o:128<=je x:=by unfold je;(repeat' split)<;>omega
        have p:jg x<=191:=by unfold jg;(repeat' split)<;>omega
        have e:iu x=eZ ((x.toNat:Int)-224) 2 (je x) (jg x):=by
         unfold iu;rw[O3 g,O3 Y,A9a l.2];have:((x.toNat%16:Nat):Int)=(x.toNat:Int)-224:=by omega
         rw[this]
        have h:=XG (x::y::z::r) [y,z] r x ((x.toNat:Int)-224) (je x) (jg x) d rfl ⟨by omega,by omega,trivial⟩ Y Y u0 Y Y (.inr Y) e (by simp only[vT,xJ];omega);rw[h];simp[pZ,qc]
       ·cases a
      |[y],a,d=>cases a
      |[],a,d=>cases a
     ·rw[O3 l]at a;by_cases q:240<=x.toNat/\x.toNat<=244
      ·rw[A9a q]at a
       match c,a,d with
       |y::z::t::r,a,d=>
        simp only at a;split at a
        ·cases a;rename_i f _;rw[vc,vc]at f;have m:=(Wl8 Y).1 f.1.1;have n:128<=z.toNat/\z.toNat<=191:=by have:=f.1.2;unfold eE at this;simpa using this
         have u:128<=t.toNat/\t.toNat<=191:=by have:=f.2;unfold eE at this;simpa using this
         have o:128<=je x:=by unfold je;(repeat' split)<;>omega
         have p:jg x<=191:=by unfold jg;(repeat' split)<;>omega
         have e:iu x=eZ ((x.toNat:Int)-240) 3 (je x) (jg x):=by
          unfold iu;rw[O3 g,O3 Y,O3 Y];have:((x.toNat%8:Nat):Int)=(x.toNat:Int)-240:=by omega
          rw[this]
         have h:=XG (x::y::z::t::r) [y,z,t] r x ((x.toNat:Int)-240) (je x) (jg x) d rfl ⟨by omega,by omega,by omega,trivial⟩ Y Y u0 Y Y (.inr Y) e (by simp only[vT,xJ];omega);rw[h];simp[pZ,qc]
        ·cases a
       |[y,z],a,d=>cases a
       |[y],a,d=>cases a
       |[],a,d=>cases a
      ·rw[O3 q]at a;cases a
 simp only[go_sem,i]
theorem Wan:∀(f:Nat) (b:u2) (a:u_) (c c':bU),b.length<f->b.length<=1000000000->RJ b->(c'=.fx\/c'=.gr 1)->a.length+b.length<=2000000000->(a++bP b).head?≠W 65279->
  pz QaT 0 0 [.sl (u4 b) c,.sl (Z a) c'] []=W (.sl (Z (a++bP b)) .no,[])
 |0,b,a,c,c',d,e,g,h,i,j=>by omega
 |f+1,b,a,c,c',u,p,q,i,v,j=>by
  rw[Df];by_cases n:b=[]
  ·subst n;rw[Whd,wt]at j ⊢;by_cases d:a=[]
   ·subst d;rcases i with rfl|rfl<;>simp -implicitDefEqProofs(disch:=try exact wK)only[go_sem,ov]
   ·have e:0<a.length:=by cases a with|nil=>exact absurd rfl d|cons x r=>simp
    have g:¬a.getD 0 0=65279:=by
     cases a with
     |nil=>exact absurd rfl d
     |cons x r=>intro h;exact j (by simp at h;simp[h])
    rcases i with rfl|rfl<;>simp -implicitDefEqProofs(disch:=try exact wK)only[go_sem,ov,e,g]
  ·have⟨k,h,l⟩:=Wal q n;have e:=zN h;have s:=λI=>Wsv b p k h I;have r:(0:Int)<b.length:=by omega
   have g:yy 1 (.sl (u4 b) .no) (W (iI k)) none none=W (.sl (u4 (b.drop k)) .no):=MU e.2.2;have d:yy 1 (.sl (u4 b) c) (W (iI k)) none none=W (.sl (u4 (b.drop k)) .no):=MU e.2.2;have m(t:bU)(I:hN):aT T T 1 8 I (.sl (Z a) c') (.sl [iI (VN (b.take k))] t)=W (.sl (Z (a++[VN (b.take k)])) (.gr 1)):=WZ i (by unfold Qaq;omega);have o:=Wan f (b.drop k) (a++[VN (b.take k)]) .no (.gr 1) (by rw[zj];omega) (by rw[zj];omega) l (.inr rfl) (by rw[zj,vW];simp;omega) (by rw[wL,AJ,xQ,<-EX h];exact j);rw[wL,AJ,xQ,<-EX h]at o;cases c<;>simp only[go_sem,ov,r,s,g,d,m,o]
def Wsw(b:u2)(a:b.length<=1000000000)(c:RJ b)(d:(bP b).head?≠W 65279)(f:b≠[])(I:hN):E cx 123 [.sl (u4 b) .no] I=W (.sl (Z (bP b)) .no,I):=by
 refine v_ X0K X0K ?_ (by rw[Qae,vN];rfl) I;have h:=Wan (b.length+1) b [] .no (.gr 1) Y a c (.inr rfl) yZ d;rw[xQ]at h;have l:¬b.length=0:=λe=>f (CP.1 e);have g:¬(0:Int)=b.length:=by omega
 have i:gH T 1 8 (iI 0) (iI 0) (iI b.length)=W (.sl [] (.gr 1)):=by unfold gH;simp only[Et,u7,va];rw[A9a ⟨by omega,by omega,by unfold Qaq;omega,rfl,rfl,rfl⟩,O3 g];rfl
 have j:pz QaT 0 0 [.sl (u4 b) .no,.sl [] (.gr 1)] []=W (.sl (Z (bP b)) .no,[]):=h;have k:V.rb 0 (.sl (Z (bP b)) .no):=Nu _;rw[SG];simp -implicitDefEqProofs only[go_sem,Ce,i,j,k]
def r9(s:u2):bP (120::s)=120::bP s:=by rw[EX rfl];simp[VN,pZ,qc]
def Wsx(s:u2):RJ (120::s)=RJ s:=by rw[Pg u0 rfl];rfl
def G0{s:u2}(h:VT s):RJ s:=by unfold VT at h;rw[vc]at h;exact h.2
def P3(s:u2)(e:s.length<=100000000)(b:VT s)(I:hN):E cx 109 [.str s] I=W (.sl (Z (bP s)) .no,I):=by refine v_ X0K X0K ?_ (by rfl) I;have h:=λI=>Wsw (120::s) yZ (by rw[Wsx];exact G0 b) (by rw[r9];simp) u0 I;rw[r9]at h;have f:=Hu s;have c:yy 1 (.sl (Z (120::bP s)) .no) (W (iI 1)) none none=W (.sl (Z (bP s)) .no):=KO yZ;have a:eB .add .no (.str [120]) (.str s)=W (.str ([120]++s)):=Pn (by unfold EY;simp;omega);rw[List.singleton_append]at a;have d:V.rb 0 (.sl (Z (bP s)) .no):=Nu _;rw[So];simp only[go_sem,LG,a,h,c,d]
theorem Wao(b:u2)(p:b.length<=1000000000)(c:bU):∀(f:Nat) (a:Nat) (d:u_) (c':bU),b.length-a<f->a<=b.length->RJ (b.drop a)->(c'=.fx\/c'=.gr 1)->d.length+b.length-a<=2000000000->
  o_ QaT 0 0 [.sl (Z d) c',.sl (u4 b) c,iI a] []=W (.sl (Z (d++bP (b.drop a))) .no,[])
 |0,a,d,c',e,g,h,i,j=>by omega
 |f+1,a,d,c',z,A,v,q,B=>by
  rw[Db];by_cases C:a<b.length
  ·have r:(b.drop a).length=b.length-a:=zj ..;have⟨k,m,g⟩:=Wal v (λe=>by rw[e]at r;simp at r;omega);have w:=zN m;have l:=Qus b (a:Int) ⟨by omega,by omega⟩;unfold Wl3 at l;rw[zi,m]at l;have i:(j3 b (a:Int)).2=k:=by
    rcases l.2.2.2 with h|h
    ·have:=h.1;simp only[vU]at this;omega
    ·cases h.1
   have n:(j3 b (a:Int)).1=VN ((b.drop a).take k):=by
    rcases l.2.2.2 with h|h
    ·rw[h.2,i,zi]
    ·cases h.1
   have s:=λI=>Wgg b p (a:Int) ⟨by omega,by omega⟩ I;rw[n,i]at s;have x:(a:Int)<b.length:=by omega
   have o(y:bU)(I:hN):aT T T 1 8 I (.sl (Z d) c') (.sl [iI (VN ((b.drop a).take k))] y)=W (.sl (Z (d++[VN ((b.drop a).take k)])) (.gr 1)):=WZ q (by unfold Qaq;omega);have t:(b.drop a).drop k=b.drop (a+k):=by rw[JL]
   rw[t]at g;have u:=Wao b p c f (a+k) (d++[VN ((b.drop a).take k)]) (.gr 1) Y Y g (.inr rfl) (by rw[vW];simp;omega);have j:=EX m;rw[t]at j;rw[wL,AJ,xQ,<-j,Int.natCast_add]at u;cases c<;>simp -implicitDefEqProofs(disch:=try exact wK)only[go_sem,o9,x,s,o,u]
  ·have e:b.drop a=[]:=T_ Y;have g:¬(a:Int)<b.length:=by omega
   rw[e,Whd,wt];rcases q with rfl|rfl<;>cases c<;>simp only[go_sem,o9,g]
def Wxh(s:u2)(d:s.length<=100000000)(a:VT s)(I:hN):E cx 52 [.str s] I=W (.sl (Z (bP s)) .no,I):=by refine v_ X0K X0K ?_ (by rfl) I;have h c:o_ QaT 0 0 [.sl [] .fx,.sl (u4 s) c,iI 0] []=W (.sl (Z (bP s)) .no,[]):=Wao s Y c (s.length+1) 0 [] .fx Y Y (G0 a) (.inl rfl) yZ;have b:V.rb 0 (.sl (Z (bP s)) .no):=Nu _;rw[QcH];simp -implicitDefEqProofs only[go_sem,Gf,h,b]
structure Rw (I:hN) (o:Nat) (l:List Int):Prop where
 wf:Wf I
 get:hN.get I o=some (Z l)
 len:l.length<=1000000000
def Ct{I:hN}{o:Nat}(h:hN.get I o=W g):o<I.length:=by
 unfold hN.get at h;by_cases c:o<I.length
 ·exact c
 ·rw[B0 Y]at h;cases h
def JA{I:hN}(h:hN.get I d=W g):I.isEmpty=T:=by
 have:=Ct h;cases I with
 |nil=>simp at this
 |cons x r=>rfl
def hN.cd{I H:hN}{o:Nat}{cs:uZ}(h:hN.get I o=W cs):hN.get (I++H) o=some cs:=by have:=Ct h;unfold hN.get at h ⊢;rw[AH this];exact h
abbrev vH(o:Nat)(l:List Int):V:=.hs o 0 l.length 1 false
def Wxi(h:d<y.length):V.rb y.length (vH d c4):=by simp[V.rb,h]
def Nl(h:d<c4.length):part T 1 (Z c4) d=W (iI (c4.getD d 0)):=by simp only[part,vD,A9d,A9c,Z,ym,vO h,A0,y9,Cr];rfl
def Rw.ld{I:hN}{o:Nat}(h:Rw I o c4){i:Nat}(a:i<c4.length):eL I T 1 (.ptr o i)=W (iI (c4.getD i 0)):=by show(hN.get I o).bind (λb=>part T 1 b i)=_;rw[h.get];exact Nl a
variable{e1:Rd}
def Wxj:lf (.bool T) true e1=.none:=rfl
def Wxk:lf (.bool true) true e1=e1:=rfl
def Wxl:lf (.bool T) T e1=e1:=rfl
def Wxm:lf (.bool true) T e1=.none:=rfl
def Wsy:ZU [.none] y=some y:=rfl
def Wsz{I':hN}:w_ [.none] y I'=W I':=rfl
attribute [go_sem] Wxj Wxk Wxl Wxm Wsy Wsz
def j8:u_->Int->Nat->Int
 |[],_,_ => -1
 |x::r,c,i=>if c=x then i else j8 r c (i+1)
def cS(l:u_)(c:Int):Bool:=l.any λx=>decide (c=x)
theorem Wap:∀(l:u_) (c:Int) (i:Nat),decide (0<=j8 l c i)=cS l c
 |[],c,i=>rfl
 |x::r,c,i=>by
  unfold j8 cS;rw[Ng];by_cases h:c=x
  ·rw[A9a h,xG h];simp
  ·rw[O3 h,A9i h,C3];exact Wap r c (i+1)
def Wmm:cS c4 j=true↔j∈c4:=by
 unfold cS;rw[OV];constructor
 ·rintro⟨x,a,e⟩;rw[pM e];exact a
 ·intro h;exact⟨j,h,u0⟩
def Wxn:∀n:Fin 128,(65<=n.val/\n.val<=90->(BitVec.ofInt 64 (n.val:Int) ^^^ BitVec.ofInt 64 32).toNat=n.val+32)/\(97<=n.val/\n.val<=122->(BitVec.ofInt 64 (n.val:Int) ^^^ BitVec.ofInt 64 32).toNat=n.val-32):=by decide
def Wox(h:65<=j/\j<=90\/97<=j/\j<=122):eB .xor b5 (iI j) (iI 32)=W (iI (VW j)):=by
 obtain⟨n,rfl⟩:∃n:Nat,j=n:=⟨j.toNat,by omega⟩
 have b:n<128:=by omega
 have a:=Wxn ⟨n,b⟩;simp only at a;show W (V.int .i64 (IntKind.i64.wrap ((BitVec.ofInt 64 (n:Int) ^^^ BitVec.ofInt 64 32).toNat:Int)))=_;unfold VW;by_cases d:65<=n/\n<=90
 ·rw[a.1 d,A9a Y];congr 2;simp only[IntKind.wrap_i64];omega
 ·rw[a.2 Y,O3 Y,A9a Y];congr 2;simp only[IntKind.wrap_i64];omega
def Tw(f:-1<=r/\r<=1114111)(I:hN):E cx 110 [iI r] I=W (iI (VW r),I):=by
 refine v_ X0K X0K ?_ rfl I;have a:=λI=>DZ r f I;rw[Sx];unfold qd at a;by_cases b:65<=r/\r<=90
 ·rw[A9a Y]at a;have x1:eB .xor .no (iI r) (iI 32)=W (iI (VW r)):=Wox (.inl b);simp -implicitDefEqProofs(disch:=try exact wK)only[go_sem,LO,a,x1]
 ·rw[O3 Y]at a;by_cases d:97<=r/\r<=122
  ·have x1:eB .xor .no (iI r) (iI 32)=W (iI (VW r)):=Wox (.inr d);simp -implicitDefEqProofs(disch:=try exact wK)only[go_sem,LO,a,x1]
  ·have x1:VW r=r:=by unfold VW;rw[O3 b,O3 d]
   rw[x1];by_cases e:97<=r
   ·have g:¬r<=122:=by omega
    simp -implicitDefEqProofs only[go_sem,LO,a,e,g]
   ·simp -implicitDefEqProofs only[go_sem,LO,a,e]
def Wmo(b:V)(I:hN)(h:V.aL 0 [a1,b]=T)(c:I.isEmpty=T):E cx 134 [a1,b] I=LX QaT a1 b I:=(cQ X0K X0K h c).trans (QbI ..)
def W5(b:V)(I:hN)(h:V.aL 0 [a1,b]=T)(c:I.isEmpty=T):E cx 124 [a1,b] I=Eg QaT a1 b I:=(cQ X0K X0K h c).trans (QbE ..)
def Wmp(b:V)(I:hN)(h:V.aL 0 [a1,b]=T)(c:I.isEmpty=T):E cx 125 [a1,b] I=pA QaT a1 b I:=(cQ X0K X0K h c).trans (Ck ..)
def Ws0(h:V.aL 0 [a1]=T)(b:c5.isEmpty=T):E cx 112 [a1] c5=LK QaT a1 c5:=(cQ X0K X0K h b).trans (QbC ..)
def Qxw(h:V.aL 0 [a1]=T)(b:c5.isEmpty=T):E cx 111 [a1] c5=Fp QaT a1 c5:=(cQ X0K X0K h b).trans (QbB ..)
section
variable{I:hN}{o:Nat}{l:u_}(h:Rw I o l)
include h
theorem Qu6(c:Int):∀(r q:u_),l=q++r->
  Br QaT I.length I.length [vH o l,iI c,iI l.length,iI q.length] I=W (iI (j8 r c q.length),I)
 |[],q,a=>by
  have b:¬(q.length:Int)<l.length:=by rw[a];simp
  have d n:nK I.length I (iI n)=W (iI n,I):=yg h.wf rfl;have e:=Kk h.wf;rw[KB];show _=W (V.int .i64 (-1),I);simp only[go_sem,Bq,b,d,e]
 |x::r,q,b=>by
  have g:l.length=q.length+r.length+1:=by rw[b];simp;omega
  have m:=h.len;have d:(q.length:Int)<l.length:=by omega
  have e n:nK I.length I (iI n)=W (iI n,I):=yg h.wf rfl;have f:=Kk h.wf;have i:eI 1 (iI q.length) (vH o l)=W (.ptr o q.length):=by rw[QT Y,zi]
  have j:eL I T 1 (.ptr o q.length)=W (iI x):=by rw[h.ld Y,b];simp
  have f1:fz I.length I fzD (vH o l)=W (vH o l):=vC (Wxi (Ct h.get));have k:=Qu6 c r (q++[x]) (by rw[b];simp);rw[show((q++[x]).length:Int)=q.length+1 by simp,show(q++[x]).length=q.length+1 by simp]at k;rw[KB];show _=W (V.int .i64 (if c=x then(q.length:Int)else j8 r c (q.length+1)),I);by_cases a:c=x
  ·simp only[go_sem,Bq,d,e,f,i,j,f1,a]
  ·simp -implicitDefEqProofs(disch:=try exact wK)only[go_sem,Bq,d,e,f,i,j,f1,a,k]
theorem Wmq(c:Int):E cx 134 [vH o l,iI c] I=W (iI (j8 l c 0),I):=by have a:Br QaT I.length I.length [vH o l,iI c,iI l.length,iI 0] I=W (iI (j8 l c 0),I):=Qu6 h c l [] rfl;have f1:fz I.length I fzD (vH o l)=W (vH o l):=vC (Wxi (Ct h.get));rw[Wmo _ _ _ rfl (JA h.get)];simp only[go_sem,LX,f1,a]
theorem We(c:Int):E cx 124 [vH o l,iI c] I=W (.bool (cS l c),I):=by have a:=Wmq h c;have b n:nK I.length I (.bool n)=W (.bool n,I):=yg h.wf rfl;rw[W5 _ _ _ rfl (JA h.get),<-Wap l c 0];simp only[go_sem,Eg,a,b]
theorem Waq(c:Int)(m:0<=c/\c<=1114111)(p:Nat)(b:hN.get I p=W [vH o l]):E cx 125 [iI c,.ptr p 0] I=W (.bool (!cS l c && !cS l (VW c)),I):=by
 have d:=λc=>We h c;have i:=λI=>Tw c Y I;have e:eL I T 1 (.ptr p 0)=W (vH o l):=by show(hN.get I p).bind (λa=>Ev.part T 1 a 0)=_;rw[b];rfl
 have j:w_ [xN T 1 (.ptr p 0)] I I=some I:=Qst b;have f n:nK I.length I (.bool n)=W (.bool n,I):=yg h.wf rfl;have k:V.aL 0 [V.int .i64 c,.ptr p 0]=T:=rfl;rw[Wmp _ _ _ k (JA b)];cases g:cS l c with
 |true=>have a:=d c;rw[g]at a;simp only[go_sem,pA,e,a,f]
 |false=>have a:=d c;rw[g]at a;simp -implicitDefEqProofs only[go_sem,pA,e,a,d,i,j,f]
end
def MS{I:hN}(h:Wf I){H:hN}(b:∀x∈H,O.rb (I.length+H.length) x):Wf (I++H):=by
 unfold Wf at h ⊢;rw[List.all_append,vW,vc];refine⟨AI.2 λx c => ?_,AI.2 b⟩;have a:=AI.1 h x c;cases x with
 |cells d=>exact zB Y (show V.aL I.length d=true from a)
 |mp d=>simp only[O.rb,vc]at a ⊢;exact⟨zB (Nat.le_add_right ..) a.1,zB (Nat.le_add_right ..) a.2⟩
 |si r p=>rfl
 |gone=>rfl
def Ws1{b:UInt8}{s:u2}(h:b.toNat<128):CN (b::s)=(b.toNat,1):=by unfold CN;simp[h]
def Woy{I:hN}{b:UInt8}{r:u2}{pos:Nat}(h:b.toNat<128):gk (I++[.si (b::r) pos]) (.ptr I.length 0)=W (.aR [.bool true,iI pos,.int .i32 b.toNat],I++[.si r (pos+1)]):=by have e:(I++[O.si (b::r) pos])[I.length]?=W (.si (b::r) pos):=u0;simp only[gk,e,Ws1 h];simp
def Wxo{I:hN}{pos:Nat}:gk (I++[.si [] pos]) (.ptr I.length 0)=W (.aR [.bool T],I++[.si [] pos]):=by have e:(I++[O.si [] pos])[I.length]?=W (.si [] pos):=u0;simp only[gk,e]
def War(l:u_):∃j:Nat,j<=l.length/\cS l (256+j)=T:=by
 refine Dx λe => ?_;have c:∀j:Nat,j<=l.length->(256+(j:Int))∈l:=λj f=>by
  refine Dx λa=>e ⟨j,f,?_⟩;cases b:cS l (256+j)with
  |false=>rfl
  |true=>exact absurd (Wmm.1 b) a
 have g:((List.range (l.length+1)).map λj:Nat=>256+(j:Int)).Nodup:=by refine List.Pairwise.map _ (λa b (i:a≠b) => ?_) List.nodup_range;omega
 have d:((List.range (l.length+1)).map λj:Nat=>256+(j:Int)) ⊆ l:=by intro x h;obtain⟨j,f,rfl⟩:=wa.1 h;exact c j (by have:=KX.1 f;omega)
 have:=EN _ _ g λx h=>d h;simp at this;omega
def gW(l:u_)(c:Int):Bool:=!cS l c && !cS l (VW c)
def fU(l:u_):Nat->Int->Int
 |0,c=>c
 |f+1,c=>if gW l c then c else fU l f (c+1)
def gJ(l:u_):u2->Int
 |[]=>fU l (l.length+1) 256
 |b::r=>if gW l b.toNat then b.toNat else gJ l r
def xO:u2:=[97,98,99,100,101,102,103,104,105,106,107,108,109,110,111,112,113,114,115,116,117,118,119,120,121,122,48,49,50,51,52,53,54,55,56,57]
def fP(l:u_):Int:=gJ l xO
section
variable{I:hN}{o:Nat}{l:u_}(h:Rw I o l)(q:l.length<=100000)
include h
abbrev fZ(I:hN)(o:Nat)(l:List Int)(r:List UInt8)(pos:Nat):hN:=I++[.cells [vH o l],.si r pos]
theorem Whf(r:u2)(pos:Nat):Rw (fZ I o l r pos) o l:=by
 refine⟨MS h.wf λx a => ?_,hN.cd h.get,h.len⟩;have b:=Ct h.get;simp only[vZ,AS,R7]at a;rcases a with rfl|rfl
 ·show V.aL _ [vH o l];simp[V.aL,V.rb];omega
 ·rfl
theorem Woz(r:u2)(pos:Nat):hN.get (fZ I o l r pos) I.length=W [vH o l]:=by unfold hN.get;simp
theorem Qd(r:u2)(pos:Nat):(fZ I o l r pos).length=I.length+2:=u0
abbrev lh(I:hN):V:=.fn 125 [] [.ptr I.length 0]
theorem UJ(pos:Nat):∀(f:Nat) (c:Int),0<=c->c+f<=1114111->(∃j:Nat,j<f/\cS l (c+j)=T)->256<=c->
  xU QaT I.length (I.length+2) [lh I,iI c] (fZ I o l [] pos)=W (iI (fU l f c),I)
 |0,c,b,d,⟨j,a,_⟩,e=>absurd a (Nat.not_lt_zero _)
 |f+1,c,m,p,⟨j,q,a⟩,r=>by
  have b:=Waq (Whf h [] pos) c Y I.length (Woz h [] pos);have f1:fz (I.length+2) (fZ I o l [] pos) fzD (lh I)=W (lh I):=vC (by simp[V.rb,V.aL]);have d:ve (I.length+2) (fZ I o l [] pos)=W (fZ I o l [] pos):=by rw[<-Qd h [] pos];exact Kk (Whf h [] pos).wf
  have g n:nK I.length (fZ I o l [] pos) (iI n)=W (iI n,I):=VO h.wf rfl;have i:VW c=c:=by unfold VW;rw[O3 Y,O3 Y]
  rw[i]at b;rw[FR];show _=W (V.int .i64 (if gW l c then c else fU l f (c+1)),I);unfold gW;rw[i];cases e:cS l c with
  |false=>rw[e]at b;simp only[go_sem,Bb,GA,b,f1,d,g]
  |true=>
   have k:=UJ pos f (c+1) Y Y (by
    cases j with
    |zero=>rw[show c+((0:Nat):Int)=c by omega,e]at a;cases a
    |succ j=>exact⟨j,by omega,by rw[show c+1+(j:Int)=c+((j+1:Nat):Int) by omega];exact a⟩) Y
   rw[e]at b;simp -implicitDefEqProofs(disch:=try exact wK)only[go_sem,Bb,GA,b,f1,d,g,k]
include q
theorem Wo1:∀(r:u2) (pos:Nat),(∀b∈r,b.toNat<128)->
  Bc QaT I.length (I.length+2) [lh I,.ptr (I.length+1) 0] (fZ I o l r pos)=W (iI (gJ l r),I)
 |[],pos,g=>by
  have d:gk (fZ I o l [] pos) (.ptr (I.length+1) 0)=W (.aR [.bool T],fZ I o l [] pos):=by have:=Wxo (I:=I++[.cells [vH o l]]) (pos:=pos);simpa using this
  have f1:fz (I.length+2) (fZ I o l [] pos) fzD (lh I)=W (lh I):=vC (by simp[V.rb,V.aL]);have a:ve (I.length+2) (fZ I o l [] pos)=W (fZ I o l [] pos):=by rw[<-Qd h [] pos];exact Kk (Whf h [] pos).wf
  have⟨j,i,c⟩:=War l;have e:=UJ h pos (l.length+1) 256 Y Y ⟨j,by omega,c⟩ Y;have f:=Qd h [] pos;rw[FS];show _=W (V.int .i64 (fU l (l.length+1) 256),I);simp only[go_sem,xV,d,f1,a,f,e]
 |b::r,pos,d=>by
  have g:=d b (wA ..);have e:gk (fZ I o l (b::r) pos) (.ptr (I.length+1) 0)=W (.aR [.bool true,iI pos,.int .i32 b.toNat],fZ I o l r (pos+1)):=by have:=Woy (I:=I++[.cells [vH o l]]) (pos:=pos) (r:=r) g;simpa using this
  have c:=Waq (Whf h r (pos+1)) (b.toNat:Int) Y I.length (Woz h r (pos+1));have f1:fz (I.length+2) (fZ I o l r (pos+1)) fzD (lh I)=W (lh I):=vC (by simp[V.rb,V.aL]);have f2:fz (I.length+2) (fZ I o l r (pos+1)) fzD (.ptr (I.length+1) 0)=W (.ptr (I.length+1) 0):=vC (by simp[V.rb]);have a:ve (I.length+2) (fZ I o l r (pos+1))=W (fZ I o l r (pos+1)):=by rw[<-Qd h r (pos+1)];exact Kk (Whf h r (pos+1)).wf
  have i n:nK I.length (fZ I o l r (pos+1)) (iI n)=W (iI n,I):=VO h.wf rfl;have j:=Wo1 r (pos+1) λx k=>d x (wh _ k);rw[FS];show _=W (V.int .i64 (if gW l b.toNat then(b.toNat:Int)else gJ l r),I);unfold gW;cases f:(!cS l b.toNat && !cS l (VW b.toNat))with
  |true=>rw[f]at c;simp -implicitDefEqProofs(disch:=try exact wK)only[go_sem,xV,GA,e,c,f1,f2,a,i]
  |false=>rw[f]at c;simp -implicitDefEqProofs(disch:=try exact wK)only[go_sem,xV,GA,e,c,f1,f2,a,j]
theorem Ws2:E cx 112 [vH o l] I=W (iI (fP l),I):=by
 have c:=Wo1 h q xO 0 (by decide);have d:bK I (vH o l)=W (.ptr I.length 0,I++[.cells [vH o l]]):=rfl;have e s:jY (I++[.cells [vH o l]]) (.str s)=W (.ptr (I.length+1) 0,fZ I o l s 0):=by show W (V.ptr (I++[O.cells [vH o l]]).length 0,(I++[O.cells [vH o l]])++[O.si s 0])=_;simp
 have f1:fz (I.length+2) (fZ I o l xO 0) fzD (lh I)=W (lh I):=vC (by simp[V.rb,V.aL]);have f2:fz (I.length+2) (fZ I o l xO 0) fzD (.ptr (I.length+1) 0)=W (.ptr (I.length+1) 0):=vC (by simp[V.rb]);have a:=Qd h xO 0;have b:=e xO;unfold xO at b;rw[Ws0 _ _ rfl (JA h.get)];show _=W (V.int .i64 (gJ l xO),I);unfold xO at c f1 f2 a ⊢;simp -implicitDefEqProofs only[go_sem,LK,d,b,f1,f2,a,c]
end
end Go.Ev
