/- For any list of atoms and any int LocalLimits answers true, and its arguments read as they did. Condition: the row's listed variables (tables, and errors.errorType) read as the program's text lays them; the card ties that. -/
import Derived.Test.YthihdggoaeaakaaGreatDoorLoXf
import Derived.Test.YthihdggoaeaakaaGreatDoorProg
import Derived.Shelf.Strings.Search3
import Derived.Shelf.Sort.Plain
import Derived.Test.YthihdggoaeaakaaGreatDoorChecked
import Derived.Lib.Bytealg
import Derived.Laws.Externs
import Derived.Shelf.Abstract
import Derived.WalkKit
import Derived.OwnWalkIn
import Derived.TacticsInMore
import Derived.LoopNIn
import Derived.LoopIn
import Derived.Shelf.RegionOpen
import Derived.Lib.Hide
import Derived.RangeFuncRecord
import Derived.Lib.Builder
import Derived.Lib.UnsafeStr
import Derived.Shelf.Strings.Builder1
import Derived.ProofKit
import Derived.Lib.SmallJoins
import Derived.ChangeSlices
import Derived.ChangeArms
import Derived.DataReads
import Derived.Stop.LaidErr
import Derived.Lib.LaidTab
import Derived.Lib.LaidU8
import Derived.ChangeVars
import Derived.JoinedOf
import Derived.LaidLaws
import Derived.LaidHandle
import Derived.SizedLaws
import Derived.Shelf.Vars
import Derived.LaidSub
import Derived.Stop.Joined
import Derived.Lay
import Derived.SevenTiedAt
import Derived.LaidOnce
import Derived.Test.YthihdggoaeaakaaGreatDoorTie
import Derived.Test.YthihdggoaeaakaaGreatDoorCards
set_option linter.all false
set_option maxHeartbeats 1000000
set_option maxHeartbeats 4000000
set_option maxRecDepth 100000
open Go.Proofs.Tryz
namespace Go.Ev
open Go Go.Proofs Go.Proofs.YthihdggoaeaakaaGreatDoor
def dE(b:u2):wD->aO×Nat->aO×Nat
 |[],c=>c
 |a::r,c=>dE b r (if a.kind=2/\a.name=b then(if a.has=true then(bN c.1 a.space,c.2)else(c.1,c.2+1))else c)
def xq(b:u2)(sp:aO)(k:Nat)(a:bq):Bool:=decide (a.kind=2)&&(decide (a.name=b)&&(!a.has||(decide (k<sp.length)&&decide (a.space=sp.getD k []))))
def bZ(L:wD)(a:u2)(sp:aO)(k:Nat):wZ:=(L.filter (xq a sp k)).map cC
def qh(L:wD)(a:u2)(sp:aO):Nat->Nat->Int×Int->Int×Int
 |0,k,b=>b
 |f+1,k,b=>qh L a sp f (k+1) (VG b.1 (zu (ec (bZ L a sp k).length) 1),zu b.2 (iz (bZ L a sp k)))
def RB(L:wD)(a:u2):Int×Int:=qh L a (dE a L ([],0)).1 ((dE a L ([],0)).1.length+(dE a L ([],0)).2) 0 (1,0)
variable{j:Int}(D:aO)(X:Int)(I:hN)(S:GV)(g:wD)(H:bH)(B:u2)(i:Nat)(c:wZ)
def VR{b:Int}(c:0<=j)(d:0<=b):0<=zu j b/\zu j b<=4611686018427387904:=by
 unfold zu;split
 ·omega
 ·split
  ·omega
  ·split<;>omega
theorem Wja(b:u2):∀(r:wD) (st:aO×Nat),(dE b r st).1.length<=st.1.length+r.length/\(dE b r st).2<=st.2+r.length
 |[],st=>by simp[dE]
 |a::r,st=>by
  unfold dE;have d:=Wja b r (if a.kind=2/\a.name=b then(if a.has=true then(bN st.1 a.space,st.2)else(st.1,st.2+1))else st);have c:=SS st.1 a.space;have e:(if a.kind=2/\a.name=b then(if a.has=true then(bN st.1 a.space,st.2)else(st.1,st.2+1))else st).1.length<=st.1.length+1/\(if a.kind=2/\a.name=b then(if a.has=true then(bN st.1 a.space,st.2)else(st.1,st.2+1))else st).2<=st.2+1:=by
   split
   ·split
    ·exact⟨c,by show st.2<=_;omega⟩
    ·exact⟨by show st.1.length<=_;omega,vE _⟩
   ·exact⟨by omega,by omega⟩
  simp only[vT];omega
section
variable(s:Sl bq)(N:s.l.length<=100)(z:∀a∈s.l,VT a.text=true/\a.text.length<=200)(u:u2)
include N z
theorem Wui(sp:aO)(p:bU)(rows j n:Int)(k:Nat)(S:k<=1000)(M:Rk)(R:Ro)(O:∀(cs:wZ) (c:bU),c=.fx\/c=.gr 3->cs=bZ s.l u sp k->
   (bd (E cx 30 [iI cs.length] []) λd=>
    bd (E cx 19 [d.1.ng,iI 1] d.2) λe=>
    bd (E cx 17 [iI rows,e.1.ng] e.2) λf=>
    bd (E cx 31 [.sl (cs.map eS) .no] f.2) λg=>
    bd (E cx 19 [iI j,g.1.ng] g.2) λb=>
    bd (fz 0 b.2 fzD f.1.ng) λh=>
    bd (fz 0 b.2 fzD b.1.ng) λi=>
    bd (ve 0 b.2) λl=>M [ae af s,.str u,aW sp p,h,i,iI n,iI (k+1)] l)=R):∀(r q:wD) (cs:wZ) (c:bU),s.l=q++r->(c=.fx\/c=.gr 3)->cs=(q.filter (xq u sp k)).map cC->
  oH QaT 0 0 M 0 [ae af s,.str u,aW sp p,iI rows,iI j,iI n,iI k,.sl (cs.map eS) c,iI q.length] []=R
 |[],q,cs,c,g,h,b=>by
  have d:q=s.l:=by rw[g];simp
  have i:¬(q.length:Int)<s.l.length:=by rw[g];simp
  have l:Qai (ae af s)=W (iI s.l.length):=ON;have m:(ae af s).ng=ae af s:=vz;have e:=O cs c h (by rw[b,d];rfl);have o:Qai (.sl (cs.map eS) .no)=W (iI cs.length):=by have:=ON (f:=eS) (s:=.row cs);exact this
  have f1 n I:fz n I fzD (.sl (cs.map eS) c)=W (.sl (cs.map eS) c):=vC (AM λ_=>rfl);have f2 n I:fz n I fzD (ae af s)=W (ae af s):=vC (vw λ_ _=>rfl);have f3 n I:fz n I fzD (aW sp p)=W (aW sp p):=vC P6;rw[xT,<-e];simp -implicitDefEqProofs(disch:=try exact wK)only[go_sem,mw,m,l,i,f1,f2,f3,o]
 |a::r,q,cs,c,N,U,v=>by
  have X:s.l.length=q.length+r.length+1:=by rw[N];simp;omega
  have x:(q.length:Int)<s.l.length:=by omega
  have y:Qai (ae af s)=W (iI s.l.length):=ON;have z:(ae af s).ng=ae af s:=vz;have A:eI 7 (iI q.length) (ae af s)=W (.ai (aH a) 0):=KZ (f:=af) N rfl rfl;have B:∀n:Nat,eF n (.ai (aH a) 0)=W (.ai (aH a) n):=λn=>by show W (V.ai (aH a) (0+n))=_;rw[xr]
  have w:Ev.part T 1 (aH a) 0=W (iI a.kind):=rfl;have C:Ev.part T 1 (aH a) 1=W (.bool a.has):=rfl;have p2:Ev.part T 1 (aH a) 2=W (.str a.space):=rfl;have F:Ev.part T 1 (aH a) 3=W (.str a.name):=rfl;have p4:Ev.part true 3 (aH a) 4=W (eS (cC a)):=rfl;have h:cs.length<=100:=by rw[v,wq];have:=JH (xq u sp k) q;omega
  have bf:wS true 3 1 (.agg [iI 0,.str [],.bool T]) [(0,eS (cC a))]=W (.sl [eS (cC a)] .fx):=rfl;have ap i:aT T true 3 32 [] (.sl (cs.map eS) c) (.sl [eS (cC a)] i)=W (.sl ((cs++[cC a]).map eS) (.gr 3)):=yC (m:=[cC a]) (f:=eS) (λ_=>rfl) (λ_=>rfl) (λ_=>rfl) U u0 (by unfold Qaq;simp;omega);have P:Qai (aW sp .no)=W (iI sp.length):=by have:=ON (f:=V.str) (s:=.row sp);exact this
  have f1:∀n I (cs:wZ) (c:bU),fz n I fzD (.sl (cs.map eS) c)=W (.sl (cs.map eS) c):=λn I cs c=>vC (AM λ_=>rfl);have f2 n I:fz n I fzD (ae af s)=W (ae af s):=vC (vw λ_ _=>rfl);have f3 n I:fz n I fzD (aW sp p)=W (aW sp p):=vC P6;have G:=Wui sp p rows j n k S M R O r (q++[a]) (cs++[cC a]) (.gr 3) (by rw[N];simp) (.inr rfl);have H:=Wui sp p rows j n k S M R O r (q++[a]) cs c (by rw[N];simp) U;rw[show((q++[a]).length:Int)=q.length+1 by simp]at G H;have t:∀b,xq u sp k a=b->(q++[a]).filter (xq u sp k)=q.filter (xq u sp k)++if b=true then[a]else[]:=λb J=>by rw[M_,Gw,J];cases b<;>rfl
  have g:=λJ:xq u sp k a=true=>G (by rw[t true J,yW,v];rfl);have d:=λJ:xq u sp k a=T=>H (by rw[t T J,v];simp);have K:=λn I=>f1 n I (cs++[cC a]) (.gr 3);have o:=λn I=>f1 n I cs c;have Q:(k:Int)<sp.length↔k<sp.length:=by omega
  rw[xT];unfold xq at g d;have iT:∀h:k<sp.length,eI 1 (iI k) (aW sp .no)=W (.ai [.str (sp.getD k [])] 0):=λh=>by have:=Nk (f:=V.str) (s:=.row sp) (k:=.i64) (i:=(k:Int)) (Wgn (l:=sp) (i:=k) h []) Y (sz:=1) rfl;exact this
  by_cases e:a.kind=2
  ·rw[e]at w;by_cases l:a.name=u
   ·subst l;cases D:a.has with
    |false=>rw[D]at C;have b:=g (by simp[e,D]);rw[<-b];simp -implicitDefEqProofs(disch:=try exact wK)only[go_sem,mw,mC,z,y,x,A,B,w,C,F,p4,bf,ap,K,f2,f3]
    |true=>
     rw[D]at C;by_cases b:k<sp.length
     ·have i:=Q.2 b;have L:=iT b;by_cases h:a.space=sp.getD k []
      ·have c:=g (by simp only[e,D,b,h,decide_true,OX,C3,C4]);rw[<-c];simp -implicitDefEqProofs(disch:=try exact wK)only[go_sem,mw,mC,z,y,x,A,B,w,C,p2,F,p4,P,i,L,h,bf,ap,K,f2,f3]
      ·have c:=d (by simp only[e,D,b,h,decide_true,decide_false,OX,C3,JM]);rw[<-c];simp -implicitDefEqProofs(disch:=try exact wK)only[go_sem,mw,mC,z,y,x,A,B,w,C,p2,F,P,i,L,h,o,f2,f3]
     ·have h:¬(k:Int)<sp.length:=by omega
      have i:=d (by simp only[e,D,b,decide_true,decide_false,OX,C3,I5,JM]);rw[<-i];simp -implicitDefEqProofs(disch:=try exact wK)only[go_sem,mw,mC,z,y,x,A,B,w,C,F,P,h,o,f2,f3]
   ·have b:=d (by simp only[e,l,decide_true,decide_false,I5,JM]);rw[<-b];simp -implicitDefEqProofs(disch:=try exact wK)only[go_sem,mw,mC,z,y,x,A,B,w,F,l,o,f2,f3]
  ·have b:=d (by simp only[e,decide_false,I5]);rw[<-b];simp -implicitDefEqProofs(disch:=try exact wK)only[go_sem,mw,mC,z,y,x,A,B,w,e,o,f2,f3]
theorem Wuj(sp:aO)(k:Nat):(bZ s.l u sp k).length<=100/\∀c∈bZ s.l u sp k,fE c:=by
 refine⟨?_,λc b => ?_⟩
 ·unfold bZ;rw[wq];have:=JH (xq u sp k) s.l;omega
 ·obtain⟨a,d,rfl⟩:=wa.1 b;exact z a (I4.1 d).1
theorem Wz8(sp:aO)(d:bU)(n:Nat)(A:n<=1000):∀(f k:Nat) (rows a:Int),k+f=n->0<=rows->rows<=4611686018427387904->0<=a->a<=4611686018427387904->
  mJ QaT 0 0 [ae af s,.str u,aW sp d,iI rows,iI a,iI n,iI k] []=W (.aR [iI (qh s.l u sp f k (rows,a)).1,iI (qh s.l u sp f k (rows,a)).2],[])
 |0,k,rows,a,c,e,g,h,i=>by
  have b:¬(k:Int)<n:=by omega
  rw[xW];show _=W (V.aR [iI rows,iI a],[]);simp only[go_sem,oI,b]
 |f+1,k,rows,a,L,q,M,r,B=>by
  have C:(k:Int)<n:=by omega
  have⟨D,e⟩:=Wuj s N z u sp k;have g:=Qso (bZ s.l u sp k).length;have h:=VR (b:=1) g.1 Y;have i:=BP rows (zu (ec (bZ s.l u sp k).length) 1) q h.1;have t:=Wuh (bZ s.l u sp k) (eN (bZ s.l u sp k)).length Y (XQ (.row (bZ s.l u sp k)) (by show(bZ s.l u sp k).length<=200;omega) e);have j:=VR r t.1;have v:=Wz8 sp d n A f (k+1) (VG rows (zu (ec (bZ s.l u sp k).length) 1)) (zu a (iz (bZ s.l u sp k))) Y i.1 i.2 j.1 j.2;rw[Hm]at v;have l:=Wui s N z u sp d rows a n k Y (mJ QaT 0 0) (W (.aR [iI (qh s.l u sp (f+1) k (rows,a)).1,iI (qh s.l u sp (f+1) k (rows,a)).2],[])) (by intro O c P m;subst m;have F:=Wsc (bZ s.l u sp k).length Y [];have G:=P1 (ec (bZ s.l u sp k).length) 1 g Y [];have H:=K5 rows (zu (ec (bZ s.l u sp k).length) 1) q h [];have J:=Wdr (.row (bZ s.l u sp k)) (by show(bZ s.l u sp k).length<=200;omega) e [];have o:E cx 31 [.sl ((bZ s.l u sp k).map eS) .no] []=W (iI (iz (bZ s.l u sp k)),[]):=J;have K:=P1 a (iz (bZ s.l u sp k)) ⟨r,B⟩ t [];rw[F,vQ];show(bd (E cx 19 [iI (ec (bZ s.l u sp k).length),iI 1] []) λw=>_)=_;rw[G,vQ];show(bd (E cx 17 [iI rows,iI (zu (ec (bZ s.l u sp k).length) 1)] []) λx=>_)=_;rw[H,vQ,o,vQ];show(bd (E cx 19 [iI a,iI (iz (bZ s.l u sp k))] []) λy=>_)=_;rw[K,vQ];exact v) s.l [] [] .fx rfl (.inl rfl) rfl
  have p:oH QaT 0 0 (mJ QaT 0 0) 0 [ae af s,.str u,aW sp d,iI rows,iI a,iI n,iI k,.sl [] .fx,iI 0] []=W (.aR [iI (qh s.l u sp (f+1) k (rows,a)).1,iI (qh s.l u sp (f+1) k (rows,a)).2],[]):=l;have f2 n I:fz n I fzD (ae af s)=W (ae af s):=vC (vw λ_ _=>rfl);have f3 n I:fz n I fzD (aW sp d)=W (aW sp d):=vC P6;rw[xW];generalize ae af s=S,aW sp d=R,(qh s.l u sp (f+1) k (rows,a))=Q at*;simp -implicitDefEqProofs(disch:=try exact wK)only[go_sem,oI,C,f2,f3,p]
theorem Wjb:∀(r q:wD) (st:aO×Nat) (b:bU),s.l=q++r->st.1.length+st.2<=2*q.length->
  ∃c,oJ QaT 0 0 [ae af s,.str u,aW st.1 b,iI st.2,iI q.length] []=mJ QaT 0 0 [ae af s,.str u,aW (dE u r st).1 c,iI 1,iI 0,iI ((dE u r st).1.length+(dE u r st).2:Nat),iI 0] []
 |[],q,st,b,d,m=>by
  have e:¬(q.length:Int)<s.l.length:=by rw[d];simp
  have g:Qai (ae af s)=W (iI s.l.length):=ON;have h:(ae af s).ng=ae af s:=vz;have i:(aW st.1 b).ng=aW st.1 .no:=rfl;have j:Qai (aW st.1 .no)=W (iI st.1.length):=by have:=ON (f:=V.str) (s:=.row st.1);exact this
  have f2 n I:fz n I fzD (ae af s)=W (ae af s):=vC (vw λ_ _=>rfl);have f3 n I:fz n I fzD (aW st.1 b)=W (aW st.1 b):=vC P6;have k:q.length<=100:=by
   have:s.l.length=q.length:=by rw[d];simp
   omega
  have l:(st.1.length:Int)+st.2<9223372036854775808:=by omega
  refine⟨b,?_⟩;rw[xX];show _=mJ QaT 0 0 [ae af s,.str u,aW st.1 b,iI 1,iI 0,iI (st.1.length+st.2:Nat),iI 0] [];rw[Int.natCast_add];simp -implicitDefEqProofs(disch:=try exact wK)only[go_sem,mK,h,g,e,f2,f3,i,j,l]
 |a::r,q,st,b,i,F=>by
  have A:s.l.length=q.length+r.length+1:=by rw[i];simp;omega
  have k:(q.length:Int)<s.l.length:=by omega
  have m:Qai (ae af s)=W (iI s.l.length):=ON;have o:(ae af s).ng=ae af s:=vz;have p:eI 7 (iI q.length) (ae af s)=W (.ai (aH a) 0):=KZ (f:=af) i rfl rfl;have t:∀n:Nat,eF n (.ai (aH a) 0)=W (.ai (aH a) n):=λn=>by show W (V.ai (aH a) (0+n))=_;rw[xr]
  have j:Ev.part T 1 (aH a) 0=W (iI a.kind):=rfl;have v:Ev.part T 1 (aH a) 1=W (.bool a.has):=rfl;have D:Ev.part T 1 (aH a) 2=W (.str a.space):=rfl;have w:Ev.part T 1 (aH a) 3=W (.str a.name):=rfl;have x:=λI=>Wi9 st.1 a.space Y I;have z:(aW st.1 b).ng=aW st.1 .no:=rfl;have f2 n I:fz n I fzD (ae af s)=W (ae af s):=vC (vw λ_ _=>rfl);have f3 n I l c:fz n I fzD (aW l c)=W (aW l c):=vC P6;have E:=SS st.1 a.space;have g:=λn I=>f3 n I st.1 b;have y:=λn I=>f3 n I (bN st.1 a.space) .no;rw[xX];unfold dE;by_cases e:a.kind=2
  ·rw[e]at j;by_cases d:a.name=u
   ·rw[A9a ⟨e,d⟩];cases B:a.has with
    |true=>rw[B]at v;have⟨c,h⟩:=Wjb r (q++[a]) (bN st.1 a.space,st.2) .no (by rw[i];simp) yZ;rw[show((q++[a]).length:Int)=q.length+1 by simp]at h;refine⟨c,?_⟩;simp only[A9c];rw[<-h];subst d;simp -implicitDefEqProofs(disch:=try exact wK)only[go_sem,mK,mI,o,m,k,p,t,j,v,D,w,z,x,f2,y]
    |false=>
     rw[B]at v;have⟨c,h⟩:=Wjb r (q++[a]) (st.1,st.2+1) b (by rw[i];simp) yZ;rw[show((q++[a]).length:Int)=q.length+1 by simp]at h;refine⟨c,?_⟩;simp only[vD,A9d];simp only[Hm]at h;rw[<-h];subst d;have C:(st.2:Int)+1<9223372036854775808:=by omega
     simp -implicitDefEqProofs(disch:=try exact wK)only[go_sem,mK,mI,o,m,k,p,t,j,v,w,z,C,f2,g]
   ·rw[O3 (λh=>d h.2)];have⟨c,B⟩:=Wjb r (q++[a]) st b (by rw[i];simp) yZ;rw[show((q++[a]).length:Int)=q.length+1 by simp]at B;refine⟨c,?_⟩;rw[<-B];simp -implicitDefEqProofs(disch:=try exact wK)only[go_sem,mK,mI,o,m,k,p,t,j,w,d,f2,g]
  ·rw[O3 (λh=>e h.1)];have⟨c,d⟩:=Wjb r (q++[a]) st b (by rw[i];simp) yZ;rw[show((q++[a]).length:Int)=q.length+1 by simp]at d;refine⟨c,?_⟩;rw[<-d];simp -implicitDefEqProofs(disch:=try exact wK)only[go_sem,mK,mI,o,m,k,p,t,j,e,f2,g]
theorem Wuk(I:hN):E cx 18 [ae af s,.str u] I=W (.aR [iI (RB s.l u).1,iI (RB s.l u).2],I):=by refine v_ X0K X0K ?_ (by rw[Qae,vw λ_ _=>rfl];rfl) I;have⟨c,b⟩:=Wjb s N z u s.l [] ([],0) .fx rfl u0;have a:=Wja u s.l ([],0);simp at a;have d:=Wz8 s N z u (dE u s.l ([],0)).1 c ((dE u s.l ([],0)).1.length+(dE u s.l ([],0)).2) Y ((dE u s.l ([],0)).1.length+(dE u s.l ([],0)).2) 0 1 0 Y Y Y Y Y;have h:=b.trans d;have e:oJ QaT 0 0 [ae af s,.str u,.sl [] .fx,iI 0,iI 0] []=W (.aR [iI (RB s.l u).1,iI (RB s.l u).2],[]):=h;have f:(ae af s).ng=ae af s:=vz;have f2 n I:fz n I fzD (ae af s)=W (ae af s):=vC (vw λ_ _=>rfl);rw[QbX];simp -implicitDefEqProofs only[go_sem,FY,f,f2,e]
end
structure BS where
 a_:Int
 sum:Int
 done:aO
 names:aO
 aA:aO
 types:Bool
def cT(a:bq):u2:=(if a.kind=2 then 97 else 115)::a.name
def iA(L:wD)(a:bq)(b:BS):BS:=
 if a.kind=1 then⟨b.a_,b.sum,b.done,if a.name=[]then b.names else bN b.names a.name,if a.has=true then bN b.aA a.space else b.aA,true⟩
 else if bu b.done (cT a)=true then b
 else if a.kind=3 then⟨VG b.a_ 2,b.sum,b.done++[cT a],b.names,b.aA,b.types⟩
 else⟨VG b.a_ (RB L a.name).1,zu b.sum (RB L a.name).2,b.done++[cT a],b.names,b.aA,b.types⟩
def kf(L:wD):wD->BS->BS
 |[],b=>b
 |a::r,b=>kf L r (iA L a b)
def td(b:BS):Int:=if b.types=true then VG b.a_ (VG (b.names.length+1:Nat) (b.aA.length+1:Nat))else b.a_
def kK(b:BS):Int:=zu (zu (VG 4 (td b)) (VG 2 b.sum)) 1
def qn:BS:=⟨1,0,[],[],[],false⟩
def ZF(L:wD):Int:=kK (kf L L qn)
structure mb (b:BS) (k:Nat):Prop where
 l:0<=b.a_/\b.a_<=4611686018427387904
 s:0<=b.sum/\b.sum<=4611686018427387904
 d:b.done.length<=k
 n:b.names.length<=k
 p:b.aA.length<=k
theorem Wjc(L:wD)(j:∀a∈L,VT a.text/\a.text.length<=200)(l:L.length<=100)(d:u2)(sp:aO):∀(f k:Nat) (st:Int×Int),0<=st.1/\st.1<=4611686018427387904->0<=st.2/\st.2<=4611686018427387904->
  (0<=(qh L d sp f k st).1/\(qh L d sp f k st).1<=4611686018427387904)/\0<=(qh L d sp f k st).2/\(qh L d sp f k st).2<=4611686018427387904
 |0,k,st,b,c=>⟨b,c⟩
 |f+1,k,st,m,n=>by
  have e:(bZ L d sp k).length<=200:=by unfold bZ;rw[wq];have:=JH (xq d sp k) L;omega
  have g:∀c∈bZ L d sp k,fE c:=λc o=>by obtain⟨a,p,rfl⟩:=wa.1 o;exact j a (I4.1 p).1
  have h:=Qso (bZ L d sp k).length;have i:=VR (b:=1) h.1 Y;have q:=Wuh (bZ L d sp k) (eN (bZ L d sp k)).length Y (XQ (.row (bZ L d sp k)) e g);exact Wjc L j l d sp f (k+1) _ (BP st.1 (zu (ec (bZ L d sp k).length) 1) m.1 i.1) (VR n.1 q.1)
variable{d y:Nat}
section
variable(s:Sl bq)(N:s.l.length<=100)(Q:∀a∈s.l,jh a)(u:∀a∈s.l,iJ a=true)(z:∀a∈s.l,VT a.text=true/\a.text.length<=200)
include N Q u z
theorem Wz9(a:bq){b:BS}(h:mb b d):mb (iA s.l a b) (d+1):=by
 have f:=SS b.names a.name;have g:=SS b.aA a.space;obtain⟨e,c,i,j,l⟩:=h;unfold iA;split
 ·refine⟨e,c,by show b.done.length<=_;omega,?_,?_⟩
  ·show(if a.name=[]then b.names else bN b.names a.name).length<=_;split<;>omega
  ·show(if a.has=true then bN b.aA a.space else b.aA).length<=_;split<;>omega
 ·split
  ·exact⟨e,c,by omega,by omega,by omega⟩
  ·split
   ·exact⟨BP _ _ e.1 Y,c,yZ,by show b.names.length<=_;omega,by show b.aA.length<=_;omega⟩
   ·have k:=Wjc s.l z N a.name (dE a.name s.l ([],0)).1 ((dE a.name s.l ([],0)).1.length+(dE a.name s.l ([],0)).2) 0 (1,0) ⟨by show(0:Int)<=1;omega,by show(1:Int)<=_;omega⟩ ⟨by show(0:Int)<=0;omega,by show(0:Int)<=_;omega⟩;exact⟨BP _ _ e.1 k.1.1,VR c.1 k.2.1,yZ,by show b.names.length<=_;omega,by show b.aA.length<=_;omega⟩
theorem XA(b:BS)(h:mb b 100):(br (.bool b.types) (
  bd (E cx 17 [iI (b.names.length+1:Nat),iI (b.aA.length+1:Nat)] []) λc=>
  bd (E cx 17 [iI b.a_,c.1.ng] c.2) λa=>
  m4 QaT 0 a.1.ng (iI b.sum) a.2) (m4 QaT 0 (iI b.a_) (iI b.sum) []))=W (iI (kK b),[]):=by
 obtain⟨f,d,m,n,o⟩:=h;have g:∀x:Int,0<=x/\x<=4611686018427387904->m4 QaT 0 (iI x) (iI b.sum) []=W (iI (zu (zu (VG 4 x) (VG 2 b.sum)) 1),[]):=λx i=>by have t1:=λI=>K5 4 x Y i I;have t2:=λI=>K5 2 b.sum Y d I;have e:=BP 4 x Y i.1;have b2:=BP 2 b.sum Y d.1;have j:=λI=>P1 (VG 4 x) (VG 2 b.sum) e b2 I;have k:=VR e.1 b2.1;have l:=λI=>P1 (zu (VG 4 x) (VG 2 b.sum)) 1 k Y I;simp -implicitDefEqProofs only[go_sem,m4,t1,t2,j,l]
 unfold kK td;cases p:b.types with
 |true=>have t1:=K5 (b.names.length+1:Nat) (b.aA.length+1:Nat) Y Y [];have e:=BP (b.names.length+1:Nat) (b.aA.length+1:Nat) Y Y;have t2:=K5 b.a_ (VG (b.names.length+1:Nat) (b.aA.length+1:Nat)) f.1 e [];have b2:=BP b.a_ (VG (b.names.length+1:Nat) (b.aA.length+1:Nat)) f.1 e.1;simp only[A9c];rw[t1,vQ];show(bd (E cx 17 [iI b.a_,iI (VG (b.names.length+1:Nat) (b.aA.length+1:Nat))] []) λa=>_)=_;rw[t2,vQ];exact g _ b2
 |false=>simp only[vD,A9d];exact g _ f
theorem Wbw:∀(r q:wD) (b:BS) (e g cp:bU),s.l=q++r->iR e->mb b q.length->
  nQ QaT 0 0 [ae af s,iI b.a_,iI b.sum,aW b.done e,aW b.names g,aW b.aA cp,.bool b.types,iI q.length] []=W (iI (kK (kf s.l r b)),[])
 |[],q,b,e,g,cp,t,D,d=>by
  have v:¬(q.length:Int)<s.l.length:=by rw[t];simp
  have F:q.length<=100:=by
   have:s.l.length=q.length:=by rw[t];simp
   omega
  have w:Qai (ae af s)=W (iI s.l.length):=ON;have x:(ae af s).ng=ae af s:=vz;have h:=XA s N Q u z b ⟨d.l,d.s,by have:=d.d;omega,by have:=d.n;omega,by have:=d.p;omega⟩;have y:∀l:aO,Qai (aW l .no)=W (iI l.length):=λl=>by have:=ON (f:=V.str) (s:=.row l);exact this
  have A l c:(aW l c).ng=aW l .no:=rfl;have f3 n I l c:fz n I fzD (aW l c)=W (aW l c):=vC P6;have G:=d.n;have H:=d.p;have i:(b.names.length:Int)+1<9223372036854775808:=by omega
  have j:(b.aA.length:Int)+1<9223372036854775808:=by omega
  have k:=A b.names g;have m:=A b.aA cp;have B:=λn I=>f3 n I b.names g;have C:=λn I=>f3 n I b.aA cp;have o:=y b.names;have p:=y b.aA;rw[xl];show _=W (V.int .i64 (kK b),[]);rw[<-h,Hm,Hm];obtain⟨L,M,J,P,R,K⟩:=b;simp only at*;cases K with
  |true=>simp -implicitDefEqProofs(disch:=try exact wK)only[go_sem,QeK,x,w,v,B,C,k,m,o,p,i,j]
  |false=>simp -implicitDefEqProofs(disch:=try exact wK)only[go_sem,QeK,x,w,v,B,C,k,m,o,p,i,j]
 |a::r,q,b,e,g,cp,hq,j,C=>by
  have f:s.l.length=q.length+r.length+1:=by rw[hq];simp;omega
  have J:(q.length:Int)<s.l.length:=by omega
  have x:a∈s.l:=by rw[hq];simp
  have a3:=Q a x;have p:=u a x;have a4:=Wz9 s N Q u z a C;have K:Qai (ae af s)=W (iI s.l.length):=ON;have D:(ae af s).ng=ae af s:=vz;have L:eI 7 (iI q.length) (ae af s)=W (.ai (aH a) 0):=KZ (f:=af) hq rfl rfl;have k I:eL I true 7 (.ai (aH a) 0)=W (.agg (aH a)):=xg rfl BC;have jk:u5 [O.cells [iI 0,.bool T,.str [],.str [],iI 0,.str [],.bool T]] 7 (.ptr 0 0) (.agg (aH a)) (.agg (aH a))=W (.undef,[.cells (aH a)]):=Ho (I:=[]) (t:=.agg (aH a)) rfl rfl rfl BC;have m:eL [O.cells (aH a)] T 1 (.ptr 0 0)=W (iI a.kind):=rfl;have y:eL [O.cells (aH a)] T 1 (.ptr 0 1)=W (.bool a.has):=rfl;have l2:eL [O.cells (aH a)] T 1 (.ptr 0 2)=W (.str a.space):=rfl;have A:eL [O.cells (aH a)] T 1 (.ptr 0 3)=W (.str a.name):=rfl;have h l c:(aW l c).ng=aW l .no:=rfl;have f2 n I:fz n I fzD (ae af s)=W (ae af s):=vC (vw λ_ _=>rfl);have f3 n I l c:fz n I fzD (aW l c)=W (aW l c):=vC P6;have F:ve 0 [O.cells (aH a)]=W []:=hY;have c:=C.d;have c:=C.n;have c:=C.p;have M:=h b.names g;have P:=h b.aA cp;have G:=h b.done e;have v:=h b.done .no;rw[xl];show _=W (V.int .i64 (kK (kf s.l r (iA s.l a b))),[]);have d:=λR c f (h:iR R)=>Wbw r (q++[a]) (iA s.l a b) R c f (by rw[hq];simp) h (by simpa using a4);rw[show((q++[a]).length:Int)=q.length+1 by simp]at d;by_cases o:a.kind=1
  ·rw[o]at m;have c:iA s.l a b=⟨b.a_,b.sum,b.done,if a.name=[]then b.names else bN b.names a.name,if a.has=true then bN b.aA a.space else b.aA,true⟩:=by unfold iA;rw[A9a o]
   rw[c]at d ⊢;simp only at d;have w:=λI=>Wi9 b.names a.name Y I;have B:=λI=>Wi9 b.aA a.space Y I;have U:=λn I=>f3 n I b.done e;have fn:=λn I=>f3 n I b.names g;have fp:=λn I=>f3 n I b.aA cp;have H:=λn I=>f3 n I (bN b.names a.name) .no;have S:=λn I=>f3 n I (bN b.aA a.space) .no;by_cases i:a.name=[]
   ·rw[i]at A;simp only[i,A9c]at d ⊢;cases X:a.has with
    |true=>rw[X]at y;simp only[X,A9c]at d ⊢;have ih:=d e g .no j;generalize aH a=AC,ae af s=SV,aW b.done e=TD,aW b.aA cp=TP,aW b.names g=TN,aW b.aA .no=a1,aW b.names .no=a0,aW (bN b.aA a.space) .no=TQ,W (V.int .i64 (kK (kf s.l r ⟨b.a_,b.sum,b.done,b.names,bN b.aA a.space,true⟩)),([]:hN))=RR at*;simp -implicitDefEqProofs(disch:=try exact wK)only[go_sem,QeK,QeH,mY,mW,D,K,J,L,k,jk,m,y,l2,A,P,B,f2,U,fn,S,F,ih]
    |false=>rw[X]at y;simp only[X,vD,A9d]at d ⊢;have ih:=d e g cp j;generalize aH a=AC,ae af s=SV,aW b.done e=TD,aW b.aA cp=TP,aW b.names g=TN,aW b.aA .no=a1,aW b.names .no=a0,W (V.int .i64 (kK (kf s.l r ⟨b.a_,b.sum,b.done,b.names,b.aA,true⟩)),([]:hN))=RR at*;simp -implicitDefEqProofs(disch:=try exact wK)only[go_sem,QeK,QeH,mY,mW,D,K,J,L,k,jk,m,y,A,f2,U,fn,fp,F,ih]
   ·simp only[i,A9d]at d ⊢;cases X:a.has with
    |true=>rw[X]at y;simp only[X,A9c]at d ⊢;have ih:=d e .no .no j;generalize aH a=AC,ae af s=SV,aW b.done e=TD,aW b.aA cp=TP,aW b.names g=TN,aW b.aA .no=a1,aW b.names .no=a0,aW (bN b.names a.name) .no=TM,aW (bN b.aA a.space) .no=TQ,W (V.int .i64 (kK (kf s.l r ⟨b.a_,b.sum,b.done,bN b.names a.name,bN b.aA a.space,true⟩)),([]:hN))=RR at*;simp -implicitDefEqProofs(disch:=try exact wK)only[go_sem,QeK,QeH,mY,mW,D,K,J,L,k,jk,m,y,l2,A,i,M,w,P,B,f2,U,H,S,F,ih]
    |false=>rw[X]at y;simp only[X,vD,A9d]at d ⊢;have ih:=d e .no cp j;generalize aH a=AC,ae af s=SV,aW b.done e=TD,aW b.aA cp=TP,aW b.names g=TN,aW b.aA .no=a1,aW b.names .no=a0,aW (bN b.names a.name) .no=TM,W (V.int .i64 (kK (kf s.l r ⟨b.a_,b.sum,b.done,bN b.names a.name,b.aA,true⟩)),([]:hN))=RR at*;simp -implicitDefEqProofs(disch:=try exact wK)only[go_sem,QeK,QeH,mY,mW,D,K,J,L,k,jk,m,y,A,i,M,w,f2,U,H,fp,F,ih]
  ·
   have w:a.kind=2\/a.kind=3:=by
    unfold iJ at p;simp only[vc]at p;have B:=p.2.2;by_cases H:a.kind=2
    ·exact .inl H
    ·rw[O3 H,O3 o]at B;simp only[vc,A9f]at B;exact .inr B.1
   have c:=a3.2.1;have U:eB .add .no (.str [115]) (.str a.name)=W (.str (115::a.name)):=Pn (by simp[EY];omega);have a5:eB .add .no (.str [97]) (.str a.name)=W (.str (97::a.name)):=Pn (by simp[EY];omega);have X:=λI=>Qsn (.row b.done) (cT a) (by show b.done.length<=_;omega) I;have i:∀I,E cx 16 [aW b.done .no,.str (cT a)] I=W (.bool (bu b.done (cT a)),I):=X;have fd:=λn I=>f3 n I b.done e;have fn:=λn I=>f3 n I b.names g;have fp:=λn I=>f3 n I b.aA cp;have bf:wS T 1 1 (.str []) [(0,.str (cT a))]=W (.sl [.str (cT a)] .fx):=rfl;have ap I c:aT T T 1 16 I (aW b.done e) (.sl [.str (cT a)] c)=W (aW (b.done++[cT a]) (.gr 1)):=Qyl j Y;have a0:=λn I=>f3 n I (b.done++[cT a]) (.gr 1);have hj:mZ QaT 0 0 (nQ QaT 0 0) (ae af s) (iI b.a_) (iI b.sum) (aW b.done e) (aW b.names g) (aW b.aA cp) (.bool b.types) (iI q.length) (.ptr 0 0) (.str (cT a)) [O.cells (aH a)]=W (V.int .i64 (kK (kf s.l r (iA s.l a b))),[]):=by
    cases S:bu b.done (cT a)with
    |true=>
     rw[S]at i;have c:iA s.l a b=b:=by unfold iA;rw[O3 o,A9a S]
     rw[c]at d ⊢;have c:=d e g cp j;rw[<-c];generalize cT a=KA,aH a=AC,ae af s=SV,aW b.done e=TD,aW b.aA cp=TP,aW b.names g=TN,aW b.done .no=a1 at*;simp -implicitDefEqProofs(disch:=try exact wK)only[go_sem,mZ,QeH,G,v,i,f2,fd,fn,fp,F]
    |false=>
     rw[S]at i;rcases w with H|B
     ·have f:¬a.kind=3:=by omega
      have c:=Wjc s.l z N a.name (dE a.name s.l ([],0)).1 ((dE a.name s.l ([],0)).1.length+(dE a.name s.l ([],0)).2) 0 (1,0) ⟨by show(0:Int)<=1;omega,by show(1:Int)<=_;omega⟩ ⟨by show(0:Int)<=0;omega,by show(0:Int)<=_;omega⟩;have a1:0<=(RB s.l a.name).1/\(RB s.l a.name).1<=4611686018427387904:=c.1;have a2:0<=(RB s.l a.name).2/\(RB s.l a.name).2<=4611686018427387904:=c.2;have c:iA s.l a b=⟨VG b.a_ (RB s.l a.name).1,zu b.sum (RB s.l a.name).2,b.done++[cT a],b.names,b.aA,b.types⟩:=by unfold iA;rw[O3 o,O3 (by rw[S];simp),O3 f]
      rw[c]at d ⊢;have ih:=d (.gr 1) g cp (.inr rfl);simp only at ih;rw[<-ih];have a6:=λI=>Wuk s N z a.name I;have t1:=λI=>K5 b.a_ (RB s.l a.name).1 C.l.1 a1 I;have t2:=λI=>P1 b.sum (RB s.l a.name).2 C.s a2 I;rw[H]at m;generalize cT a=KA,aH a=AC,ae af s=SV,aW b.done e=TD,aW b.aA cp=TP,aW b.names g=TN,aW b.done .no=a7,aW (b.done++[cT a]) (.gr 1)=TE at*;simp -implicitDefEqProofs(disch:=try exact wK)only[go_sem,mZ,QeH,G,v,i,bf,ap,m,A,D,a6,t1,t2,f2,a0,fn,fp,F]
     ·have c:iA s.l a b=⟨VG b.a_ 2,b.sum,b.done++[cT a],b.names,b.aA,b.types⟩:=by unfold iA;rw[O3 o,O3 (by rw[S];simp),A9a B]
      rw[c]at d ⊢;have ih:=d (.gr 1) g cp (.inr rfl);simp only at ih;rw[<-ih];have t1:=λI=>K5 b.a_ 2 C.l.1 Y I;rw[B]at m;generalize cT a=KA,aH a=AC,ae af s=SV,aW b.done e=TD,aW b.aA cp=TP,aW b.names g=TN,aW b.done .no=a1,aW (b.done++[cT a]) (.gr 1)=TE at*;simp -implicitDefEqProofs(disch:=try exact wK)only[go_sem,mZ,QeH,G,v,i,bf,ap,m,t1,f2,a0,fn,fp,F]
   rw[<-hj];rcases w with H|B
   ·have S:cT a=97::a.name:=by unfold cT;rw[A9a H]
    rw[S];rw[H]at m;generalize aH a=AC,ae af s=SV,aW b.done e=TD,aW b.aA cp=TP,aW b.names g=TN at*;simp -implicitDefEqProofs(disch:=try exact wK)only[go_sem,QeK,D,K,J,L,k,jk,m,A,U,a5]
   ·have S:cT a=115::a.name:=by unfold cT;rw[O3 Y]
    rw[S];rw[B]at m;generalize aH a=AC,ae af s=SV,aW b.done e=TD,aW b.aA cp=TP,aW b.names g=TN at*;simp -implicitDefEqProofs(disch:=try exact wK)only[go_sem,QeK,D,K,J,L,k,jk,m,A,U]
theorem Wi(a:dq s.l 0 = -1)(I:hN):E cx 7 [ae af s] I=W (iI (ZF s.l),I):=by refine v_ X0K X0K ?_ (by rw[Qae,vw λ_ _=>rfl];rfl) I;have b:=λI=>Ov s Y Q I;rw[a]at b;have h:=Wbw s N Q u z s.l [] qn .fx .fx .fx rfl (.inl rfl) ⟨⟨by show(0:Int)<=1;omega,by show(1:Int)<=_;omega⟩,⟨by show(0:Int)<=0;omega,by show(0:Int)<=_;omega⟩,vE _,vE _,vE _⟩;have c:nQ QaT 0 0 [ae af s,iI 1,iI 0,.sl [] .fx,.sl [] .fx,.sl [] .fx,.bool T,iI 0] []=W (iI (ZF s.l),[]):=h;have d:(ae af s).ng=ae af s:=vz;have f2 n I:fz n I fzD (ae af s)=W (ae af s):=vC (vw λ_ _=>rfl);rw[QbP];simp -implicitDefEqProofs only[go_sem,E8,d,b,f2,c]
end
def eO(a:bq):Bool:=decide (20<a.space.length)||(decide (20<a.name.length)||decide (6<a.text.length))
def Wbx(L:wD):Bool:=L.any eO||(decide (10<L.length)||(decide (dq L 0<0)&&decide (200000<ZF L)))
theorem OO:∀(L:wD) (i:Nat),dq L i<0->∀a∈L,iJ a
 |[],i,h,a,b=>by cases b
 |x::r,i,h,a,b=>by
  unfold dq at h;split at h
  ·rename_i c;rcases vZ.1 b with rfl|b
   ·exact c
   ·exact OO r (i+1) h a b
  ·omega
theorem Qym:∀(L:wD) (i:Nat),dq L i<0->dq L i = -1
 |[],i,h=>rfl
 |x::r,i,h=>by
  unfold dq at h ⊢;split
  ·rename_i a;rw[A9a a]at h;exact Qym r (i+1) h
  ·rename_i a;rw[O3 a]at h;omega
variable{a:bq}
def Xs(h:eO a=T):a.space.length<=20/\a.name.length<=20/\a.text.length<=6:=by unfold eO at h;simp only[Ud,decide_eq_false_iff_not]at h;omega
def Oy(h:iJ a):VT a.text:=by unfold iJ at h;simp only[vc]at h;exact h.2.1
section
variable(s:Sl bq)(u:s.l.length<=1000000000000000)
include u
theorem Wnv(d:∀a∈s.l,eO a=T):QeJ QaT 0 0 (nO QaT 0 0) (ae af s) (iI 200000) (iI s.l.length) []=W (.bool (decide (10<s.l.length)||(decide (dq s.l 0<0)&&decide (200000<ZF s.l))),[]):=by
 have i:¬(s.l.length:Int)<s.l.length:=by omega
 have j:Qai (ae af s)=W (iI s.l.length):=ON;have k:(ae af s).ng=ae af s:=vz;have f2 n I:fz n I fzD (ae af s)=W (ae af s):=vC (vw λ_ _=>rfl);by_cases e:10<s.l.length
 ·have b:(10:Int)<s.l.length:=by omega
  rw[xG e,CR];simp -implicitDefEqProofs(disch:=try exact wK)only[go_sem,QeJ,k,j,i,f2,b]
 ·have b:¬(10:Int)<s.l.length:=by omega
  rw[A9i e,C3];have m:∀a∈s.l,jh a:=λa h=>by have:=Xs (d a h);exact⟨by omega,by omega,by omega⟩
  have f:=λI=>Ov s Y m I;by_cases c:dq s.l 0<0
  ·rw[xG c,Ab];have g:=OO s.l 0 c;have l:=λI=>Wi s Y m g (λa h=>⟨Oy (g a h),by have:=Xs (d a h);omega⟩) (Qym s.l 0 c) I;simp -implicitDefEqProofs(disch:=try exact wK)only[go_sem,QeJ,k,j,i,f2,b,f,c,l]
  ·rw[A9i c,I5];simp -implicitDefEqProofs(disch:=try exact wK)only[go_sem,QeJ,k,j,i,f2,b,f,c]
theorem Wm:∀(r q:wD),s.l=q++r->(∀a∈q,eO a=T)->
  nO QaT 0 0 [ae af s,iI 200000,iI q.length] []=W (.bool (r.any eO||(decide (10<s.l.length)||(decide (dq s.l 0<0)&&decide (200000<ZF s.l)))),[])
 |[],q,d,c=>by
  have b:q=s.l:=by rw[d];simp
  have e:=Wnv s u (by rw[<-b];exact c);rw[w6,b,e];simp
 |a::r,q,o,p=>by
  have w:s.l.length=q.length+r.length+1:=by rw[o];simp;omega
  have e:(q.length:Int)<s.l.length:=by omega
  have g:Qai (ae af s)=W (iI s.l.length):=ON;have i:(ae af s).ng=ae af s:=vz;have j:eI 7 (iI q.length) (ae af s)=W (.ai (aH a) 0):=KZ (f:=af) o rfl rfl;have k:∀n:Nat,eF n (.ai (aH a) 0)=W (.ai (aH a) n):=λn=>by show W (V.ai (aH a) (0+n))=_;rw[xr]
  have l:Ev.part T 1 (aH a) 2=W (.str a.space):=rfl;have t:Ev.part T 1 (aH a) 3=W (.str a.name):=rfl;have y:Ev.part T 1 (aH a) 5=W (.str a.text):=rfl;have m:∀x:u2,ZM (.str x)=W (iI x.length):=λx=>rfl;have f2 n I:fz n I fzD (ae af s)=W (ae af s):=vC (vw λ_ _=>rfl);have c:(a::r).any eO=(eO a||r.any eO):=rfl;rw[w6,c];by_cases z:20<a.space.length
  ·have b:(20:Int)<a.space.length:=by omega
   have d:eO a:=by unfold eO;rw[xG z,CR]
   rw[d,CR,CR];simp -implicitDefEqProofs(disch:=try exact wK)only[go_sem,QeJ,i,g,e,j,k,l,m,b,f2]
  ·have b:¬(20:Int)<a.space.length:=by omega
   by_cases B:20<a.name.length
   ·have d:(20:Int)<a.name.length:=by omega
    have h:eO a:=by unfold eO;rw[xG B,CR,C5]
    rw[h,CR,CR];simp -implicitDefEqProofs(disch:=try exact wK)only[go_sem,QeJ,i,g,e,j,k,l,t,m,b,d,f2]
   ·have d:¬(20:Int)<a.name.length:=by omega
    by_cases C:6<a.text.length
    ·have h:(6:Int)<a.text.length:=by omega
     have v:eO a:=by unfold eO;rw[xG C,C5,C5]
     rw[v,CR,CR];simp -implicitDefEqProofs(disch:=try exact wK)only[go_sem,QeJ,i,g,e,j,k,l,t,y,m,b,d,h,f2]
    ·have v:¬(6:Int)<a.text.length:=by omega
     have A:eO a=T:=by unfold eO;rw[A9i z,A9i B,A9i C];rfl
     have D:=Wm r (q++[a]) (by rw[o];simp) (λx E=>by
      rcases xf.1 E with h|h
      ·exact p x h
      ·rw[vR.1 h];exact A)
     rw[show((q++[a]).length:Int)=q.length+1 by simp]at D;rw[A,C3,<-D];simp -implicitDefEqProofs(disch:=try exact wK)only[go_sem,QeJ,i,g,e,j,k,l,t,y,m,b,d,v,f2]
theorem Wjd(I:hN):E cx 5 [ae af s,iI 200000] I=W (.bool (Wbx s.l),I):=by refine v_ X0K X0K ?_ (by rw[Qae,vw λ_ _=>rfl];rfl) I;have h:=Wm s u s.l [] rfl (λa b=>by cases b);have c:nO QaT 0 0 [ae af s,iI 200000,iI 0] []=W (.bool (Wbx s.l),[]):=h;have f2 n I:fz n I fzD (ae af s)=W (ae af s):=vC (vw λ_ _=>rfl);rw[QbN];simp only[go_sem,Ec,f2,c]
end
def Lf(ms:y8)(n:Nat):u_->aY->aY
 |[],S=>S
 |c::r,S=>Lf ms n r (bS ms (tick S) (Mj ms (b_ S n) c,n,c))
theorem IF(ms:y8)(n:Nat):∀(r:u_) (S:aY),(Lf ms n r S).steps=S.steps+r.length
 |[],S=>by simp[Lf]
 |c::r,S=>by unfold Lf;rw[IF ms n r,Qcy];show S.steps+1+_=_;rw[vT];omega
theorem IQ(ms:y8)(n:Nat)(bud:Int):∀(r:u_) (S:aY),S.steps<=bud->
  (S.steps+r.length<=bud->dA ms bud n r S=(true,Lf ms n r S))/\(bud<S.steps+r.length->(dA ms bud n r S).1=T/\(dA ms bud n r S).2.steps=bud)
 |[],S,h=>⟨λ_=>rfl,λa=>by simp at a;omega⟩
 |c::r,S,h=>by
  unfold dA Lf;by_cases b:bud<=S.steps
  ·rw[A9a b];refine⟨λa=>by simp at a;omega,λ_=>⟨rfl,by show S.steps=bud;omega⟩⟩
  ·rw[O3 b];have e:(bS ms (tick S) (Mj ms (b_ S n) c,(n:Int),c)).steps=S.steps+1:=by rw[Qcy];rfl
   have a:=IQ ms n bud r (bS ms (tick S) (Mj ms (b_ S n) c,(n:Int),c)) Y;rw[e]at a;rw[vT];exact⟨λd=>a.1 Y,λd=>a.2 Y⟩
def Dw(ms:y8)(ls:u_):Nat->Nat->aY->Option aY
 |0,_,_=>none
 |f+1,n,S=>if n<S.aM.length then Dw ms ls f (n+1) (Lf ms n ls S)else some S
theorem TO(ms:y8)(ls:u_):∀(f n:Nat) (S a:aY),Dw ms ls f n S=W a->S.steps<=a.steps
 |0,n,S,a,h=>by cases h
 |f+1,n,S,a,h=>by
  unfold Dw at h;split at h
  ·have:=TO ms ls f _ _ _ h;rw[IF]at this;omega
  ·cases h;exact GY _
theorem Wbz(ms:y8)(ls:u_)(bud:Int):∀(f n:Nat) (S c:aY),Dw ms ls f n S=W c->S.steps<=bud->
  (c.steps<=bud->eJ ms ls bud f n S=W (true,c))/\(bud<c.steps->∃d,eJ ms ls bud f n S=W (T,d)/\d.steps=bud)
 |0,n,S,c,h,_=>by cases h
 |f+1,n,S,c,h,j=>by
  unfold Dw at h;unfold eJ;by_cases e:n<S.aM.length
  ·rw[A9a e]at h ⊢;have k:=TO ms ls f _ _ _ h;have g:=IQ ms n bud ls S j;rw[IF]at k;by_cases i:S.steps+ls.length<=bud
   ·have a:=Wbz ms ls bud f (n+1) _ c h (by rw[IF];exact i);rw[g.1 i];exact a
   ·have⟨a,b⟩:=g.2 Y;cases l:dA ms bud n ls S with
    |mk m d=>rw[l]at a b;simp only at a b;subst a;exact⟨λo=>by omega,λ_=>⟨d,rfl,b⟩⟩
  ·rw[O3 e]at h ⊢;cases h;exact⟨λ_=>rfl,λa=>by omega⟩
theorem Wb0(ms:y8)(ls:u_)(d:∀c∈ls,Qbn c):∀(f n:Nat) (S:aY),Invq9 ms S->Qcc ms+1<=n+f->0<f->n<=Qcc ms->∃a,Dw ms ls f n S=W a/\a.steps<=S.steps+((ls.length*(Qcc ms-n):Nat):Int)
 |0,n,S,h,b,e,g=>by omega
 |f+1,n,S,h,k,l,m=>by
  have o:=h.len;unfold Dw;by_cases b:n<S.aM.length
  ·rw[A9a b];have g:=(SM (bud:=S.steps+ls.length) ls S h b d).1;rw[(IQ ms n (S.steps+ls.length) ls S Y).1 (GY _)]at g;have⟨a,i,j⟩:=Wb0 ms ls d f (n+1) _ g Y Y Y;refine⟨a,i,?_⟩;rw[IF]at j;have e:ls.length*(Qcc ms-n)=ls.length+ls.length*(Qcc ms-(n+1)):=by
    have:Qcc ms-n=(Qcc ms-(n+1))+1:=by omega
    rw[this,Nat.mul_succ];omega
   rw[e];omega
  ·rw[O3 b];exact⟨S,rfl,by omega⟩
noncomputable def eP(l:List dQ):aY:=(Dw (l.map bg) (cJ l) (Qcc (l.map bg)+1) 0 (bS (l.map bg) (iY l.length) (eK (l.map bg)))).getD (iY 0)
def Qyo(h:fW c):Dw (c.map bg) (cJ c) (Qcc (c.map bg)+1) 0 (bS (c.map bg) (iY c.length) (eK (c.map bg)))=W (eP c)/\(eP c).steps<=((cJ c).length*Qcc (c.map bg):Nat):=by
 have⟨a,l,b⟩:=Wb0 (c.map bg) (cJ c) h.m.ch (Qcc (c.map bg)+1) 0 _ ((Wdk _ _).put (Wim (c.map bg) (cJ c) h.m (iY c.length))) Y Y Y;have e:eP c=a:=by unfold eP;rw[l];rfl
 rw[e];refine⟨l,?_⟩;rw[Qcy]at b;have d:(iY c.length).steps=0:=rfl;rw[d]at b;simpa using b
def Qtl(h:fW c)(bud:Int)(l:0<=bud):((eP c).steps<=bud->iw c bud=(true,eP c))/\(bud<(eP c).steps->(iw c bud).1=T/\(iw c bud).2.steps=bud):=by have a:=Wbz (c.map bg) (cJ c) bud _ _ _ _ (Qyo c h).1 (by rw[Qcy];exact l);have d:=KL c h bud;rw[d]at a;refine⟨λb=>Ew (a.1 b),λb => ?_⟩;have⟨g,e,f⟩:=a.2 b;rw[Ew e];exact⟨rfl,f⟩
def YL(h:fW c):0<=(eP c).steps:=by have:=TO _ _ _ _ _ _ (Qyo c h).1;rw[Qcy]at this;exact this
structure sJ {X:Type} (B:Int) (f:MK->Option X×MK) (x:X) (c:Int):Prop where
 yes:∀k,0<=k->k+c<=B->f (k,false)=(some x,(k+c,false))
 no:∀k,0<=k->k<=B->B<k+c->(f (k,false)).2=(B,true)
 lim:(f (B,true)).2=(B,true)
def Qyp{B:Int}(h:j<B):au B (j,T)=(true,(j+1,T)):=by unfold au;rw[O3 yZ]
def Wje{B:Int}(h:B<=j):au B (j,T)=(T,(j,true)):=by unfold au;rw[A9a (.inr h)]
def Wnw{B:Int}:au B (B,true)=(T,(B,true)):=by unfold au;rw[A9a (.inl rfl)]
theorem Qtm{b:Type}{B:Int}{g:b->Ne}:∀(l:List b) (a:wx),sJ B (bY B g l a) (a++l.map g) l.length
 |[],a=>⟨λk c d=>by simp[bY],λk c d e=>by simp at e;omega,rfl⟩
 |p::r,a=>by
  have d:=Qtm (B:=B) (g:=g) r (a++[g p]);refine⟨λk e c => ?_,λk e c f => ?_,?_⟩
  ·rw[vT]at c;unfold bY;rw[Qyp Y,A9a rfl,d.yes (k+1) Y Y];simp;omega
  ·rw[vT]at f;unfold bY;by_cases h:k<B
   ·rw[Qyp h,A9a rfl];exact d.no (k+1) Y Y Y
   ·rw[Wje Y];simp;omega
  ·unfold bY;rw[Wnw];simp
theorem ZG{i j:Type}{B:Int}{F:j->i->Ne}{b:List i}:∀(a:List j) (c:wx),sJ B (Qdg B F b a c) (c++a.flatMap λx=>b.map (F x)) (a.length*b.length:Nat)
 |[],c=>⟨λk d e=>by simp[Qdg],λk d e f=>by simp at f;omega,rfl⟩
 |x::a,c=>by
  have d:=Qtm (B:=B) (g:=F x) b c;have l:=ZG (B:=B) (F:=F) (b:=b) a (c++b.map (F x));have e:(x::a).length*b.length=b.length+a.length*b.length:=by rw[vT,GW];omega
  rw[e];refine⟨λk f n => ?_,λk f n r => ?_,?_⟩
  ·unfold Qdg;rw[d.yes k f Y];simp only;rw[l.yes (k+b.length) Y Y,AR,wL];congr 2;omega
  ·unfold Qdg;by_cases p:k+b.length<=B
   ·rw[d.yes k f p];exact l.no (k+b.length) Y Y Y
   ·have h:=d.no k f n Y;cases q:bY B (F x) b c (k,T)with
    |mk o m=>
     rw[q]at h;simp only at h;subst h;cases o with
     |none=>rfl
     |some o=>exact(ZG a o).lim
  ·unfold Qdg;have h:=d.lim;cases p:bY B (F x) b c (B,true)with
   |mk o m=>
    rw[p]at h;simp only at h;subst h;cases o with
    |none=>rfl
    |some o=>exact(ZG a o).lim
variable{o:wZ}
def YM{B:Int}(h:fW o)(b:0<=j)(d:j+(eP o).steps<=B):B1 B o (j,T)=(.row (eP o).out,(j+(eP o).steps,T)):=by
 have f:=YL o h;have e:max (B-j) 0=B-j:=by omega
 have a:=(Qtl o h (B-j) Y).1 Y;unfold B1;simp only[e,a,A9c]
def Wnx{B:Int}(h:fW o)(d:0<=j)(b:j<=B)(f:B<j+(eP o).steps):(B1 B o (j,T)).2=(B,true):=by
 have e:max (B-j) 0=B-j:=by omega
 have a:=(Qtl o h (B-j) Y).2 Y;unfold B1;simp only[e,a.1,a.2,vD,A9d];congr 1;omega
def Wjf{B:Int}(h:fW o):(B1 B o (B,true)).2=(B,true):=by
 have e:max (B-B) 0=0:=by omega
 have a:=Qtl o h 0 Y;have f:=YL o h;unfold B1;simp only[e];by_cases d:(eP o).steps<=0
 ·rw[a.1 d];simp only[A9c];congr 1;omega
 ·have b:=a.2 Y;simp only[b.1,b.2,vD,A9d];congr 1;omega
noncomputable def fK(g:bH)(p:fX)(a:List Ne):List Ne:=a.flatMap λx=>(eP p.conds).out.map λv=>Zw x p.space g.name v
noncomputable def jM(L:List bq)(g:bH):List fX->List Ne->List Ne
 |[],a=>a
 |p::r,a=>jM L g r (zt L g.atoms (fK g p a))
noncomputable def gO(L:List bq)(g:bH):List fX->List Ne->Int
 |[],_=>0
 |p::r,a=>(eP p.conds).steps+(a.length*(eP p.conds).out.length:Nat)+gO L g r (zt L g.atoms (fK g p a))
theorem Qyq(L:wD)(g:bH):∀(r:List fX) (a:wx),(∀p∈r,fW p.conds)->0<=gO L g r a
 |[],a,h=>GY _
 |p::r,a,h=>by have c:=YL p.conds (h p (wA ..));have d:=Qyq L g r (zt L g.atoms (fK g p a)) λq b=>h q (wh _ b);unfold gO;omega
theorem Wb1{L:wD}{B:Int}{g:bH}:∀(r:List fX) (a:wx),(∀p∈r,fW p.conds)->sJ B (er L B g r a) (jM L g r a) (gO L g r a)
 |[],a,b=>⟨λk c d=>by simp[er,jM,gO],λk c d e=>by simp[gO]at e;omega,rfl⟩
 |p::r,a,f=>by
  have h:=f p (wA ..);have u:=λq i=>f q (wh _ i);have z:=YL p.conds h;have n:=λa=>Wb1 (L:=L) (B:=B) (g:=g) r a u;have A:=Qyq L g r (zt L g.atoms (fK g p a)) u;have e:∀rows:List fF,(match Qdg B (λx v=>Zw x p.space g.name v) rows a [] (B,true)with
    |(some o,c)=>er L B g r (zt L g.atoms o) c
    |(none,c)=>(none,c)).2=(B,true):=λrows=>by
   have d:=(ZG (B:=B) (F:=λ(x:Ne) (v:fF)=>Zw x p.space g.name v) (b:=rows) a []).lim;cases i:Qdg B (λx v=>Zw x p.space g.name v) rows a [] (B,true)with
   |mk o m=>
    rw[i]at d;simp only at d;subst d;cases o with
    |none=>rfl
    |some o=>exact(n _).lim
  refine⟨λk s t => ?_,λk s t y => ?_,?_⟩
  ·unfold gO at t ⊢;unfold er jM;rw[YM h s Y];have j:=(ZG (B:=B) (F:=λ(x:Ne) (v:fF)=>Zw x p.space g.name v) (b:=(eP p.conds).out) a []).yes (k+(eP p.conds).steps) Y Y;show(match Qdg B (λx v=>Zw x p.space g.name v) (eP p.conds).out a [] (k+(eP p.conds).steps,T)with
    |(some o,c)=>er L B g r (zt L g.atoms o) c
    |(none,c)=>(none,c))=_
   rw[j];simp only[xQ];have d:=(n (zt L g.atoms (fK g p a))).yes (k+(eP p.conds).steps+(a.length*(eP p.conds).out.length:Nat)) Y Y;refine d.trans ?_;congr 2;omega
  ·unfold gO at y;unfold er;by_cases w:k+(eP p.conds).steps<=B
   ·rw[YM h s w];show(match Qdg B (λx v=>Zw x p.space g.name v) (eP p.conds).out a [] (k+(eP p.conds).steps,T)with
     |(some o,c)=>er L B g r (zt L g.atoms o) c
     |(none,c)=>(none,c)).2=_
    have j:=ZG (B:=B) (F:=λ(x:Ne) (v:fF)=>Zw x p.space g.name v) (b:=(eP p.conds).out) a [];by_cases l:k+(eP p.conds).steps+(a.length*(eP p.conds).out.length:Nat)<=B
    ·rw[j.yes (k+(eP p.conds).steps) Y l];simp only[xQ];exact(n (zt L g.atoms (fK g p a))).no _ Y l Y
    ·have d:=j.no (k+(eP p.conds).steps) Y w Y;cases i:Qdg B (λx v=>Zw x p.space g.name v) (eP p.conds).out a [] (k+(eP p.conds).steps,T)with
     |mk o m=>
      rw[i]at d;simp only at d;subst d;cases o with
      |none=>rfl
      |some o=>exact(n _).lim
   ·rw[Wnx h s t Y];exact e _
  ·unfold er;rw[Wjf h];exact e _
noncomputable def K7(L:List bq)(g:bH):List Ne:=
 if g.kind=1 then zt L g.atoms ((iQ (Qan L g).2.1).flatMap λx=>((Qan L g).1++[PQ (Qan L g).1]).map (dd x))
 else if g.kind=2 then jM L g (Qbj L g) [dY]else dW g
noncomputable def ql(L:List bq)(g:bH):Int:=
 if g.kind=1 then((iQ (Qan L g).2.1).length*((Qan L g).1.length+1):Nat)
 else if g.kind=2 then gO L g (Qbj L g) [dY]else 2
variable{e r:wD}{f:bH}
def Wb2(a:eu e f):0<=ql e f:=by
 unfold ql;split
 ·omega
 ·split
  ·exact Qyq e f _ _ (a.ok (by assumption))
  ·omega
def Wny{B:Int}{g:bH}(f:eu e g):sJ B (xH e B g) (K7 e g) (ql e g):=by
 unfold xH K7 ql;by_cases d:g.kind=1
 ·simp only[d,A9c];have h:=ZG (B:=B) (F:=dd) (b:=(Qan e g).1++[PQ (Qan e g).1]) (iQ (Qan e g).2.1) [];rw[vW,Gt,xQ]at h;refine⟨λk a c => ?_,λk a c i => ?_,?_⟩
  ·unfold QL;rw[h.yes k a c]
  ·unfold QL;have L:=h.no k a c i;cases j:Qdg B dd ((Qan e g).1++[PQ (Qan e g).1]) (iQ (Qan e g).2.1) [] (k,T)with
   |mk o m=>rw[j]at L;cases o<;>exact L
  ·unfold QL;have L:=h.lim;cases j:Qdg B dd ((Qan e g).1++[PQ (Qan e g).1]) (iQ (Qan e g).2.1) [] (B,true)with
   |mk o m=>rw[j]at L;cases o<;>exact L
 ·simp only[d,A9d];by_cases a:g.kind=2
  ·simp only[a,A9c];exact Wb1 (Qbj e g) [dY] (f.ok a)
  ·simp only[a,A9d];have h:=Qtm (B:=B) (g:=λx:Ne=>x) (dW g) [];have L:(dW g).map (λx:Ne=>x)=dW g:=u0;rw[xQ,L]at h;exact h
noncomputable def qi(a b:List Ne):List Ne:=a.flatMap λx=>b.map (KK x)
noncomputable def kG(L:List bq):List bH->List Ne->List Ne
 |[],a=>a
 |g::r,a=>kG L r (qi a (K7 L g))
noncomputable def eY(L:List bq):List bH->List Ne->Int
 |[],_=>0
 |g::r,a=>ql L g+(a.length*(K7 L g).length:Nat)+eY L r (qi a (K7 L g))
theorem Qtn{L:wD}:∀(r:xe) (a:wx),(∀g∈r,eu L g)->0<=eY L r a
 |[],a,h=>GY _
 |g::r,a,h=>by have c:=Wb2 (h g (wA ..));have d:=Qtn r (qi a (K7 L g)) λq b=>h q (wh _ b);unfold eY;omega
theorem YN{L:wD}{B:Int}:∀(r:xe) (a:wx),(∀g∈r,eu L g)->∀k,0<=k->k<=B->
  (k+eY L r a<=B->eM L B r a (k,T)=(W (kG L r a),(k+eY L r a,T)))/\(B<k+eY L r a->eM L B r a (k,T)=(none,(B,true)))
 |[],a,b,k,d,e=>⟨λ_=>by simp[eM,kG,eY],λc=>by simp[eY]at c;omega⟩
 |g::r,a,c,k,i,o=>by
  have j:=c g (wA ..);have l:=λq s=>c q (wh _ s);have m:=Wny (B:=B) j;have v:=Wb2 j;have w:=Qtn r (qi a (K7 L g)) l;have f b:sJ B (AL B a b []) (qi a b) (a.length*b.length:Nat):=by have:=ZG (B:=B) (F:=KK) (b:=b) a [];rw[xQ]at this;exact this
  have d:∀e:Option wx,eM L B (g::r) a (k,T)=(if(AL B a (e.getD []) [] (B,true)).2.2=true then(none,(AL B a (e.getD []) [] (B,true)).2)else eM L B r ((AL B a (e.getD []) [] (B,true)).1.getD []) (AL B a (e.getD []) [] (B,true)).2)->eM L B (g::r) a (k,T)=(none,(B,true)):=λe h=>by rw[h,(f (e.getD [])).lim];rfl
  unfold eY;by_cases n:k+ql L g<=B
  ·have b:=m.yes k i n;by_cases e:k+ql L g+(a.length*(K7 L g).length:Nat)<=B
   ·have t:=(f (K7 L g)).yes (k+ql L g) Y e;have h:=YN r (qi a (K7 L g)) l (k+ql L g+(a.length*(K7 L g).length:Nat)) Y e;have u:eM L B (g::r) a (k,T)=eM L B r (qi a (K7 L g)) (k+ql L g+(a.length*(K7 L g).length:Nat),T):=by show(if(AL B a ((xH L B g (k,T)).1.getD []) [] (xH L B g (k,T)).2).2.2=true then _ else _)=_;rw[b];simp only[Cr];rw[t];simp
    rw[u];refine⟨λp => ?_,λp=>h.2 Y⟩;rw[h.1 Y];show(W (kG L r (qi a (K7 L g))),_,_)=(W (kG L r (qi a (K7 L g))),_,_);rw[show k+ql L g+(a.length*(K7 L g).length:Nat)+eY L r (qi a (K7 L g))=k+(ql L g+(a.length*(K7 L g).length:Nat)+eY L r (qi a (K7 L g))) by omega]
   ·have h:=(f (K7 L g)).no (k+ql L g) Y n Y;refine⟨λp=>by omega,λ_ => ?_⟩;show(if(AL B a ((xH L B g (k,T)).1.getD []) [] (xH L B g (k,T)).2).2.2=true then(none,(AL B a ((xH L B g (k,T)).1.getD []) [] (xH L B g (k,T)).2).2)else _)=_;rw[b];simp only[Cr];rw[h];simp
  ·have b:=m.no k i o Y;refine⟨λe=>by omega,λ_=>d (xH L B g (k,T)).1 ?_⟩;show(if(AL B a ((xH L B g (k,T)).1.getD []) [] (xH L B g (k,T)).2).2.2=true then _ else _)=_;rw[b]
noncomputable def dX(L:List bq):List Ne:=kG L (vS L) [gN]
noncomputable def dn(L:List bq):Int:=1+eY L (vS L) [gN]
def ZH(L:wD)(a:∀g∈vS L,eu L g)(B:Int):(dn L<=B->Qgm L B=(W (dX L),(dn L,T)))/\(B<dn L->Qgm L B=(none,(max B 0,true))):=by
 have e:=Qtn (vS L) [gN] a;unfold Qgm dn dX;by_cases b:0<B
 ·have c:au B (0,T)=(true,(1,T)):=by
   have:=Qyp b
   rwa[Int.zero_add]at this
  rw[c];simp only[A9c];have h:=YN (B:=B) (vS L) [gN] a 1 Y Y;refine⟨h.1,λd => ?_⟩;rw[h.2 d];congr 2;omega
 ·rw[Wje Y];simp only[vD,A9d];refine⟨λh=>by omega,λ_ => ?_⟩;congr 2;omega
def cp(n:Nat):Int:=min (n:Int) 4611686018427387904
def Wum:0<=cp i:=by unfold cp;omega
def Xu(b:Nat):zu (cp i) (cp b)=cp (i+b):=by
 unfold zu cp;split
 ·omega
 ·split
  ·omega
  ·split<;>omega
def U_(h:(d:Int)<=4611686018427387904):cp d=d:=by unfold cp;omega
def Wnz(h:(4611686018427387904:Int)<=d):cp d=4611686018427387904:=by unfold cp;omega
def Wjg(b:Nat):min (cp i*cp b) 4611686018427387904=cp (i*b):=by
 by_cases c:(i:Int)<=4611686018427387904
 ·by_cases e:(b:Int)<=4611686018427387904
  ·rw[U_ c,U_ e];unfold cp;rw[Qy]
  ·rw[Wnz (by omega:(4611686018427387904:Int)<=b)];cases i with
   |zero=>rw[QB,U_ Y];decide
   |succ i=>
    rw[U_ c];have d:(4611686018427387904:Int)<=((i+1:Nat):Int)*4611686018427387904:=by omega
    have f:(4611686018427387904:Int)<=(((i+1)*b:Nat):Int):=by rw[Qy];exact Int.le_trans d (OQ Y Y)
    rw[Wnz f,Int.min_eq_right d]
 ·rw[Wnz (by omega:(4611686018427387904:Int)<=i)];cases b with
  |zero=>rw[Nat.mul_zero,U_ Y];decide
  |succ b=>
   have f:(1:Int)<=cp (b+1):=by unfold cp;omega
   have d:(4611686018427387904:Int)<=4611686018427387904*cp (b+1):=by omega
   have e:(4611686018427387904:Int)<=((i*(b+1):Nat):Int):=by have:i<=i*(b+1):=BG _ Y;omega
   rw[Wnz e,Int.min_eq_right d]
def Wpu{x y:Int}(a:0<y):4611686018427387904/y<x↔4611686018427387904<x*y:=by rw[Int.ediv_lt_iff_lt_mul a]
def L0(b:Nat):VG (cp i) (cp b)=cp (i*b):=by
 rw[<-Wjg];have g:=Wum i;have a:=Wum b;generalize cp b=y,cp i=x at*;unfold VG;by_cases d:x=0
 ·rw[A9a d,d,Int.zero_mul];omega
 ·rw[O3 d];by_cases e:y=0
  ·rw[A9a e,e,Int.mul_zero];omega
  ·rw[O3 e];have h:=Wpu (x:=x) (y:=y) Y;by_cases c:4611686018427387904/y<x
   ·rw[A9a c];have:=h.1 c;omega
   ·rw[O3 c];have:=λf=>c (h.2 f);omega
def qp(k:Nat)(f:1<=k)(c:k<=4611686018427387904):CO (cp i) k=cp (i*k):=by
 have e:(k:Int)=cp k:=by unfold cp;omega
 rw[<-Wjg,<-e];have g:=Wum i;generalize cp i=x at*;unfold CO;have h:=Wpu (x:=x) (y:=(k:Int)) Y;by_cases b:4611686018427387904/(k:Int)<x
 ·rw[A9a b];have:=h.1 b;omega
 ·rw[O3 b];have:=λd=>b (h.2 d);omega
def ug:(1:Int)=cp 1:=by decide
def sK:(2:Int)=cp 2:=by decide
theorem Wpv:∀n,ec n=cp (2^n)
 |0=>by decide
 |n+1=>by rw[Qo1,Wpv n,sK,L0,Nat.pow_succ]
def jN:wZ->Nat
 |[]=>1
 |c::r=>((bP c.text).length+3)*jN r
theorem nh:∀(r:wZ) (n:Nat),(∀c∈r,fE c)->bI (cp n) r=cp (n*jN r)
 |[],n,h=>by simp[bI,jN]
 |c::r,n,h=>by have b:=(h c (wA ..)).2;have d:=Hu c.text;show bI (CO (cp n) ((bP c.text).length+3:Nat)) r=_;rw[qp n ((bP c.text).length+3) Y Y,nh r _ λc a=>h c (wh _ a)];show cp (n*((bP c.text).length+3)*jN r)=cp (n*(((bP c.text).length+3)*jN r));rw[GU]
def hL(l:wZ):Nat:=(eN l).length*jN l
def qq(b:c.length<=200)(a:∀l∈c,fE l):iz c=cp (hL c):=by
 have h:=XQ (.row c) b a;have d:((eN c).length:Int)<=4611686018427387904:=h;have e:((eN c).length:Int)=cp (eN c).length:=by unfold cp;omega
 unfold iz hL;rw[e,nh c _ a]
def fY:List wZ->Nat
 |[]=>1
 |c::r=>(2^c.length+1)*fY r
def gP:List wZ->Nat
 |[]=>0
 |c::r=>hL c+gP r
def h8(L:wD)(a:u2)(sp:aO):Nat->Nat->List wZ
 |0,k=>[]
 |f+1,k=>bZ L a sp k::h8 L a sp f (k+1)
theorem Wpw(L:wD)(h:L.length<=100)(g:∀a∈L,VT a.text/\a.text.length<=200)(b:u2)(sp:aO):∀(f k x y:Nat),qh L b sp f k (cp x,cp y)=(cp (x*fY (h8 L b sp f k)),cp (y+gP (h8 L b sp f k)))
 |0,k,x,y=>by simp[qh,h8,fY,gP]
 |f+1,k,x,y=>by
  have d:(bZ L b sp k).length<=200:=by unfold bZ;rw[wq];have:=JH (xq b sp k) L;omega
  have e:∀c∈bZ L b sp k,fE c:=λc i=>by obtain⟨a,j,rfl⟩:=wa.1 i;exact g a (I4.1 j).1
  unfold qh h8 fY gP;rw[Wpv,ug,Xu,L0,qq _ d e,Xu,Wpw L h g b sp f (k+1),GU,I6]
def Wn0(c:g.length<=100)(d:∀a∈g,VT a.text/\a.text.length<=200)(b:u2):
  RB g b=(cp (fY (h8 g b (dE b g ([],0)).1 ((dE b g ([],0)).1.length+(dE b g ([],0)).2) 0)),cp (gP (h8 g b (dE b g ([],0)).1 ((dE b g ([],0)).1.length+(dE b g ([],0)).2) 0))):=by
 unfold RB;have:=Wpw g c d b (dE b g ([],0)).1 ((dE b g ([],0)).1.length+(dE b g ([],0)).2) 0 1 0;rw[QC,xr]at this;exact this
def BR(L:wD)(b sp:u2):wZ:=(L.filter λa=>decide (a.kind=2)&&(decide (a.name=b)&&(!a.has||decide (a.space=sp)))).map cC
def L9(L:wD)(b:u2):wZ:=(L.filter λa=>decide (a.kind=2)&&(decide (a.name=b) && !a.has)).map cC
theorem Wjh(L:wD)(b:u2)(sp:aO):∀(r q:aO) (f:Nat),sp=q++r->h8 L b sp (r.length+f) q.length=r.map (BR L b)++List.replicate f (L9 L b)
 |[],q,f,d=>by
  have e:q.length=sp.length:=by rw[d];simp
  rw[xJ,xr,Xbx,xQ];have c:∀(f k:Nat),sp.length<=k->h8 L b sp f k=List.replicate f (L9 L b):=λf=>by
   induction f with
   |zero=>intro k a;rfl
   |succ f g=>intro k h;unfold h8;rw[g (k+1) Y,Gu];congr 1;unfold bZ L9;congr 2;funext a;unfold xq;rw[A9i (by omega:¬k<sp.length),I5,Nf]
  exact c f _ Y
 |x::r,q,f,d=>by
  have c:q.length<sp.length:=by rw[d];simp
  have e:(x::r).length+f=(r.length+f)+1:=by rw[vT];omega
  rw[e];unfold h8;have g:=Wjh L b sp r (q++[x]) f (by rw[d];simp);rw[show(q++[x]).length=q.length+1 by simp]at g;rw[g,xc,AJ];congr 1;unfold bZ BR;congr 2;funext a;have h:sp.getD q.length []=x:=by rw[d];simp
  unfold xq;rw[xG c,Ab,h]
abbrev cm(a:bq):Int×List UInt8:=(a.kind,ct a)
abbrev cH(g:bH):Int×List UInt8:=(g.kind,g.name)
def me(L:wD)(g:bH):wD:=g.atoms.filterMap λi=>L[i.toNat]?
def Qyr{b:u2}:lu j b f=true↔cH f=(j,b):=by unfold lu;rw[vc,A9f,A9f,A9g]
theorem XP(a:Int)(b:u2)(i:Int):∀l:xe,(a,b)∉l.map cH->Nm a b i l=l++[⟨a,b,[i]⟩]
 |[],h=>rfl
 |g::r,h=>by rw[xc,vZ,not_or]at h;unfold Nm;rw[O3 (λc=>h.1 (Qyr.1 c).symm),XP a b i r h.2];rfl
theorem Pf(a:Int)(b:u2)(i:Int)(g:bH)(r:xe)(c:cH g=(a,b)):∀p:xe,(a,b)∉p.map cH->Nm a b i (p++g::r)=p ++ {g with atoms:=g.atoms++[i]}::r
 |[],h=>by show(if lu a b g=true then _ else _)=_;rw[A9a (Qyr.2 c)];rfl
 |x::p,h=>by rw[xc,vZ,not_or]at h;show(if lu a b x=true then _ else x::Nm a b i (p++g::r))=_;rw[O3 (λd=>h.1 (Qyr.1 d).symm),Pf a b i g r c p h.2];rfl
structure GI (L q:List bq) (l:List bH):Prop where
 nd:(l.map cH).Nodup
 eq:∀g∈l,me L g=q.filter λa=>decide (cm a=cH g)
 te:∀a∈q,cm a∈l.map cH
 ne:∀g∈l,∃a∈q,cm a=cH g
variable{h:xe}
def Qwb{k:Int×u2}(a:(h.map cH).Nodup)(l:k∈h.map cH):∃p g r,h=p++g::r/\cH g=k/\k∉p.map cH/\k∉r.map cH:=by have⟨g,c,b⟩:=wa.1 l;obtain⟨p,r,rfl⟩:=List.append_of_mem c;rw[yW,xc,b]at a;have⟨i,d,e⟩:=Ui.1 a;refine⟨p,g,r,rfl,b,λf => ?_,(Nb.1 d).1⟩;exact e k f k (wA ..) rfl
def GI.step{l:wD}(t:e=r++a::l)(L:GI e r h):GI e (r++[a]) (Nm a.kind (ct a) r.length h):=by
 have f:e[((r.length:Nat):Int).toNat]?=some a:=by rw[t,zi];simp
 have i:∀k:Int×u2,(r++[a]).filter (λx=>decide (cm x=k))=r.filter (λx=>decide (cm x=k))++if cm a=k then[a]else[]:=λk=>by
  rw[M_,Gw];by_cases c:cm a=k
  ·rw[A9a c,A9a (xG c)];rfl
  ·rw[O3 c,O3 (by simpa using c)];rfl
 by_cases c:cm a∈h.map cH
 ·obtain⟨p,g,k,rfl,o,s,u⟩:=Qwb L.nd c;rw[Pf a.kind (ct a) r.length g k o p s];have b:(p ++ {g with atoms:=g.atoms++[(r.length:Int)]}::k).map cH=(p++g::k).map cH:=u0;refine⟨by rw[b];exact L.nd,λx m => ?_,λx m => ?_,λx m => ?_⟩
  ·rw[i];have d:∀y∈p++g::k,cH y≠cm a->me e y=r.filter (λx=>decide (cm x=cH y))++if cm a=cH y then[a]else[]:=λy v n=>by rw[O3 (λq=>n q.symm),wt];exact L.eq y v
   rcases xf.1 m with j|j
   ·refine d x (ET _ j) λq=>s ?_;exact wa.2 ⟨x,j,q⟩
   ·rcases vZ.1 j with rfl|j
    ·have n:me e {g with atoms:=g.atoms++[(r.length:Int)]}=me e g++[a]:=by unfold me;rw[List.filterMap_append,KT,f];rfl
     rw[n,L.eq g u0];have:=o.symm;rw[A9a this]
    ·refine d x (JG _ (wh _ j)) λq=>u ?_;exact wa.2 ⟨x,j,q⟩
  ·rw[b];rcases xf.1 m with d|d
   ·exact L.te x d
   ·rw[vR.1 d];exact c
  ·have d:cH x∈(p++g::k).map cH:=by rw[<-b];exact wa.2 ⟨x,m,rfl⟩
   have⟨y,j,q⟩:=wa.1 d;have⟨z,n,v⟩:=L.ne y j;exact⟨z,ET _ n,v.trans q⟩
 ·rw[XP a.kind (ct a) r.length h c];refine⟨?_,λx b => ?_,λx b => ?_,λx b => ?_⟩
  ·rw[yW];refine Ui.2 ⟨L.nd,u0,λy d z g q=>c ?_⟩;rw[show z=cm a from vR.1 g]at q;rw[<-q];exact d
  ·rw[i];rcases xf.1 b with d|d
   ·rw[O3 (λq=>c (by rw[q];exact wa.2 ⟨x,d,rfl⟩)),wt];exact L.eq x d
   ·rw[vR.1 d];have g:me e ⟨a.kind,ct a,[(r.length:Int)]⟩=[a]:=by unfold me;rw[KT,f];rfl
    have j:r.filter (λy=>decide (cm y=cH ⟨a.kind,ct a,[(r.length:Int)]⟩))=[]:=by rw[List.filter_eq_nil_iff];intro y q k;have:=pM k;exact c (by rw[<-show cm y=cm a from this];exact L.te y q)
    rw[g,j];rw[A9a rfl];rfl
  ·rw[yW];rcases xf.1 b with d|d
   ·exact ET _ (L.te x d)
   ·rw[vR.1 d];exact JG _ u0
  ·rcases xf.1 b with d|d
   ·have⟨z,g,q⟩:=L.ne x d;exact⟨z,ET _ g,q⟩
   ·rw[vR.1 d];exact⟨a,u0,rfl⟩
theorem GI.all{L:wD}:∀(r q:wD) (l:xe),L=q++r->GI L q l->GI L L (mM r q.length l)
 |[],q,l,a,h=>by
  have:q=L:=by rw[a];simp
  rw[<-this]at h ⊢;exact h
 |a::r,q,l,b,h=>by have:=GI.all r (q++[a]) _ (by rw[b];simp) (h.step b);rw[show(q++[a]).length=q.length+1 by simp]at this;exact this
def CD:GI g g (vS g):=GI.all g [] [] rfl ⟨Qz,λL b=>(by cases b),λa c=>(by cases c),λL b=>(by cases b)⟩
theorem NB(L:wD):∀(l:u_) (st:aO×aO×Nat),iM L l st=(l.filterMap λi=>L[i.toNat]?).foldl (λst a=>iL a st) st
 |[],st=>rfl
 |i::r,st=>by
  unfold iM;rw[KT];cases h:L[i.toNat]? with
  |none=>exact NB L r st
  |some a=>exact NB L r (iL a st)
def Qwc:Qan g H=(me g H).foldl (λst a=>iL a st) ([],[],0):=NB g H.atoms _
theorem Qpu(L:wD)(sp:u2):∀(l:u_) (st:u_×wZ),(jQ L sp l st).2=st.2++((l.filterMap λi=>L[i.toNat]?).filter λa=>!a.has||decide (a.space=sp)).map cC
 |[],st=>by simp[jQ]
 |i::r,st=>by
  unfold jQ;rw[KT];cases h:L[i.toNat]? with
  |none=>exact Qpu L sp r st
  |some a=>
   simp only;rw[Qpu L sp r,Gw];unfold jK;by_cases b:a.has=T\/a.space=sp
   ·rw[A9a b];have:(!a.has||decide (a.space=sp)):=by
     rcases b with c|c
     ·rw[c];rfl
     ·rw[xG c,C5]
    rw[A9a this];simp
   ·rw[O3 b];have:(!a.has||decide (a.space=sp))=T:=by
     rw[A9i (λe=>b (.inr e)),Nf];cases c:a.has with
     |true=>rfl
     |false=>exact absurd (.inl c) b
    rw[O3 (by rw[this];simp)]
def Wds:(gx g H B).conds=((me g H).filter λa=>!a.has||decide (a.space=B)).map cC:=by have:=Qpu g B H.atoms ([],[]);rw[xQ]at this;exact this
theorem Qi5(b:u2):∀(L:wD) (st:aO×Nat) (c:aO),∃g,(L.filter λa=>decide (cm a=(2,b))).foldl (λst a=>iL a st) (c,st.1,st.2)=(g,(dE b L st).1,(dE b L st).2)
 |[],st,c=>⟨c,rfl⟩
 |a::r,st,c=>by
  rw[Gw];unfold dE;by_cases d:a.kind=2
  ·have e:ct a=a.name:=by unfold ct;rw[O3 Y]
   by_cases f:a.name=b
   ·rw[A9a (by simp[cm,d,e,f]),A9a ⟨d,f⟩,Uk];unfold iL;cases h:a.has with
    |true=>simp only[A9c];exact Qi5 b r (bN st.1 a.space,st.2) _
    |false=>simp only[vD,A9d];exact Qi5 b r (st.1,st.2+1) _
   ·rw[O3 (by simp[cm,d,e,f]),O3 (λh=>f h.2)];exact Qi5 b r st c
  ·rw[O3 (by simp[cm,d]),O3 (λh=>d h.1)];exact Qi5 b r st c
def Wun:PQ D∉D:=by
 have b:∀(f:Nat) (s:u2),(∃j:Nat,j<f/\bu D (s++List.replicate j 111)=T)->kF D f s∉D:=λf=>by
  induction f with
  |zero=>intro s ⟨j,a,_⟩;omega
  |succ f d=>
   intro s ⟨j,g,a⟩;unfold kF;cases c:bu D s with
   |true=>
    simp only[A9c];refine d (s++[111]) ?_;cases j with
    |zero=>rw[JJ,wt]at a;rw[c]at a;cases a
    |succ j=>exact⟨j,by omega,by rw[wL];exact a⟩
   |false=>simp only[vD,A9d];intro e;rw[SE.2 e]at c;cases c
 exact b (D.length+1) [111] (VY D)
def Wb3{l:aO}{t:u2}:(∀x∈l,x∈bN l t)/\t∈bN l t:=by
 unfold bN;cases h:bu l t with
 |true=>exact⟨λx a=>a,SE.1 h⟩
 |false=>exact⟨λx a=>ET _ a,JG _ u0⟩
theorem Mz(b:u2):∀(L:wD) (st:aO×Nat),(∀x∈st.1,x∈(dE b L st).1)/\(∀a∈L,a.kind=2->a.name=b->a.has->a.space∈(dE b L st).1)
 |[],st=>⟨λx c=>c,λa d=>by cases d⟩
 |a::r,st=>by
  unfold dE;have⟨e,i⟩:=Mz b r (if a.kind=2/\a.name=b then(if a.has=true then(bN st.1 a.space,st.2)else(st.1,st.2+1))else st);refine⟨λx c=>e x ?_,λy d f g h => ?_⟩
  ·split
   ·split
    ·exact Wb3.1 x c
    ·exact c
   ·exact c
  ·rcases vZ.1 d with rfl|d
   ·refine e _ ?_;rw[A9a ⟨f,g⟩,A9a h];exact Wb3.2
   ·exact i y d f g h
def j9(L:wD)(a:u2):List wZ:=h8 L a (dE a L ([],0)).1 ((dE a L ([],0)).1.length+(dE a L ([],0)).2) 0
def Qto:j9 g B=(dE B g ([],0)).1.map (BR g B)++List.replicate (dE B g ([],0)).2 (L9 g B):=Wjh g B _ (dE B g ([],0)).1 [] (dE B g ([],0)).2 rfl
def Wji{b sp:u2}(h:∀a∈e,a.kind=2->a.name=b->a.has->a.space≠sp):BR e b sp=L9 e b:=by
 unfold BR L9;congr 1;apply List.filter_congr;intro a L;by_cases c:a.kind=2
 ·by_cases d:a.name=b
  ·cases f:a.has with
   |false=>simp
   |true=>have:=h a L c d f;rw[A9i this];rfl
  ·rw[A9i d];simp
 ·rw[A9i c];simp
theorem QV{L:wD}{b:u2}{S:aO}(c:∀a∈L,a.kind=2->a.name=b->a.has->a.space∈S):∀(f:Nat) (l:aO),(∀x∈S,x∈l)->(lz f l).map (BR L b)=l.map (BR L b)++List.replicate f (L9 L b)
 |0,l,d=>by simp[lz]
 |f+1,l,d=>by show(lz f (l++[PQ l])).map _=_;rw[QV c f (l++[PQ l]) (λx g=>ET _ (d x g)),yW,xc,Xbx,wL];congr 1;rw[Wji (sp:=PQ l) λa h i j k e=>Wun l (by rw[<-e];exact d _ (c a h i j k))];rfl
def Qi6(k:f∈vS e)(l:f.kind=2):(Qbj e f).map (·.conds)=j9 e f.name:=by
 have i:=CD e;have d:=i.eq f k;have L:cH f=(2,f.name):=by show(f.kind,f.name)=_;rw[l]
 rw[L]at d;have⟨m,n⟩:=Qi5 f.name e ([],0) [];have j:Qan e f=(m,(dE f.name e ([],0)).1,(dE f.name e ([],0)).2):=by rw[Qwc,d];exact n
 unfold Qbj;rw[j,Ni];have g:(λp:fX=>p.conds)∘gx e f=BR e f.name:=by
  funext o;show(gx e f o).conds=_;rw[Wds,d,List.filter_filter];unfold BR;congr 2;funext a;by_cases b:a.kind=2
  ·have h:ct a=a.name:=by unfold ct;rw[O3 Y]
   by_cases c:a.name=f.name
   ·rw[xG (show cm a=(2,f.name) by rw[show cm a=(a.kind,ct a)from rfl,b,h,c]),xG b,xG c];simp
   ·rw[A9i (show ¬cm a=(2,f.name) by rw[show cm a=(a.kind,ct a)from rfl,b,h];simp[c]),A9i c];simp
  ·rw[A9i (show ¬cm a=(2,f.name) by simp[cm,b]),A9i b];simp
 rw[g,Qto];exact QV (λa q b c r=>(Mz f.name e ([],0)).2 a q b c r) _ _ (λx s=>s)
theorem Ns:∀l,0<fY l
 |[]=>Nat.one_pos
 |c::r=>JO (Nat.succ_pos _) (Ns r)
theorem OD:∀ps:List fX,Qkn ps<=fY (ps.map (·.conds))
 |[]=>vE _
 |p::r=>QA (GX _) (OD r)
theorem TR:∀l:wZ,Qcc (l.map bg)<=jN l
 |[]=>vE _
 |c::r=>QA (by have:=Wo8 c;omega) (TR r)
def Wuo:∀x∈(JV c++dc (JV c))++[fP (JV c++dc (JV c))],0<=x:=λx a=>by
 rcases xf.1 a with h|h
 ·rcases xf.1 h with h|h
  ·have:=Tn c x h;unfold Qbn at this;simp only[vc,A9f]at this;exact this.1.1
  ·have:=YF _ x h;omega
 ·rw[vR.1 h];have:=Wip (JV c++dc (JV c));omega
def Yy:(eN c).length=(cJ c).length:=by refine Wtx _ (Wuo c) _ ?_;have:kE ((JV c++dc (JV c))++[fP (JV c++dc (JV c))]) (-1)<=_:=JH ..;rw[vW,Gt]at this;omega
def Wn1:0<(eN c).length:=by
 rw[Yy];have h:=(OF ((JV c++dc (JV c))++[fP (JV c++dc (JV c))])).1 45;have a:=h.2 (by unfold JV;simp)
 exact List.length_pos_of_mem a
def Wup(h:fW c):(eP c).steps<=hL c:=by
 have b:=(Qyo c h).2;have a:=TR c;have l:(cJ c).length*Qcc (c.map bg)<=hL c:=by unfold hL;rw[Yy];exact Hi _ a
 omega
def qt(a:c.length<=200)(b:∀l∈c,fE l)(d:∀l∈c,l.text.length<=8)(e:hL c<=900000):fW c:=by refine⟨a,b,d,?_⟩;have f:=TR c;have g:jN c<=hL c:=OT _ (Wn1 c);omega
def Wb5(h:fW c):(eP c).out.length<=2^c.length:=by have b:=YL c h;have a:=Wbr c h (eP c).steps;rw[(Qtl c h (eP c).steps b).1 (GY _)]at a;exact a
theorem QW(L:wD)(g:bH):∀(r:List fX) (a:wx),(∀p∈r,fW p.conds)->gO L g r a+a.length<=(gP (r.map (·.conds))+a.length*fY (r.map (·.conds)):Nat)
 |[],a,h=>by simp[gO,gP,fY]
 |p::r,a,h=>by
  have b:=h p (wA ..);have s:=QW L g r (zt L g.atoms (fK g p a)) λq e=>h q (wh _ e);have u:=Wup p.conds b;have f:=Wb5 p.conds b;have v:=Es L g.atoms (fK g p a);have x:(fK g p a).length=a.length*(eP p.conds).out.length:=by unfold fK;rw[Qu];simp only[wq];rw[Nc,M9]
  have c:=Ns (r.map (·.conds));unfold gO;rw[xc];show _<=((hL p.conds+gP (r.map (·.conds))+a.length*((2^p.conds.length+1)*fY (r.map (·.conds))):Nat):Int);generalize hF:fY (r.map (·.conds))=F,(zt L g.atoms (fK g p a)).length=m at*;generalize i:gP (r.map (·.conds))=S at*;generalize y:(eP p.conds).out.length=w at*;generalize z:2^p.conds.length=t at*;have A:a.length*w<=a.length*t:=Hi _ f;have d:m<=a.length*t:=by omega
  have B:m*F<=a.length*t*F:=DY _ d;have j:a.length*((t+1)*F)=a.length*t*F+a.length*F:=by rw[I8,QC,Nat.mul_add,GU]
  have C:a.length<=a.length*F:=BG _ c;rw[j];have k:a.length*t+(m*F-m)<=a.length*t*F:=by
   have l:m*F-m=m*(F-1):=by rw[Nat.mul_sub,I9]
   have n:a.length*t*F=a.length*t+a.length*t*(F-1):=by
    have:F=1+(F-1):=by omega
    conv=>lhs;rw[this]
    rw[Nat.mul_add,I9]
   rw[l,n];have:=DY (F-1) d;omega
  have o:m<=m*F:=BG _ c;omega
def dr(L:wD)(g:bH):Nat:=if g.kind=1 then 1 else if g.kind=2 then fY (j9 L g.name)else 2
def bB(L:wD)(g:bH):Nat:=if g.kind=1 then((Qan L g).2.1.length+1)*((Qan L g).1.length+1)else dr L g
def cX(L:wD)(g:bH):Nat:=if g.kind=2 then gP (j9 L g.name)else 0
def ew(f:bH->Nat):xe->Nat
 |[]=>1
 |g::r=>f g*ew f r
def gC(f:bH->Nat):xe->Nat
 |[]=>0
 |g::r=>f g+gC f r
theorem T0(f:bH->Nat):∀l m,ew f (l++m)=ew f l*ew f m
 |[],m=>by simp[ew]
 |g::l,m=>by show f g*ew f (l++m)=f g*ew f l*ew f m;rw[T0 f l m,GU]
theorem T1(f:bH->Nat):∀l m,gC f (l++m)=gC f l+gC f m
 |[],m=>by simp[gC]
 |g::l,m=>by show f g+gC f (l++m)=f g+gC f l+gC f m;rw[T1 f l m,I6]
def Wjm:(iQ D).length=D.length+1:=by
 unfold iQ;split
 ·rename_i h;rw[h];rfl
 ·simp
theorem Wb6(L:wD)(g:bH):∀(r:List fX) (a:wx),(∀p∈r,fW p.conds)->(jM L g r a).length<=a.length*Qkn r
 |[],a,h=>by simp[jM,Qkn]
 |p::r,a,h=>by
  have b:=h p (wA ..);have c:=Wb6 L g r (zt L g.atoms (fK g p a)) λq d=>h q (wh _ d);have e:=Wb5 p.conds b;have f:=Es L g.atoms (fK g p a);have i:(fK g p a).length=a.length*(eP p.conds).out.length:=by unfold fK;rw[Qu];simp only[wq];rw[Nc,M9]
  unfold jM;refine zr c ?_;show _<=a.length*(2^p.conds.length*Qkn r);rw[<-GU];refine DY _ (zr f ?_);rw[i];exact Hi _ e
section
variable{L:wD}
def Qyu(c:f∈vS L):fg L f<=bB L f:=by
 unfold fg bB dr;by_cases b:f.kind=1
 ·simp only[b,A9c];rw[Wjm];exact vE _
 ·simp only[b,A9d];by_cases a:f.kind=2
  ·simp only[a,A9c];have:=OD (Qbj L f)
   rwa[Qi6 c a]at this
  ·simp only[a,A9d];exact vE _
def Qwd(c:f∈vS L)(d:eu L f):(K7 L f).length<=bB L f:=by
 refine zr ?_ (Qyu c);unfold K7 fg;by_cases b:f.kind=1
 ·simp only[b,A9c];refine zr (Es _ _ _) ?_;rw[Qu];simp only[wq,vW,Gt];rw[Nc,M9];exact vE _
 ·simp only[b,A9d];by_cases a:f.kind=2
  ·simp only[a,A9c];have:=Wb6 L f (Qbj L f) [dY] (d.ok a);simpa using this
  ·simp only[a,A9d];exact vE _
def Wb7(c:f∈vS L)(d:eu L f):ql L f<=(cX L f+bB L f:Nat):=by
 unfold ql cX bB dr;by_cases b:f.kind=1
 ·simp only[b,A9c];rw[Wjm];simp
 ·simp only[b,A9d];by_cases a:f.kind=2
  ·simp only[a,A9c];have:=QW L f (Qbj L f) [dY] (d.ok a);rw[Qi6 c a]at this;simp at this;omega
  ·simp only[a,A9d];omega
def sL(P:Nat):Nat:=if P<=1 then 0 else 3*P-1
def YB(L:wD):xe->Prop
 |[]=>True
 |g::r=>(2<=bB L g/\YB L r)\/(bB L g=1/\∀x∈r,2<=bB L x)
def XZ(a b:wx):(qi a b).length=a.length*b.length:=by unfold qi;rw[Qu];simp only[wq];rw[Nc,M9]
theorem Wpx:∀(r:xe) (a:wx) (P:Nat),(∀g∈r,g∈vS L/\eu L g/\2<=bB L g)->a.length<=P->1<=P->eY L r a+(4*P:Nat)<=(gC (cX L) r+4*(P*ew (bB L) r):Nat)
 |[],a,P,h,b,c=>by simp[eY,gC,ew]
 |g::r,a,P,h,d,k=>by
  have⟨b,c,e⟩:=h g (wA ..);have l:=Wb7 b c;have f:=Qwd b c;have i:=QA d f;have m:2*P<=P*bB L g:=by rw[I7];exact Hi _ e
  have n:bB L g<=P*bB L g:=OT _ Y;have o:=Wpx r (qi a (K7 L g)) (P*bB L g) (λx j=>h x (wh _ j)) (by rw[XZ];exact i) Y;unfold eY;show _<=((cX L g+gC (cX L) r+4*(P*(bB L g*ew (bB L) r)):Nat):Int);rw[<-GU P];omega
theorem Wpy:∀(r:xe) (a:wx) (P:Nat),(∀g∈r,g∈vS L/\eu L g)->YB L r->a.length<=P->1<=P->eY L r a+(sL P:Nat)<=(gC (cX L) r+4*(P*ew (bB L) r):Nat)
 |[],a,P,h,b,c,d=>by unfold sL;simp only[eY,gC,ew,I9];split<;>omega
 |g::r,a,P,h,b,m,n=>by
  have⟨k,l⟩:=h g (wA ..);have e:=λx c=>h x (wh _ c);have o:=Wb7 k l;have p:=Qwd k l;have f:=QA m p;unfold eY;show _<=((cX L g+gC (cX L) r+4*(P*(bB L g*ew (bB L) r)):Nat):Int);rw[<-GU P];rcases b with ⟨i,b⟩|⟨i,b⟩
  ·have t:2*P<=P*bB L g:=by rw[I7 2 P];exact Hi _ i
   have u:bB L g<=P*bB L g:=OT _ Y;have q:2<=P->2*bB L g<=P*bB L g:=λh=>DY _ h;have s:P=1->P*bB L g=bB L g:=λh=>by rw[h,QC]
   have j:=Wpy r (qi a (K7 L g)) (P*bB L g) e b (by rw[XZ];exact f) Y;unfold sL at j ⊢;by_cases d:P<=1
   ·rw[A9a d];have:=s Y;rw[O3 Y]at j;omega
   ·rw[O3 d];have:=q Y;rw[O3 Y]at j;omega
  ·rw[i]at o f ⊢;have d:=Wpx r (qi a (K7 L g)) P (λx c=>⟨(e x c).1,(e x c).2,b x c⟩) (by rw[XZ];omega) n;rw[I9]at f ⊢;unfold sL;split<;>omega
def Wb8:1<=bB L H:=by
 unfold bB dr;split
 ·exact JO Y Y
 ·split
  ·exact Ns _
  ·omega
theorem Wjo:∀l:xe,(l.map cH).Nodup->(∀g∈l,g.kind=1->g.name=[])->(∀g∈l,g.kind≠1->2<=bB L g)->YB L l
 |[],_,_,_=>trivial
 |g::r,k,f,h=>by
  rw[xc]at k;have⟨a,b⟩:=Nb.1 k;by_cases m:2<=bB L g
  ·exact .inl ⟨m,Wjo r b (λx c=>f x (wh _ c)) (λx c=>h x (wh _ c))⟩
  ·have n:=Wb8 (L:=L) g;have d:=Dx λd=>m (h g (wA ..) d);have j:=f g (wA ..) d;refine .inr ⟨by omega,λx i=>h x (wh _ i) λc=>a ?_⟩;have e:cH x=cH g:=by show(x.kind,x.name)=(g.kind,g.name);rw[c,d,j,f x (wh _ i) c]
   rw[<-e];exact wa.2 ⟨x,i,rfl⟩
def Wjp(b:f∈vS L)(d:f.kind=1):f.name=[]:=by have⟨a,g,e⟩:=(CD L).ne f b;have h:a.kind=f.kind:=A9e Prod.fst e;have c:ct a=f.name:=A9e Prod.snd e;rw[<-c];unfold ct;rw[A9a Y]
def Wn2{l:List wZ}(h:l≠[]):2<=fY l:=by
 cases l with
 |nil=>exact absurd rfl h
 |cons c r=>have a:=Ns r;have b:0<2^c.length:=Nat.two_pow_pos _;exact zr (by omega:2<=(2^c.length+1)*1) (Hi _ a)
def qu(l:f∈vS L)(i:f.kind≠1):2<=bB L f:=by
 unfold bB dr;rw[O3 i,O3 i];split
 ·rename_i u;refine Wn2 ?_;rw[Qto];have⟨a,j,e⟩:=(CD L).ne f l;have v:a.kind=f.kind:=A9e Prod.fst e;have m:ct a=f.name:=A9e Prod.snd e;have d:a.name=f.name:=by rw[<-m];unfold ct;rw[O3 Y]
  have n:=Mz f.name L ([],0);intro c;rw[List.append_eq_nil_iff]at c;have o:(dE f.name L ([],0)).1=[]:=by have:=c.1;simpa using this
  have p:(dE f.name L ([],0)).2=0:=by have:=A9e List.length c.2;simpa using this
  cases k:a.has with
  |true=>have:=n.2 a j Y d k;rw[o]at this;cases this
  |false=>
   have g:∀(r:wD) (b:aO×Nat),b.2<=(dE f.name r b).2/\(a∈r->b.2+1<=(dE f.name r b).2):=λr=>by
    induction r with
    |nil=>intro b;exact⟨vE _,λh=>by cases h⟩
    |cons x r q=>
     intro b;unfold dE;have⟨h,s⟩:=q (if x.kind=2/\x.name=f.name then(if x.has=true then(bN b.1 x.space,b.2)else(b.1,b.2+1))else b);have t:b.2<=(if x.kind=2/\x.name=f.name then(if x.has=true then(bN b.1 x.space,b.2)else(b.1,b.2+1))else b).2:=by
      split
      ·split
       ·exact vE _
       ·exact GX _
      ·exact vE _
     refine⟨by omega,λhm => ?_⟩;rcases vZ.1 hm with rfl|hm
     ·rw[A9a ⟨by omega,d⟩,O3 (by rw[k];simp)]at h ⊢;exact h
     ·have:=s hm;omega
   have:=(g L ([],0)).2 j;simp only at this;omega
 ·omega
def Wuq(b:∀g∈vS L,eu L g):dn L<=(1+gC (cX L) (vS L)+4*ew (bB L) (vS L):Nat):=by have h:=Wpy (vS L) [gN] 1 (λg a=>⟨a,b g a⟩) (Wjo _ (CD L).nd (λg a=>Wjp a) (λg a=>qu a)) (vE _) (vE _);rw[QC]at h;unfold dn;have e:sL 1=0:=rfl;rw[e]at h;omega
end
def mn(g:bH):u2:=(if g.kind=2 then 97 else 115)::g.name
def jS(q:wD):aO×aO×Nat:=(q.filter λa=>decide (cm a=(1,[]))).foldl (λb a=>iL a b) ([],[],0)
structure BI (L q:List bq) (l:List bH) (b:BS):Prop where
 fl:b.a_=cp (ew (dr L) l)
 fs:b.sum=cp (gC (cX L) l)
 fd:b.done=(l.filter λg=>decide (g.kind≠1)).map mn
 fn:b.names=(jS q).1
 fp:b.aA=(jS q).2.1
 ft:b.types=q.any λa=>decide (a.kind=1)
def Wjq(h:iJ a):a.kind=1\/a.kind=2\/a.kind=3:=by
 unfold iJ at h;simp only[vc]at h;have b:=h.2.2;by_cases c:a.kind=2
 ·exact .inr (.inl c)
 ·rw[O3 c]at b;by_cases d:a.kind=1
  ·exact .inl d
  ·rw[O3 d]at b;simp only[vc,A9f]at b;exact .inr (.inr b.1)
section
variable{L:wD}(Q:L.length<=100)(u:∀a∈L,iJ a=true)(N:∀a∈L,VT a.text=true/\a.text.length<=200)
include Q u N
theorem BI.step{b:BS}(F:L=e++a::r)(y:GI L e h)(q:BI L e h b):BI L (e++[a]) (Nm a.kind (ct a) e.length h) (iA L a b):=by
 have z:a∈L:=by rw[F];simp
 have A:=Wjq (u a z);have B:∀g∈h,(g.kind=1/\g.name=[])\/g.kind=2\/g.kind=3:=λg j=>by
  have⟨x,k,l⟩:=y.ne g j;have v:x.kind=g.kind:=A9e Prod.fst l;have C:ct x=g.name:=A9e Prod.snd l;have:=Wjq (u x (by rw[F];exact ET _ k));rw[v]at this;rcases this with d|d|d
  ·refine .inl ⟨d,?_⟩;rw[<-C];unfold ct;rw[A9a Y]
  ·exact .inr (.inl d)
  ·exact .inr (.inr d)
 have s:cm a∈h.map cH->ew (dr L) (Nm a.kind (ct a) e.length h)=ew (dr L) h/\gC (cX L) (Nm a.kind (ct a) e.length h)=gC (cX L) h/\((Nm a.kind (ct a) e.length h).filter λg=>decide (g.kind≠1)).map mn=(h.filter λg=>decide (g.kind≠1)).map mn:=λm=>by
  obtain⟨p,g,k,rfl,w,n,o⟩:=Qwb y.nd m;rw[Pf a.kind (ct a) e.length g k w p n];refine⟨?_,?_,?_⟩
  ·rw[T0,T0];rfl
  ·rw[T1,T1];rfl
  ·rw[M_,M_,yW,yW];congr 1;rw[Gw,Gw];by_cases d:g.kind=1
   ·rw[O3 (by simp[d]),O3 (by simp[d])]
   ·rw[A9a (by simp[d]),A9a (by simp[d])];rfl
 have t:=λm=>XP a.kind (ct a) e.length h m;have f:jS (e++[a])=if cm a=(1,[])then iL a (jS e)else jS e:=by
  unfold jS;rw[M_,Gw];by_cases d:cm a=(1,[])
  ·rw[A9a d,A9a (xG d),List.foldl_append];rfl
  ·rw[O3 d,O3 (by simpa using d)];simp
 have i:(e++[a]).any (λa=>decide (a.kind=1))=(e.any (λa=>decide (a.kind=1))||decide (a.kind=1)):=by rw[List.any_append];simp
 by_cases c:a.kind=1
 ·have n:cm a=(1,[]):=by show(a.kind,ct a)=_;unfold ct;rw[A9a c,c]
  have o:iA L a b=⟨b.a_,b.sum,b.done,if a.name=[]then b.names else bN b.names a.name,if a.has=true then bN b.aA a.space else b.aA,true⟩:=by unfold iA;rw[A9a c]
  have k:ew (dr L) (Nm a.kind (ct a) e.length h)=ew (dr L) h/\gC (cX L) (Nm a.kind (ct a) e.length h)=gC (cX L) h/\((Nm a.kind (ct a) e.length h).filter λg=>decide (g.kind≠1)).map mn=(h.filter λg=>decide (g.kind≠1)).map mn:=by
   by_cases m:cm a∈h.map cH
   ·exact s m
   ·rw[t m];refine⟨?_,?_,?_⟩
    ·rw[T0];show ew (dr L) h*(dr L ⟨a.kind,ct a,[(e.length:Int)]⟩*1)=_;have:dr L ⟨a.kind,ct a,[(e.length:Int)]⟩=1:=by unfold dr;rw[A9a c]
     rw[this];simp
    ·rw[T1];show gC (cX L) h+(cX L ⟨a.kind,ct a,[(e.length:Int)]⟩+0)=_;have:cX L ⟨a.kind,ct a,[(e.length:Int)]⟩=0:=by unfold cX;rw[O3 (by show ¬a.kind=2;omega)]
     rw[this];simp
    ·rw[M_,Gw,O3 (by simp[c])];simp
  obtain⟨d,p,x⟩:=k;rw[o];refine⟨by rw[d];exact q.fl,by rw[p];exact q.fs,by rw[x];exact q.fd,?_,?_,?_⟩
  ·rw[f,A9a n];unfold iL;rw[q.fn]
  ·rw[f,A9a n];unfold iL;rw[q.fp]
  ·rw[i,xG c,C5]
 ·have n:ct a=a.name:=by unfold ct;rw[O3 c]
  have k:cm a≠(1,[]):=by simp[cm,c]
  have p:bu b.done (cT a)=true↔cm a∈h.map cH:=by
   rw[SE,q.fd];constructor
   ·intro G;have⟨g,o,l⟩:=wa.1 G;have⟨j,w⟩:=I4.1 o;have D:g.kind≠1:=by simpa using w
    refine wa.2 ⟨g,j,?_⟩;unfold mn cT at l;have v:=List.cons.inj l;show(g.kind,g.name)=(a.kind,ct a);rw[n,v.2];have E:=B g j;have:g.kind=a.kind:=by
     by_cases x:a.kind=2
     ·by_cases o:g.kind=2
      ·omega
      ·have:=v.1;rw[O3 o,A9a x]at this;exact absurd this (by decide)
     ·by_cases o:g.kind=2
      ·have:=v.1;rw[A9a o,O3 x]at this;exact absurd this (by decide)
      ·omega
    rw[this]
   ·intro o;have⟨g,j,l⟩:=wa.1 o;have v:g.kind=a.kind:=A9e Prod.fst l;have C:g.name=ct a:=A9e Prod.snd l;refine wa.2 ⟨g,I4.2 ⟨j,xG Y⟩,?_⟩;unfold mn cT;rw[v,C,n]
  by_cases m:cm a∈h.map cH
  ·have⟨d,x,D⟩:=s m;have o:iA L a b=b:=by unfold iA;rw[O3 c,A9a (p.2 m)]
   rw[o];refine⟨by rw[d];exact q.fl,by rw[x];exact q.fs,by rw[D];exact q.fd,?_,?_,?_⟩
   ·rw[f,O3 k];exact q.fn
   ·rw[f,O3 k];exact q.fp
   ·rw[i,A9i c,Nf];exact q.ft
  ·have o:=λl=>m (p.1 l);have x:((h++[(⟨a.kind,ct a,[(e.length:Int)]⟩:bH)]).filter λg=>decide (g.kind≠1)).map mn=b.done++[cT a]:=by
    rw[M_,Gw,A9a (by simp[c]),yW,q.fd];have l:mn ⟨a.kind,ct a,[(e.length:Int)]⟩=cT a:=by unfold mn cT;rw[n]
    simp[l]
   rw[t m];rcases A with J|G|I
   ·exact absurd J c
   ·have D:¬a.kind=3:=by omega
    have H:iA L a b=⟨VG b.a_ (RB L a.name).1,zu b.sum (RB L a.name).2,b.done++[cT a],b.names,b.aA,b.types⟩:=by unfold iA;rw[O3 c,O3 o,O3 D]
    have E:=Wn0 L Q N a.name;rw[H,E];refine⟨?_,?_,x.symm,?_,?_,?_⟩
    ·show VG b.a_ (cp _)=_;rw[q.fl,L0,T0];congr 1;show _=ew (dr L) h*(dr L ⟨a.kind,ct a,[(e.length:Int)]⟩*1);have:dr L ⟨a.kind,ct a,[(e.length:Int)]⟩=fY (j9 L a.name):=by unfold dr;rw[O3 c,A9a G,n]
     rw[this,I9];rfl
    ·show zu b.sum (cp _)=_;rw[q.fs,Xu,T1];congr 1;show _=gC (cX L) h+(cX L ⟨a.kind,ct a,[(e.length:Int)]⟩+0);have:cX L ⟨a.kind,ct a,[(e.length:Int)]⟩=gP (j9 L a.name):=by unfold cX;rw[A9a G,n]
     rw[this,KY];rfl
    ·rw[f,O3 k];exact q.fn
    ·rw[f,O3 k];exact q.fp
    ·rw[i,A9i c,Nf];exact q.ft
   ·have D:iA L a b=⟨VG b.a_ 2,b.sum,b.done++[cT a],b.names,b.aA,b.types⟩:=by unfold iA;rw[O3 c,O3 o,A9a I]
    rw[D];refine⟨?_,?_,x.symm,?_,?_,?_⟩
    ·show VG b.a_ 2=_;rw[q.fl,sK,L0,T0];congr 1;show _=ew (dr L) h*(dr L ⟨a.kind,ct a,[(e.length:Int)]⟩*1);have:dr L ⟨a.kind,ct a,[(e.length:Int)]⟩=2:=by unfold dr;rw[O3 c,O3 (by show ¬a.kind=2;omega)]
     rw[this]
    ·rw[q.fs,T1];congr 1;show _=gC (cX L) h+(cX L ⟨a.kind,ct a,[(e.length:Int)]⟩+0);have:cX L ⟨a.kind,ct a,[(e.length:Int)]⟩=0:=by unfold cX;rw[O3 (by show ¬a.kind=2;omega)]
     rw[this];simp
    ·rw[f,O3 k];exact q.fn
    ·rw[f,O3 k];exact q.fp
    ·rw[i,A9i c,Nf];exact q.ft
theorem BI.all:∀(r q:wD) (l:xe) (b:BS),L=q++r->GI L q l->BI L q l b->BI L L (mM r q.length l) (kf L r b)
 |[],q,l,b,c,d,h=>by
  have:q=L:=by rw[c];simp
  rw[<-this]at h ⊢;exact h
 |a::r,q,l,b,d,c,h=>by have:=BI.all r (q++[a]) _ _ (by rw[d];simp) (c.step d) (BI.step Q u N d c h);rw[show(q++[a]).length=q.length+1 by simp]at this;exact this
theorem Wn3:BI L L (vS L) (kf L L qn):=BI.all Q u N L [] [] qn rfl ⟨Qz,λg N=>(by cases N),λa b=>(by cases b),λg N=>(by cases N)⟩ ⟨by show(1:Int)=cp 1;decide,by show(0:Int)=cp 0;decide,rfl,rfl,rfl,rfl⟩
theorem Qwe(T9:Nat):∀l:xe,(l.map cH).Nodup->(∀g∈l,g.kind=1->g.name=[]/\bB L g=T9)->ew (bB L) l=ew (dr L) l*(if(l.any λg=>decide (g.kind=1))=true then T9 else 1)
 |[],_,_=>by simp[ew]
 |g::r,k,h=>by
  rw[xc]at k;have⟨a,b⟩:=Nb.1 k;have m:=Qwe T9 r b λx f=>h x (wh _ f);show bB L g*ew (bB L) r=dr L g*ew (dr L) r*_;rw[m,Ng];by_cases c:g.kind=1
  ·have⟨i,n⟩:=h g (wA ..) c;have j:(r.any λg=>decide (g.kind=1))=T:=by
    rw[List.any_eq_false];intro x f o;have d:=pM o;refine a ?_;have e:cH x=cH g:=by show(x.kind,x.name)=(g.kind,g.name);rw[d,c,i,(h x (wh _ f) d).1]
    rw[<-e];exact wa.2 ⟨x,f,rfl⟩
   have p:dr L g=1:=by unfold dr;rw[A9a c]
   rw[n,p,j,xG c,CR];simp[I7]
  ·have d:bB L g=dr L g:=by unfold bB;rw[O3 c]
   rw[d,A9i c,C3,GU]
theorem Wn4:ZF L=cp (4*ew (bB L) (vS L)+2*gC (cX L) (vS L)+1):=by
 have h:=Wn3 Q u N;have d:=CD L;have k:=Qwe Q u N (((jS L).2.1.length+1)*((jS L).1.length+1)) (vS L) d.nd (λg b f=>by
  have c:=Wjp b f;refine⟨c,?_⟩;unfold bB;rw[A9a f,Qwc,d.eq g b];have e:cH g=(1,[]):=by show(g.kind,g.name)=_;rw[f,c]
  rw[e];rfl)
 have i:((vS L).any λg=>decide (g.kind=1))=(kf L L qn).types:=by
  rw[h.ft];rw[Bool.eq_iff_iff,OV,OV];constructor
  ·rintro⟨g,b,f⟩;have⟨a,c,e⟩:=d.ne g b;refine⟨a,c,?_⟩;have:a.kind=g.kind:=A9e Prod.fst e;rw[this];exact f
  ·rintro⟨a,c,f⟩;have⟨g,b,e⟩:=wa.1 (d.te a c);refine⟨g,b,?_⟩;have:g.kind=a.kind:=A9e Prod.fst e;rw[this];exact f
 rw[i]at k;unfold ZF kK;have n:td (kf L L qn)=cp (ew (bB L) (vS L)):=by
  unfold td;rw[h.fl,h.fn,h.fp,k];cases t:(kf L L qn).types with
  |true=>
   simp only[A9c];have j:(((jS L).1.length+1:Nat):Int)=cp ((jS L).1.length+1)/\(((jS L).2.1.length+1:Nat):Int)=cp ((jS L).2.1.length+1):=by
    have e:∀(l:wD) (c:aO×aO×Nat),(l.foldl (λc a=>iL a c) c).1.length<=c.1.length+l.length/\(l.foldl (λc a=>iL a c) c).2.1.length<=c.2.1.length+l.length:=λl=>by
     induction l with
     |nil=>intro c;exact⟨vE _,vE _⟩
     |cons a r o=>intro c;have m:=Qyc a c;have p:=o (iL a c);rw[Uk,vT];omega
    have m:=e (L.filter λa=>decide (cm a=(1,[]))) ([],[],0);have p:=JH (λa=>decide (cm a=(1,[]))) L;have v:(jS L).1.length<=100/\(jS L).2.1.length<=100:=by unfold jS;simp only[xJ,xr]at m;omega
    rw[U_ Y,U_ Y];exact⟨rfl,rfl⟩
   rw[j.1,j.2,L0,L0,I7 ((jS L).1.length+1)]
  |false=>simp only[vD,A9d,I9]
 rw[n,h.fs];have q:(4:Int)=cp 4:=by decide
 have s:(2:Int)=cp 2:=by decide
 have j:(1:Int)=cp 1:=by decide
 rw[q,s,j,L0,L0,Xu,Xu]
theorem Wjr:∀(l:xe) (f:bH->Nat) (g:bH),g∈l->f g<=gC f l
 |x::r,f,g,h=>by
  show _<=f x+gC f r;rcases vZ.1 h with rfl|h
  ·omega
  ·have:=Wjr r f g h;omega
theorem Wjs:∀(l:xe) (f:bH->Nat) (g:bH),(∀x∈l,1<=f x)->g∈l->f g<=ew f l/\1<=ew f l
 |x::r,f,g,b,h=>by
  have d:=b x (wA ..);have a:1<=ew f r:=by
   have:∀r:xe,(∀x∈r,1<=f x)->1<=ew f r:=λr=>by
    induction r with
    |nil=>intro _;exact vE _
    |cons y r e=>intro h;exact JO (h y (wA ..)) (e λz i=>h z (wh _ i))
   exact this r λy c=>b y (wh _ c)
  refine⟨?_,JO d a⟩;rcases vZ.1 h with rfl|h
  ·exact BG _ a
  ·have:=(Wjs r f g (λy c=>b y (wh _ c)) h).1;exact zr this (OT _ d)
theorem Wb9:∀(l:List wZ) (c:wZ),c∈l->hL c<=gP l
 |x::r,c,h=>by
  show _<=hL x+gP r;rcases vZ.1 h with rfl|h
  ·omega
  ·have:=Wb9 r c h;omega
theorem Qn(n:∀a∈L,a.text.length<=6)(q:ZF L<=200000):(∀g∈vS L,eu L g)/\Qh4 L (vS L)<=1000000/\dn L<=ZF L:=by
 have s:=Wn4 Q u N;have A:4*ew (bB L) (vS L)+2*gC (cX L) (vS L)+1<=200000:=by rw[s]at q;unfold cp at q;omega
 have m:∀g∈vS L,bB L g<=50000:=λg d=>by have:=(Wjs Q u N (vS L) (bB L) g (λx _=>Wb8 x) d).1;omega
 have t:∀g∈vS L,eu L g:=λg d=>by
  have B:=m g d;have l:=Qyu d;refine⟨λk => ?_,λk => ?_,λk p w => ?_⟩
  ·unfold fg at l;rw[A9a k]at l;omega
  ·unfold fg at l;rw[O3 Y,A9a k]at l;omega
  ·have o:=Qi6 d k;have b:p.conds∈j9 L g.name:=by rw[<-o];exact wa.2 ⟨p,w,rfl⟩
   have r:cX L g<=gC (cX L) (vS L):=Wjr Q u N _ _ _ d;have y:hL p.conds<=cX L g:=by unfold cX;rw[A9a k];exact Wb9 Q u N _ _ b
   have f:∀c∈p.conds,∃a∈L,c=cC a:=λc h=>by
    rw[Qto]at b;rcases xf.1 b with i|i
    ·have⟨z,_,e⟩:=wa.1 i;rw[<-e]at h;obtain⟨a,j,rfl⟩:=wa.1 h;exact⟨a,(I4.1 j).1,rfl⟩
    ·rw[(List.mem_replicate.1 i).2]at h;obtain⟨a,j,rfl⟩:=wa.1 h;exact⟨a,(I4.1 j).1,rfl⟩
   have v:p.conds.length<=L.length:=by
    rw[Qto]at b;rcases xf.1 b with i|i
    ·have⟨z,_,e⟩:=wa.1 i;rw[<-e];unfold BR;rw[wq];exact JH ..
    ·rw[(List.mem_replicate.1 i).2];unfold L9;rw[wq];exact JH ..
   refine qt p.conds Y (λc h => ?_) (λc h => ?_) Y
   ·obtain⟨a,j,rfl⟩:=f c h;exact N a j
   ·obtain⟨a,j,rfl⟩:=f c h;have:=n a j;show a.text.length<=8;omega
 refine⟨t,?_,?_⟩
 ·have b:∀l:xe,(∀g∈l,g∈vS L)->Qh4 L l<=ew (bB L) l:=λl=>by
   induction l with
   |nil=>intro _;exact vE _
   |cons g r c=>intro h;exact QA (Qyu (h g (wA ..))) (c λx e=>h x (wh _ e))
  have:=b (vS L) λg h=>h;omega
 ·have i:=Wuq t;rw[s,U_ Y];omega
end
theorem Wt{L:wD}{B:Int}:∀(r:xe) (a:wx) (m:MK) (o:wx) (b:MK) (K:Nat),eM L B r a m=(W o,b)->(∀g∈r,eu L g/\g.atoms.length<=20)->(∀x∈a,gM K x)->∀x∈o,gM (K+50*r.length) x
 |[],a,m,o,b,K,h,d,c=>by have:(W a,m)=(W o,b):=h;cases this;exact c
 |g::r,a,m,o,b,K,h,f,i=>by
  have⟨j,k⟩:=f g (wA ..);have c:=Qma (B:=B) j k m;have d:=Wb (B:=B) (m:=(xH L B g m).2) i c.1;unfold eM at h;split at h
  ·cases h
  ·have l:=Wt r _ _ o b (K+50) h (λx e=>f x (wh _ e)) d.1;intro x e;have:=l x e;rw[vT];exact this.le Y
def Wur{L:wD}(i:L.length<=20)(e:∀g∈vS L,eu L g):∀x∈dX L,gM 1100 x:=by
 have c:=(ZH L e (dn L)).1 (GY _);have b:=Nr L;unfold Qgm at c;split at c
 ·have:=Wt (vS L) [gN] _ _ _ 0 c (λg f=>⟨e g f,by have:=(b.1 g f).2;omega⟩) (λx d=>by rw[vR.1 d];exact⟨by simp[gN],by simp[gN],λa h=>by cases h⟩)
  intro x d;exact(this x d).le (by have:=b.2;omega)
 ·cases c
def aS:bq:=⟨1,false,[],[97],0,[],false⟩
def Wjt:(∀g∈vS [aS],eu [aS] g)/\Qh4 [aS] (vS [aS])<=1000000/\dn [aS]<=ZF [aS]:=by
 refine Qn (by decide) (λa b => ?_) (λa b => ?_) (λa b => ?_) (pM X0K)
 all_goals rw[vR.1 b]
 ·kernel_rfl
 ·exact⟨X0K,by decide⟩
 ·decide
def Wn5:∃K:V×hN->Ro,(∀M:ah,z_ M []=bd (M.call 8 [ae af (.row [aS]),iI 1000] []) K)/\(K (hZ [aS] (Qgm [aS] 1000),[])).bind (u1 [])=W (.bool true,[]):=
 ⟨_,λM=>rfl,X0K⟩
def Wju:E cy 4 [] I=W (.bool true,I):=by refine v_ X0K X0K ?_ rfl I;obtain⟨c,d,_⟩:=Wjt;have h:=Qpp (.row [aS]) 1000 (by decide) (λa b=>by rw[vR.1 b];exact⟨by decide,by decide,by decide⟩) Y c d Y (λa b=>by rw[vR.1 b];kernel_rfl) [];obtain⟨K,e,f⟩:=Wn5;rw[QdJ,e,show QaU.call 8 [ae af (.row [aS]),iI 1000] []=_ from h];exact f
def X7:E cy 9 [cR X] I=W (iI X,I):=by
 have a:cy.cO 9=some R1:=by show TL 9=W R1;unfold TL;rw[O3 (by decide)];exact Wq2
 rw[RN a];rfl
def sM:E cy 10 [cR X] I=W (iI 0,I):=by
 have a:cy.cO 10=some q6:=by show TL 10=W q6;unfold TL;rw[O3 (by decide)];rfl
 rw[RN a];rfl
theorem OE(ls:List (List Bool×Ne))(j:ls.length<=1000000000000)(f:∀x∈ls,gM 1100 x.2/\x.1.length<=1000):∀(r q:List (List Bool×Ne)),ls=q++r->
  QdP QaU 0 0 [ae dB (ak ls),ae dB (ak ls),iI ls.length,iI q.length] []=W (.bool true,[])
 |[],q,a=>by
  have b:¬(q.length:Int)<ls.length:=by rw[a];simp
  rw[zD];simp -implicitDefEqProofs(disch:=try exact wK)only[go_sem,nf,b]
 |x::r,q,c=>by
  have g:ls.length=q.length+r.length+1:=by rw[c];simp;omega
  have k:(q.length:Int)<ls.length:=by omega
  have⟨h,u⟩:=f x (by rw[c];simp);have i:=OE ls j f r (q++[x]) (by rw[c];simp);rw[show((q++[x]).length:Int)=q.length+1 by simp]at i;have l:eI 8 (iI q.length) (ae dB (ak ls))=W (.ai (ke x.1 x.2) 0):=KZ (by rw[CL];exact c) rfl rfl;have m:Ev.part T 1 (ke x.1 x.2) 0=W (.sl (x.1.map Bv) .no):=rfl;have o:Ev.part true 7 (ke x.1 x.2) 1=W (ar x.2):=by rw[Ai (by show 1+7<=8;omega)];show W (V.agg (((aC x.2).take 7).map V.ng))=_;rw[JF (by rw[TC];omega),Gn]
  have d:=λI=>Gq (Wsd (.row x.1) (.row x.1) rfl (by show x.1.length<=_;omega) I);have a:∀I,E cy 11 [.sl (x.1.map Bv) .no,.sl (x.1.map Bv) .no] I=W (.bool true,I):=d;have e:=λI=>Gq (Wdb x.2.nd (by show(ak x.2.attrs).l.length<=_/\(ak x.2.an).l.length<=_;rw[CL,CL];have:=h.1;have:=h.2.1;omega) I)
  have p:(ae dB (ak ls)).ng=ae dB (ak ls):=vz;have s:(V.sl (x.1.map Bv) .no).ng=.sl (x.1.map Bv) .no:=rfl;have t:(ar x.2).ng=ar x.2:=rfl;have f1 n I:fz n I fzD (ae dB (ak ls))=W (ae dB (ak ls)):=vC (vw λy _=>Qf y);have b:∀I,E cy 12 [ar x.2,ar x.2] I=W (.bool true,I):=e;rw[zD];generalize ke x.1 x.2=z,ar x.2=NV,V.sl (x.1.map Bv) .no=w,ae dB (ak ls)=v at*;simp -implicitDefEqProofs(disch:=try exact wK)only[go_sem,nf,k,p,l,m,o,s,t,a,b,f1,i]
def TZ(s:Sl bq)(L:s.l.length<=1000000000000000)(B:Int)(Q:-9223372036854775808<=B)(P:B<9223372036854775808):E cy 3 [ae af s,iI B] []=W (.bool true,[]):=by
 have i:=λI=>Wju I;have d:=λI=>Gq (Wjd s L I);have J:(ae af s).ng=ae af s:=vz;rw[QdI];cases p:Wbx s.l with
 |true=>rw[p]at d;simp -implicitDefEqProofs(disch:=try exact wK)only[go_sem,pK,J,i,d]
 |false=>
  rw[p]at d;unfold Wbx at p;simp only[Ud,decide_eq_false_iff_not,Bool.and_eq_false_iff]at p;obtain⟨C,L,K⟩:=p;have t:∀a∈s.l,eO a=T:=λa q=>by
   cases b:eO a with
   |false=>rfl
   |true=>rw[List.any_eq_false]at C;exact absurd b (C a q)
  have M:∀a∈s.l,jh a:=λa q=>by have:=Xs (t a q);exact⟨by omega,by omega,by omega⟩
  have u:=λI=>Gq (Ov s Y M I);by_cases c:dq s.l 0<0
  ·have e:=OO s.l 0 c;have z:∀a∈s.l,VT a.text/\a.text.length<=200:=λa q=>⟨Oy (e a q),by have:=Xs (t a q);omega⟩
   have A:=λI=>Gq (Wi s Y M e z (Qym s.l 0 c) I);have v:ZF s.l<=200000:=by
    rcases K with K|K
    ·exact absurd c K
    ·omega
   have⟨j,C,K⟩:=Qn (L:=s.l) Y e z (λa q=>by have:=Xs (t a q);omega) v;have a:1<=dn s.l:=by have:=Qtn (vS s.l) [gN] j;unfold dn;omega
   have k:=λI=>Qpp s (ZF s.l) Y M Y j C Y e I;have f:=λI=>Qpp s B Y M Q j C P e I;have Q:=(ZH s.l j (ZF s.l)).1 K;rw[Q]at k;have R:=Wur (L:=s.l) Y j;have D:hZ s.l (W (dX s.l),(dn s.l,T))=.aR [ae dB (ak ((dX s.l).map (dP s.l))),iI (dn s.l),.bc]:=rfl;rw[D]at k;have nL:(ae dB (ak ((dX s.l).map (dP s.l)))).ng=ae dB (ak ((dX s.l).map (dP s.l))):=vz;have mL:(ae dB (ak ((dX s.l).map (dP s.l)))).aI=ae dB (ak ((dX s.l).map (dP s.l))):=by cases(dX s.l).map (dP s.l)<;>rfl
   have lL:Qai (ae dB (ak ((dX s.l).map (dP s.l))))=W (iI ((dX s.l).map (dP s.l)).length):=by rw[ON,CL]
   have F:¬ZF s.l<dn s.l:=by omega
   have S:=c;by_cases a:dn s.l<=B
   ·rw[(ZH s.l j B).1 a,D]at f;have w:((dX s.l).map (dP s.l)).length<=1000000000000:=by
     have l:=(ZH s.l j (dn s.l)).1 (GY _);unfold Qgm at l;split at l
     ·have U:∀(r:xe) (b:wx) (m:MK) (o:wx) (G:MK),eM s.l (dn s.l) r b m=(W o,G)->(∀g∈r,eu s.l g/\g.atoms.length<=20)->o.length<=b.length*Qh4 s.l r:=λr=>by
       induction r with
       |nil=>intro b m o G h _;have:(W b,m)=(W o,G):=h;cases this;show b.length<=b.length*1;omega
       |cons g r ih=>
        intro b m o G h hr;have⟨a,c⟩:=hr g (wA ..);have V:=Qma (B:=dn s.l) a c m;have X:((AL (dn s.l) b ((xH s.l (dn s.l) g m).1.getD []) [] (xH s.l (dn s.l) g m).2).1.getD []).length<=b.length*((xH s.l (dn s.l) g m).1.getD []).length:=by
         cases hq:AL (dn s.l) b ((xH s.l (dn s.l) g m).1.getD []) [] (xH s.l (dn s.l) g m).2 with
         |mk O pm=>
          cases O with
          |none=>exact wV _
          |some O=>have:=MR b [] _ O pm hq;show O.length<=_;rw[this];simp
        unfold eM at h;split at h
        ·cases h
        ·have O:=ih _ _ o G h λx n=>hr x (wh _ n);refine zr O ?_;show _<=b.length*(fg s.l g*Qh4 s.l r);rw[<-GU];exact DY _ (zr X (Hi _ V.2))
      have a:=Nr s.l;have:=U (vS s.l) [gN] _ _ _ l (λg p=>⟨j g p,by have:=(a.1 g p).2;omega⟩);rw[wq];simp at this;omega
     ·cases l
    have a0:=OE ((dX s.l).map (dP s.l)) w (λx n=>by obtain⟨y,b,rfl⟩:=wa.1 n;refine⟨R y b,?_⟩;show(cb s.l y).length<=_;unfold cb;rw[wq];omega) ((dX s.l).map (dP s.l)) [] rfl
    have H:QdP QaU 0 0 [ae dB (ak ((dX s.l).map (dP s.l))),ae dB (ak ((dX s.l).map (dP s.l))),iI ((dX s.l).map (dP s.l)).length,iI 0] []=W (.bool true,[]):=a0;have mm:qC true [iI B,iI 0]=W (iI B):=by rw[ue,O3 Y]
    have a1:¬B<dn s.l:=by omega
    have f1 n I:fz n I fzD (ae dB (ak ((dX s.l).map (dP s.l))))=W (ae dB (ak ((dX s.l).map (dP s.l)))):=vC (vw λy _=>Qf y);generalize ae af s=SV,dq s.l 0=BD,ZF s.l=BI,dn s.l=N,((dX s.l).map (dP s.l)).length=LN,ae dB (ak ((dX s.l).map (dP s.l)))=LV at*;have a:¬ 0<=BD:=by omega
    simp -implicitDefEqProofs(disch:=try exact wK)only[go_sem,pK,J,i,d,u,a,A,k,f,mL,nL,lL,F,mm,a1,f1,H]
   ·rw[(ZH s.l j B).2 Y]at f;have g:hZ s.l (none,(max B 0,true))=.aR [.ad,iI (max B 0),cR 21]:=rfl;rw[g]at f;have r:qC true [iI B,iI 0]=W (iI (max B 0)):=by
     rw[ue];have:(if(0:Int)>B then 0 else B)=max B 0:=by split<;>omega
     rw[this]
    have h:B<dn s.l:=by omega
    have l:B<ZF s.l:=by omega
    have m:=λI=>X7 21 I;have n:=λI=>sM 21 I;have x:(cR 21).ng=cR 21:=rfl;have y:(cR 21).aI=cR 21:=rfl;have o:eB .neq .bE (cR 21) .bc=W (.bool true):=rfl;generalize max B 0=U,cR 21=O,ae af s=H,dq s.l 0=w,ZF s.l=BI,dn s.l=N,ae dB (ak ((dX s.l).map (dP s.l)))=G at*;have b:¬ 0<=w:=by omega
    simp -implicitDefEqProofs(disch:=try exact wK)only[go_sem,pK,J,i,d,u,b,A,k,f,mL,nL,F,r,y,x,o,m,n,h,l]
  ·have b:0<=dq s.l 0:=by omega
   generalize ae af s=f,dq s.l 0=e at*;simp -implicitDefEqProofs(disch:=try exact wK)only[go_sem,pK,J,i,d,u,b]
section
open Go.Shelf
def Qyv:Go.Shelf.Ren:=⟨λ| 144=>70 | 143=>93 | 219=>104 | 217=>103 | 225=>118 | 224=>119 | 267=>120 | 266=>117 | 314=>132|n=>n,λ| 9=>9 | 4=>4 | 3=>3 | 5=>5 | 46=>177 | 146=>212 | 51=>211|n=>n,λ| 1=>4|n=>n⟩
def Wut:Go.Proofs.Lays.n144 prog Qyv:={
 mixed:=X0K
 f143:=func93.trans (A9e W X0K)
 f144:=func70.trans (A9e W X0K)
 f217:=func103.trans (A9e W X0K)
 f219:=func104.trans (A9e W X0K)
 f224:=func119.trans (A9e W X0K)
 f225:=func118.trans (A9e W X0K)
 f266:=func117.trans (A9e W X0K)
 f267:=func120.trans (A9e W X0K)
 f314:=func132.trans (A9e W X0K)
 t3:=Tryz.underlying3
 a3:=Tryz.isAgg3
 z3:=Tryz.sizeOf3
 v3:=Tryz.zeroValue3
 t4:=Tryz.underlying4
 a4:=Tryz.isAgg4
 z4:=Tryz.sizeOf4
 v4:=Tryz.zeroValue4
 t5:=Tryz.underlying5
 a5:=Tryz.isAgg5
 z5:=Tryz.sizeOf5
 v5:=Tryz.zeroValue5
 t9:=Tryz.underlying9
 a9:=Tryz.isAgg9
 z9:=Tryz.sizeOf9
 v9:=Tryz.zeroValue9
 t46:=Tryz.underlying177
 a46:=Tryz.isAgg177
 z46:=Tryz.sizeOf177
 v46:=Tryz.zeroValue177
 t51:=Tryz.underlying211
 a51:=Tryz.isAgg211
 z51:=Tryz.sizeOf211
 v51:=Tryz.zeroValue211
 t146:=Tryz.underlying212
 a146:=Tryz.isAgg212
 z146:=Tryz.sizeOf212
 v146:=Tryz.zeroValue212
 g1:=by kernel_rfl}
open Go.RowKit Go.Lib in
theorem strings_Contains(s a:ByteArray)(m:Int)(w:World)(b:s.size<4294967281)(c:w.cell? ⟨4,0,none⟩=some (.int .i64 m)):
  Calls prog 70 #[.string s,.string a] w λe w'=>e=.returned (.bool (Lib.contains s.data.toList a.data.toList))/\w'=w:=Any.strings_Contains Wut s a m w b c
def Qyw:Go.Shelf.Ren:=⟨λ| 189=>113 | 125=>127 | 257=>126 | 128=>144 | 129=>145 | 294=>135 | 295=>136 | 296=>137 | 297=>138 | 298=>139 | 299=>140 | 216=>141 | 300=>142 | 301=>143 | 328=>152 | 329=>153 | 330=>154 | 331=>155 | 332=>156 | 215=>157 | 343=>161|n=>n,λ| 28=>60 | 3=>3 | 46=>177 | 0=>0 | 51=>211 | 53=>202 | 4=>4 | 183=>218 | 182=>217 | 131=>223 | 5=>5 | 9=>9 | 218=>232 | 222=>236 | 228=>240 | 229=>49|n=>n,λn=>n⟩
def Wuu:Go.Proofs.Lays.n189 prog Qyw:={
 mixed:=X0K
 f125:=func127.trans (A9e W X0K)
 f128:=func144.trans (A9e W X0K)
 f129:=func145.trans (A9e W X0K)
 f189:=func113.trans (A9e W X0K)
 f215:=func157.trans (A9e W X0K)
 f216:=func141.trans (A9e W X0K)
 f257:=func126.trans (A9e W X0K)
 f294:=func135.trans (A9e W X0K)
 f295:=func136.trans (A9e W X0K)
 f296:=func137.trans (A9e W X0K)
 f297:=func138.trans (A9e W X0K)
 f298:=func139.trans (A9e W X0K)
 f299:=func140.trans (A9e W X0K)
 f300:=func142.trans (A9e W X0K)
 f301:=func143.trans (A9e W X0K)
 f328:=func152.trans (A9e W X0K)
 f329:=func153.trans (A9e W X0K)
 f330:=func154.trans (A9e W X0K)
 f331:=func155.trans (A9e W X0K)
 f332:=func156.trans (A9e W X0K)
 f343:=func161.trans (A9e W X0K)
 t0:=Tryz.underlying0
 a0:=Tryz.isAgg0
 z0:=Tryz.sizeOf0
 v0:=Tryz.zeroValue0
 t3:=Tryz.underlying3
 a3:=Tryz.isAgg3
 z3:=Tryz.sizeOf3
 v3:=Tryz.zeroValue3
 t4:=Tryz.underlying4
 a4:=Tryz.isAgg4
 z4:=Tryz.sizeOf4
 v4:=Tryz.zeroValue4
 t5:=Tryz.underlying5
 a5:=Tryz.isAgg5
 z5:=Tryz.sizeOf5
 v5:=Tryz.zeroValue5
 t9:=Tryz.underlying9
 a9:=Tryz.isAgg9
 z9:=Tryz.sizeOf9
 v9:=Tryz.zeroValue9
 t28:=Tryz.underlying60
 a28:=Tryz.isAgg60
 z28:=Tryz.sizeOf60
 v28:=Tryz.zeroValue60
 t46:=Tryz.underlying177
 a46:=Tryz.isAgg177
 z46:=Tryz.sizeOf177
 v46:=Tryz.zeroValue177
 t51:=Tryz.underlying211
 a51:=Tryz.isAgg211
 z51:=Tryz.sizeOf211
 v51:=Tryz.zeroValue211
 t53:=Tryz.underlying202
 a53:=Tryz.isAgg202
 z53:=Tryz.sizeOf202
 v53:=Tryz.zeroValue202
 t131:=Tryz.underlying223
 a131:=Tryz.isAgg223
 z131:=Tryz.sizeOf223
 v131:=Tryz.zeroValue223
 t182:=Tryz.underlying217
 a182:=Tryz.isAgg217
 z182:=Tryz.sizeOf217
 v182:=Tryz.zeroValue217
 t183:=Tryz.underlying218
 a183:=Tryz.isAgg218
 z183:=Tryz.sizeOf218
 v183:=Tryz.zeroValue218
 t218:=Tryz.underlying232
 a218:=Tryz.isAgg232
 z218:=Tryz.sizeOf232
 v218:=Tryz.zeroValue232
 t222:=Tryz.underlying236
 a222:=Tryz.isAgg236
 z222:=Tryz.sizeOf236
 v222:=Tryz.zeroValue236
 t228:=Tryz.underlying240
 a228:=Tryz.isAgg240
 z228:=Tryz.sizeOf240
 v228:=Tryz.zeroValue240
 t229:=Tryz.underlying49
 a229:=Tryz.isAgg49
 z229:=Tryz.sizeOf49
 v229:=Tryz.zeroValue49}
open Go.Sort Go.RowKit in
def slices_Sort_int(off cap:Nat)(b:u_)(w:World)(f:Holds (Value.int .i64) w i off b.toArray)(c:i<w.heap.size)(d:b.length<4611686018427387904):
  Calls prog 113 #[.slice (W ⟨i,off,none⟩) b.length cap] w λe w'=>e=.returned (.tuple #[])/\∃n os,w'=grow (putRow (Value.int .i64) (Sort.ahead w n) i off (b.mergeSort λx y=>decide (x<=y)).toArray) os:=Any.slices_Sort_int Wuu i off cap b w f c d
end
variable{k:vB}{l:V}{m A:World}{p:Value}{x:uZ}{F:vn}{G:bk}{K:Type}
section
open Go.RowKit
theorem qv(s:ByteArray)(c:Int)(w:World):(callFunc 117 #[.string s,.int .u8 c]).run prog w=.ok (.value (.int .i64 (Lib.indexByte s.data.toList c.toNat.toUInt8))) w:=by rw[run_callFunc_extern func117 X0K X0K (by rfl) (by rfl),Lib.run_indexByteString];rfl
theorem Wpz{c:Int}(d:0<=c/\c<=255):∀(s:u2) (i:Nat),ko c s i=if Lib.indexByte s c.toNat.toUInt8 = -1 then -1 else(i:Int)+Lib.indexByte s c.toNat.toUInt8
 |[],i=>rfl
 |b::s,i=>by
  have e:(b==c.toNat.toUInt8)=decide ((b.toNat:Int)=c):=by
   rw[Bool.eq_iff_iff,A9f,w4,<-UInt8.toNat_inj];have:c.toNat.toUInt8.toNat=c.toNat:=by simp[Nat.toUInt8];omega
   rw[this];omega
  have f:=Lib.indexByte_ge s c.toNat.toUInt8;unfold ko Lib.indexByte;rw[e,Wpz d s (i+1)];by_cases h:(b.toNat:Int)=c
  ·simp[h]
  ·simp only[h,decide_false,A9d,vD];by_cases a:Lib.indexByte s c.toNat.toUInt8 = -1
   ·simp[a]
   ·have g:(Lib.indexByte s c.toNat.toUInt8 == -1)=T:=by simpa using a
    rw[O3 a,g];simp only[vD,A9d];rw[O3 Y]
    push_cast;omega
def Wjv:bL prog S 117 mr:=by
 intro m I r z d M J X D w f h A;unfold mr at d;split at d
 ·rename_i s c;split at d
  ·rename_i p;simp only[vU,A9g]at d;obtain⟨rfl,rfl⟩:=d;obtain⟨g,i,n⟩:∃g i,f.toList=[g,i]:=by
    have q:=h.bC.1
    match B:f.toList,q with
    |[a,b],_=>exact⟨a,b,rfl⟩
   have j:f=#[g,i]:=by apply AU;simpa using n
   have k:=h.bC;rw[n]at k;obtain⟨t,rfl,l⟩:=k.head.bw;have u:=k.tail.head.ba;subst u;subst j;refine .inr ⟨_,w,qv t c w,M,J,?_⟩;rw[l];have e:=Wpz p s 0;have v:ko c s 0=Lib.indexByte s c.toNat.toUInt8:=by rw[e];split<;>simp_all
   rw[v];obtain⟨x,y⟩:=h.only (.int _ _) rfl;exact⟨x,⟨Ext.refl ..,Kp.same _ _ λo b C=>rfl⟩,y⟩
  ·cases d
 ·cases d
def S_(i:(4,0)∈S.sh):bL prog S 70 Wla:=by
 refine bL.gj λp I r A d => ?_;have f c w:(callFunc 70 c).run prog w=.ok (.enter 70 c) w:=ZR func70 rfl X0K c;unfold Wla at d;split at d
 ·rename_i s t;split at d
  ·rename_i B;cases d;refine⟨rfl,rfl,λM J X D w c h v=>⟨f _ _,.bool (Lib.contains s t),.bool _,?_⟩⟩;obtain⟨j,k,q⟩:∃j k,c.toList=[j,k]:=by
    have x:=h.bC.1
    match C:c.toList,x with
    |[a,b],_=>exact⟨a,b,rfl⟩
   have l:c=#[j,k]:=by apply AU;simpa using q
   have n:=h.bC;rw[q]at n;obtain⟨u,rfl,g⟩:=n.head.bw;obtain⟨t0,rfl,o⟩:=n.tail.head.bw;subst l;have⟨m,y⟩:=v.sh _ i;have z:u.size=s.length:=by rw[<-g];rfl
   refine(strings_Contains u t0 m w Y (h.wd.mem _ _ _ y)).mono ?_;rintro e E ⟨rfl,rfl⟩;rw[g,o];exact⟨rfl,.refl _ _⟩
  ·cases d
 ·cases d
theorem Wcb:∀ {cs:uZ} {a:u_},Mw cs=W a->cs=a.map (V.int .i64)
 |[],a,h=>by cases h;rfl
 |c::cs,a,h=>by
  unfold Mw at h;split at h
  ·cases ‹c::cs=[]›
  ·rename_i n r e;cases e;obtain⟨d,b,rfl⟩:=xB.1 h;rw[Wcb b];rfl
  ·cases h
def Eu(b:u_):aq F G (b.map (Value.int .i64)) (b.map (V.int .i64)):=by
 refine⟨u0,λi u c a d => ?_⟩;rw[ym]at a d;cases e:b[i]? with
 |none=>rw[e]at a;cases a
 |some z=>rw[e]at a d;cases a;cases d;exact .int _ _
def YJ{a:u_}(h:aq F G k (a.map (V.int .i64))):k=a.map (Value.int .i64):=by
 apply Hk;intro i;rw[ym];cases b:a[i]? with
 |none=>have:=h.1;rw[wq]at this;rw[B0 (by rw[this];exact List.getElem?_eq_none_iff.1 b)];rfl
 |some z=>obtain⟨u,c,d⟩:=h.get (by rw[ym,b];rfl);rw[c,d.ba];rfl
def DP(a:u_):(vg a).length=a.length:=by unfold vg;simp
def Ta:bL prog S 113 Wk9:=by
 intro a6 I r I' l M J X D w B h hG;have E B w:(callFunc 113 B).run prog w=.ok (.enter 113 B) w:=ZR func113 rfl X0K B;unfold Wk9 at l;split at l
 ·rename_i o a8;have⟨cs,N,l⟩:=vh.1 l;have⟨a,P,l⟩:=vh.1 l;split at l
  ·rename_i m;cases l;obtain⟨rfl,Q⟩:=m;obtain⟨R,G⟩:∃R,B.toList=[R]:=T8.1 (by simpa using h.bC.1);have U:B=#[R]:=by apply AU;simpa using G
   have hr:=h.bC;rw[G]at hr;obtain⟨b,u,rfl,p,a9⟩:=hr.head.eb;subst U;have g:=xz N;obtain rfl:=Wcb P;have⟨O,hO,a0⟩:=h.wd.obj o b p;rw[g]at hO;cases hO;obtain⟨C,T9,fz,L,t,F,hM,a7⟩:=a0;have q:=h.wd.dv o b p;rw[wq]at t F;have hw:=YJ t;have a1:a.length<=C.size:=by have:=t.1;simp at this;omega
   have s:∀j,j<a.length->C[j]?=W (.int .i64 a.toArray[j]!):=λj d=>by
    have k:(C.toList.take a.length)[j]?=(a.map (Value.int .i64))[j]?:=by rw[hw]
    rw[xP,A9a d,ym,vO d]at k;simp only[Hg]at k;rw[k,getElem!_pos a.toArray j (by simpa using d)];simp
   have hH:Sort.Holds (Value.int .i64) w b 0 a.toArray:=λj d=>by
    have k:j<a.length:=by simpa using d
    rw[xr];exact⟨(Hr L j).trans (s j k),(Qp8 L j).trans (F j k)⟩
   refine .inl ⟨E _ _,(slices_Sort_int b 0 u a w hH q Q).mono ?_⟩;rintro e w' ⟨rfl,n,os,rfl⟩;refine⟨.tuple #[],rfl,M,J,?_⟩;have f:=DP a;have⟨A,a2⟩:=h.setObj (off:=0) p g L (Eu (vg a)) (by simp[f]) (λc m=>by obtain⟨z,_,rfl⟩:=wa.1 m;rfl) (λc m v=>by obtain⟨z,_,rfl⟩:=wa.1 m;exact w7 v (.int .i64 z));have H:RK (a.map (V.int .i64)) 0 ((vg a).map (V.int .i64))=(vg a).map (V.int .i64):=by
    apply Hk;intro j;rw[Ph _ _ _ _ (by simp[f])];split
    ·rw[OY]
    ·rename_i d;rw[B0 (by simp;simp[f]at d;omega),B0 (by simp;simp[f]at d;omega)]
   rw[H]at A;have hB:Below (setRow w b (bA C 0 ((vg a).map (Value.int .i64))) T9 fz).heap.size (setRow w b (bA C 0 ((vg a).map (Value.int .i64))) T9 fz) (Sort.grow (Sort.putRow (Value.int .i64) (Sort.ahead w n) b 0 (a.mergeSort λx y=>decide (x<=y)).toArray) os):=by
    have K:(Sort.putRow (Value.int .i64) (Sort.ahead w n) b 0 (a.mergeSort λx y=>decide (x<=y)).toArray).heap.size=w.heap.size:=by simp[Sort.putRow,Sort.mapBlock,Sort.ahead]
    refine⟨rfl,rfl,rfl,?_,λk hk => ?_⟩
    ·rw[Go.Ev.setRow_size];show w.heap.size<=(_++os).size;rw[Uh,K];omega
    ·rw[Go.Ev.setRow_size]at hk;show(_++os)[k]?=_;rw[Array.getElem?_append_left (by rw[K];exact hk),Go.Ev.setRow_heap];simp only[Sort.putRow,Sort.mapBlock,Sort.ahead,Xf];split
     ·rename_i a3;subst a3;rw[L]
      try rw[A9a q]
      simp only[A0,Sort.onCells];congr 2;apply Array.ext_getElem?;intro j;rw[BH _ _ _ _ (by simp[f];exact a1)];simp only[Sort.putCells,Array.getElem?_mapIdx,wV,true_and,xr,Qw,List.length_mergeSort,wq,f,OY];by_cases d:j<a.length
      ·rw[A9a d,s j d];simp only[A0,A9a d];have u:j<(vg a).length:=by rw[f];exact d
       rw[ym,vO u,A0];congr 2;rw[getElem!_pos _ j (by simpa using d)];simp[vg]
      ·rw[O3 d];cases C[j]? with
       |none=>rfl
       |some u=>simp only[A0,O3 d]
     ·rfl
   have a:=A.below hB;have⟨D',a4⟩:=a.only (v:=.tuple #[]) (x:=.aR []) (.aR _ _ rfl (λi v c G m=>by cases m)) rfl;refine⟨D',⟨a2.trans (Ext.below A.wd.ef hB),?_⟩,a4⟩;refine(Kp.set h.wd p g (λc m=>by rw[Go.Ev.setRow_heap,O3 (Ne.symm m)]) (λi y hy a5 => ?_)).trans (.refl _) (Kp.same _ _ λc b a=>hB.block b (by rw[Go.Ev.setRow_size];exact h.wd.dv c b a));obtain⟨z,_,rfl⟩:=wa.1 (Ah hy);cases a5
  ·cases l
 ·cases l
def X8:∀f h,Mx f=W h->bL prog gv f h:=by
 intro f h a;unfold Mx at a;split at a
 ·rename_i e;cases a;subst e;exact Wjv _
 ·split at a
  ·rename_i e;cases a;subst e;exact S_ _ (vR.2 rfl)
  ·split at a
   ·rename_i e;cases a;subst e;exact Ta _
   ·split at a
    ·rename_i e;cases a;subst e;exact Qxd _ _
    ·split at a
     ·rename_i e;cases a;subst e;exact Wfq _ _
     ·cases a
def qw{l:List K}{x:K}(h:l[d]?=W x):l.take (d+1)=l.take d++[x]:=by rw[List.take_add_one,h];rfl
def Qyz(h:Below m.heap.size m A):m.grownBy A none:=⟨h.os,h.tape,h.output,h.size,λk a _=>h.block k a⟩
section
variable{M:vn}{J:bk}{q:Nat}{w:World}
def qx(M:vn)(q:Nat)(w:World):Prop:=∀b i u,M b i=some u->b<q/\w.cell? ⟨b,i,none⟩=some u
def UN(a:∀xs∈x,xs.cells.length=d):∀(i:Nat) (xs:V) (j:Nat),x[i]?=W xs->j<d->(x.flatMap V.cells)[i*d+j]?=xs.cells[j]?:=by
 induction x with
 |nil=>intro i xs j h;simp at h
 |cons y x b=>
  intro i xs j h c;have sz:=a y (wA ..);rw[AR];cases i with
  |zero=>simp at h;subst h;rw[AH Y];congr 1;omega
  |succ i=>
   have:(i+1)*d+j=d+(i*d+j):=by rw[GW];omega
   rw[DQ Y,this,sz,Nat.add_sub_cancel_left];exact b (λz e=>a z (wh _ e)) i xs j (by simpa using h) c
def YK(n:l=.ad\/∃xs c,l=.sl xs c)(h:aB M J p l)(o:qx M q w):
  ∃(xs:uZ) (a:Option Addr) (cap:Nat),p=.slice a xs.length cap/\(l=.ad/\xs=[]\/∃c,l=.sl xs c)/\
   ∀i e,xs[i]?=W e->∃b off,a=W ⟨b,off,none⟩/\∀j c,e.cells[j]?=W c->∃u,aB M J u c/\b<q/\w.cell? ⟨b,off+(i*e.cells.length+j),none⟩=some u:=by
 rcases n with rfl|⟨xs,c,rfl⟩
 ·cases h;exact⟨[],none,0,rfl,.inl ⟨rfl,rfl⟩,λi e d=>by cases d⟩
 ·rcases h.ea with ⟨b,off,cap,v,z,rfl,k,r,s,_,_⟩|⟨a,rfl,rfl,_⟩
  ·refine⟨xs,_,cap,rfl,.inr ⟨c,rfl⟩,λi e g=>⟨b,off,rfl,λj A x => ?_⟩⟩;have d:=k e (Ah g);have t:j<v:=by rw[<-d];exact(wy.1 x).1
   have m:=UN k i e j g t;rw[x]at m;have⟨u,y,f⟩:=r.get m;have:=o b _ u (s _ u y);rw[d];refine⟨u,f,this.1,?_⟩;rw[<-I6]at this ⊢;exact this.2
  ·exact⟨[],W a,0,rfl,.inr ⟨c,rfl⟩,λi e d=>by cases d⟩
end
end
variable{n U:TypeId}
section
open Go.RowKit Go.Shelf
attribute [local go_sem] Oper.semAt_some
structure AV where
 (k:Int) (h:Bool) (sp nm:ByteArray) (op:Int) (tx:ByteArray) (fd:Bool)
@[reducible] def AV.v(x:AV):Value:=.agg #[.int .i64 x.k,.bool x.h,.string x.sp,.string x.nm,.int .i64 x.op,.string x.tx,.bool x.fd]
def AV.cs(x:AV):vB:=[.int .i64 x.k,.bool x.h,.string x.sp,.string x.nm,.int .i64 x.op,.string x.tx,.bool x.fd]
structure NV where
 (p k:Int) (sp nm:ByteArray) (a:Option Addr) (al ac:Nat) (s:Option Addr) (sl sc:Nat) (tx:ByteArray)
@[reducible] def NV.v(x:NV):Value:=.agg #[.int .i64 x.p,.int .i64 x.k,.string x.sp,.string x.nm,.slice x.a x.al x.ac,.slice x.s x.sl x.sc,.string x.tx]
def jn(l:List Bool):u2:=l.map λt=>if t then 49 else 48
def WB:Prop:=∀(B b:Nat) (a:vB) (c:Int) (w:World),Lib.IsBuilder 157 5 B b a w->a.length+1<=140737488355328->B<=w.heap.size->
 Calls prog 96 #[.pointer (some ⟨b,0,none⟩),.int .u8 c] w λe d=>e=.returned .nilIface/\(Lib.BuilderAt 157 5 B b (.pointer (some ⟨b,0,none⟩)) (a++[.int .u8 c]) d/\Below B w d)
def WS:Prop:=∀(B b:Nat) (l:u2) (w:World),Lib.IsBuilder 157 5 B b (Lib.byteCells l) w->B<=w.heap.size->
 Calls prog 97 #[.pointer (some ⟨b,0,none⟩)] w λe a=>e=.returned (.string ⟨l.toArray⟩)/\Below B w a
def Wuv{l:List Bool}{t:Bool}(h:l[d]?=W t):Lib.byteCells (jn (l.take (d+1)))=Lib.byteCells (jn (l.take d))++[.int .u8 (if t then 49 else 48)]:=by rw[qw h];unfold jn Lib.byteCells;rw[yW,yW];cases t<;>rfl
def Wcc{b:Nat}(h:Lib.BuilderAt n U d b p k m)(g:Below m.heap.size m A):Lib.BuilderAt n U d b p k A:=by have c:=h.lt;obtain⟨i,v,w,a,f⟩:=h;exact⟨i,v,(g.block b c).trans w,a.kept (Qyz g) (Classical.em _),f⟩
def Wn6{b:Nat}(h:Lib.IsBuilder n U d b k m)(a:Below m.heap.size m.drew A):Lib.IsBuilder n U d b k A:=by
 rcases h with h|h
 ·exact .inl (Wcc h.drew a)
 ·exact .inr (Wcc h.drew a)
def YP(C:WB)(V:WS)(w:World)(X vo:Nat)(n:NV)(a:Option Addr)(al ac:Nat)(za:Option Addr)(zc:Nat)(q:u_)(bits:List Bool)(hm:w.cell? ⟨X,vo,none⟩=some (.slice a al ac))(a0:X<w.heap.size)(hl:q.length<=1000)(a1:bits.length=q.length)(a9:(al:Int)<=9223372036854775807)(hz:∀(i:Nat) z,q[i]?=some z->∃b off,za=some ⟨b,off,none⟩/\b<w.heap.size/\w.cell? ⟨b,off+i,none⟩=some (.int .i64 z))(ha:∀(i:Nat) z t,q[i]?=some z->bits[i]?=some t->∃(x:AV) (b off m:Nat),z=m/\m<al/\a=some ⟨b,off,none⟩/\b<w.heap.size/\(∀j u,x.cs[j]?=some u->w.cell? ⟨b,off+m*7+j,none⟩=some u)/\
   ∀c,Below w.heap.size w c->Calls prog 26 #[x.v,n.v] c λe w'=>e=.returned (.bool t)/\Below c.heap.size c w'):
  Calls prog 83 #[.pointer (some ⟨X,vo,none⟩),n.v,.slice za q.length zc] w λe w'=>e=.returned (.string ⟨(jn bits).toArray⟩)/\Below w.heap.size w w':=by
 refine(callsIn_wide (n:=10)).1 ?_;obtain⟨F,d⟩:∃F,F=Fence.wide:=⟨_,rfl⟩
 have a2:F.round=none:=by rw[d];rfl
 have hf:F.fn 83:=by rw[d];trivial
 have b0:F.fn 26:=by rw[d];trivial
 have b1:F.fn 96:=by rw[d];trivial
 have b3:F.fn 97:=by rw[d];trivial
 have b4:prog.follows .mixedOrders:=X0K;have s:∀(n f:Nat) (l:wk) (w:World) (R:Ending->World->Prop),Calls prog f l w R->CallsIn F n prog f l w R:=λn f l w R h=>by rw[d];exact callsIn_wide.2 h
 rw[<-d];clear d;refine callsIn_of_wp func83 rfl hf ?_ a2;obtain⟨I,J,K,L,M,N,O,P,Q,S,U⟩:=n;simp only[Tryz.ntmps83,Qw,vT,xJ,Nat.reduceAdd,Nat.reduceSub,Array.replicate_succ,Array.replicate_zero,List.push_toArray,List.append_toArray,xQ,AJ]
 gi_wp2
 gi_loopw [12] (λp v=>∃(i:Nat),p=.int .i64 i/\i<=q.length/\Lib.IsBuilder 157 5 (w.heap.size+1) (w.heap.size+1) (Lib.byteCells (jn (bits.take i))) v/\Below (w.heap.size+1) (w.alloc (.cells #[.int .i64 I,.int .i64 J,.string K,.string L,.slice M N O,.slice P Q S,.string U] 37)) v)
  (λp v=>q.length-(match p with | .int _ i=>i.toNat|_=>0))
 case atStart=>
  refine⟨0,rfl,by omega,?_,?_⟩
  ·have:=Lib.fresh_isBuilder 157 5 (w.alloc (.cells #[.int .i64 I,.int .i64 J,.string K,.string L,.slice M N O,.slice P Q S,.string U] 37));rw[World.size_alloc]at this;exact this
  ·exact(Below.refl _ _).alloc u0 _
 case round=>
  obtain⟨i,rfl,hi,hB,D⟩:=hrel;have E:w.heap.size+1<=wr.heap.size:=by have:=D.size;simpa using this
  have r:=((Below.refl _ w).alloc (vE _) _).trans (D.mono Y);have y:∀j u,(#[.int .i64 I,.int .i64 J,.string K,.string L,.slice M N O,.slice P Q S,.string U]:wk)[j]?=some u->wr.cell? ⟨w.heap.size,j,none⟩=some u:=by intro j u hj;rw[D.cell u0];have:=World.alloc_heap_new w (.cells #[.int .i64 I,.int .i64 J,.string K,.string L,.slice M N O,.slice P Q S,.string U] 37);unfold World.cell?;simp only[this];exact hj
  by_cases a3:i<q.length
  ·obtain⟨z,G⟩:∃z,q[i]?=some z:=⟨_,vO a3⟩
   obtain⟨t,H⟩:∃t,bits[i]?=some t:=⟨_,vO Y⟩
   obtain⟨zb,zo,rfl,a6,a7⟩:=hz i z G;obtain⟨x,ab,ao,m,rfl,b5,rfl,g,k,hH⟩:=ha i z t G H;obtain⟨x0,x1,x2,x3,x4,x5,x6⟩:=x;have k0:=y 0 _ rfl;have k1:=y 1 _ rfl;have k2:=y 2 _ rfl;have k3:=y 3 _ rfl;have k4:=y 4 _ rfl;have k5:=y 5 _ rfl;have k6:=y 6 _ rfl;have y0:=(r.cell g).trans (k 0 _ rfl);have y1:=(r.cell g).trans (k 1 _ rfl);have y2:=(r.cell g).trans (k 2 _ rfl);have y3:=(r.cell g).trans (k 3 _ rfl);have y4:=(r.cell g).trans (k 4 _ rfl);have y5:=(r.cell g).trans (k 5 _ rfl);have y6:=(r.cell g).trans (k 6 _ rfl);have b6:=(r.cell a6).trans a7;have mc:=(r.cell a0).trans hm;simp only[KY]at y0;have HH:=Lib.hid hH;have KW:=Lib.hid r;have HB:=Lib.hid hB;have HK:=Lib.hid D
   gi_wp2
   gi_region_with_o (gi_at_call 26;go_loud (refine(s _ _ _ _ _ (HH.out _ (by exact KW.out.drew))).mono ?_;rintro e w2 ⟨rfl,o⟩))
   all_goals
    have B2:=Wn6 HB.out o;have K2:=(HK.out.drew).trans (o.mono (by show w.heap.size+1<=wr.heap.size;exact E));have S2:w.heap.size+1<=w2.heap.size:=by have:=o.size;have h:wr.heap.size<=w2.heap.size:=this;omega
    have L2:(Lib.byteCells (jn (bits.take i))).length+1<=140737488355328:=by simp[Lib.byteCells,jn];omega
    have T2:=Wuv H;cases t
    ·gi_wp2_with (gi_at_call 96;refine(s _ _ _ _ _ (C _ _ _ _ _ B2 L2 S2)).mono ?_;rintro e w3 ⟨rfl,A,B⟩)
     go_roundw
     case rel=>exact⟨i+1,rfl,by omega,.inr (by rw[T2];exact A),K2.trans B⟩
     case measure=>simp;omega
    ·gi_wp2_with (gi_at_call 96;refine(s _ _ _ _ _ (C _ _ _ _ _ B2 L2 S2)).mono ?_;rintro e w3 ⟨rfl,A,B⟩)
     go_roundw
     case rel=>exact⟨i+1,rfl,by omega,.inr (by rw[T2];exact A),K2.trans B⟩
     case measure=>simp;omega
  ·have e:i=q.length:=by omega
   subst e;rw[<-a1,Hl]at hB
   gi_wp2_with (gi_at_call 97;refine(s _ _ _ _ _ (V _ _ _ _ hB E)).mono ?_;rintro e w' ⟨rfl,o⟩)
   go_ret
   exact⟨rfl,((Below.refl _ w).alloc (vE _) _).trans ((D.trans o).mono Y)⟩
end
section
open Go.Shelf Go.RowKit
def Wp0:Go.Shelf.Ren:=⟨λ| 167=>96 | 240=>106 | 276=>121|n=>n,λ| 0=>0 | 4=>4 | 5=>5 | 9=>9 | 20=>20 | 37=>75 | 70=>155 | 72=>157 | 75=>28 | 80=>159 | 164=>87|n=>n,λn=>n⟩
def Wuw:Go.Proofs.Lays.n167 prog Wp0:={
 mixed:=X0K
 f167:=func96.trans (A9e W X0K)
 f240:=func106.trans (A9e W X0K)
 f276:=func121.trans (A9e W X0K)
 t0:=Tryz.underlying0
 a0:=Tryz.isAgg0
 z0:=Tryz.sizeOf0
 v0:=Tryz.zeroValue0
 t4:=Tryz.underlying4
 a4:=Tryz.isAgg4
 z4:=Tryz.sizeOf4
 v4:=Tryz.zeroValue4
 t5:=Tryz.underlying5
 a5:=Tryz.isAgg5
 z5:=Tryz.sizeOf5
 v5:=Tryz.zeroValue5
 t9:=Tryz.underlying9
 a9:=Tryz.isAgg9
 z9:=Tryz.sizeOf9
 v9:=Tryz.zeroValue9
 t20:=Tryz.underlying20
 a20:=Tryz.isAgg20
 z20:=Tryz.sizeOf20
 v20:=Tryz.zeroValue20
 t37:=Tryz.underlying75
 a37:=Tryz.isAgg75
 z37:=Tryz.sizeOf75
 v37:=Tryz.zeroValue75
 t70:=Tryz.underlying155
 a70:=Tryz.isAgg155
 z70:=Tryz.sizeOf155
 v70:=Tryz.zeroValue155
 t72:=Tryz.underlying157
 a72:=Tryz.isAgg157
 z72:=Tryz.sizeOf157
 v72:=Tryz.zeroValue157
 t75:=Tryz.underlying28
 a75:=Tryz.isAgg28
 z75:=Tryz.sizeOf28
 v75:=Tryz.zeroValue28
 t164:=Tryz.underlying87
 a164:=Tryz.isAgg87
 z164:=Tryz.sizeOf87
 v164:=Tryz.zeroValue87}
def Wn7:Go.Proofs.Builder.Extra prog Wp0:={
 sizeBuilder:=X0K
 liesBuilder:=X0K
 t5:=Tryz.underlying5
 a5:=Tryz.isAgg5
 z5:=Tryz.sizeOf5
 v5:=Tryz.zeroValue5
 infoByte:=X0K
 cellsByte:=X0K
 sizeByte:=X0K
 neB5:=by decide}
def Wp1:Go.Shelf.Ren:=⟨λ| 169=>97|n=>n,λ| 0=>0 | 3=>3 | 5=>5 | 9=>9 | 37=>75 | 70=>155 | 72=>157 | 127=>178|n=>n,λn=>n⟩
def Wux:Go.Proofs.Lays.n169 prog Wp1:={
 mixed:=X0K
 f169:=func97.trans (A9e W X0K)
 t0:=Tryz.underlying0
 a0:=Tryz.isAgg0
 z0:=Tryz.sizeOf0
 v0:=Tryz.zeroValue0
 t3:=Tryz.underlying3
 a3:=Tryz.isAgg3
 z3:=Tryz.sizeOf3
 v3:=Tryz.zeroValue3
 t9:=Tryz.underlying9
 a9:=Tryz.isAgg9
 z9:=Tryz.sizeOf9
 v9:=Tryz.zeroValue9
 t37:=Tryz.underlying75
 a37:=Tryz.isAgg75
 z37:=Tryz.sizeOf75
 v37:=Tryz.zeroValue75
 t70:=Tryz.underlying155
 a70:=Tryz.isAgg155
 z70:=Tryz.sizeOf155
 v70:=Tryz.zeroValue155
 t72:=Tryz.underlying157
 a72:=Tryz.isAgg157
 z72:=Tryz.sizeOf157
 v72:=Tryz.zeroValue157
 t127:=Tryz.underlying178
 a127:=Tryz.isAgg178
 z127:=Tryz.sizeOf178
 v127:=Tryz.zeroValue178}
def Wn8:Go.Proofs.Builder.Extra prog Wp1:={
 sizeBuilder:=X0K
 liesBuilder:=X0K
 t5:=Tryz.underlying5
 a5:=Tryz.isAgg5
 z5:=Tryz.sizeOf5
 v5:=Tryz.zeroValue5
 infoByte:=X0K
 cellsByte:=X0K
 sizeByte:=X0K
 neB5:=by decide}
def wb:WB:=λB b a c w h d e=>Go.Proofs.Any.Builder_WriteByte Wuw Wn7 B b a c w h d e
def uI:WS:=λB b l w h a=>Go.Proofs.Any.Builder_String_any Wux Wn8 B b l w h a
end
section
open Go.RowKit
def Qy0{C0:Ctx}(d:∀f h,C0.cO f=W h->bL prog C0.G f h)(hF:∀f F,C0.code f=W F->zL prog f F){F0:Ev.Fn}(g:C0.code 26=W F0){n:V}{t:Bool}(i:E C0 26 [l,n] []=W (.bool t,[]))(a:World)(j:dJ C0.G (cI a) bO){u:Value}(y:aB (cI a) bO p l)(m:aB (cI a) bO u n)(o:l.ng=l)(v:n.ng=n):
  Calls prog 26 #[p,u] a λe w'=>e=.returned (.bool t)/\Below a.heap.size a w':=by
 have⟨k,b⟩:=ja i;exact gT X0K C0 d hF g a (.cons y (.cons m .nil)) (by intro x c;simp only[vZ,AS,R7]at c;rcases c with rfl|rfl<;>assumption) j b
theorem Wv{a:V->V->Option Bool}{k:uZ}{n:V}:∀ {l:uZ} {s:u2},WG a k n l=W s->
  ∃(c:u_) (bits:List Bool),l=c.map (V.int .i64)/\s=jn bits/\bits.length=c.length/\∀(i:Nat) z t,c[i]?=W z->bits[i]?=W t->0<=z/\∃y,k[z.toNat]?=W y/\qZ y/\a y n=W t
 |[],s,h=>by cases h;exact⟨[],[],rfl,rfl,rfl,λi z t b=>by cases b⟩
 |x::r,s,h=>by
  unfold WG at h;split at h
  ·cases ‹x::r=[]›
  ·rename_i i w e;cases e;split at h
   ·rename_i o;have⟨y,p,h⟩:=vh.1 h;split at h
    ·rename_i q;have⟨b,u,h⟩:=vh.1 h;have⟨A,d,h⟩:=xB.1 h;obtain⟨c,bits,rfl,rfl,v,m⟩:=Wv d;refine⟨i::c,b::bits,rfl,h.symm,by simp[v],λj z t f g => ?_⟩;cases j with
     |zero=>simp at f g;subst f g;exact⟨o,y,p,q,u⟩
     |succ j=>exact m j z t (by simpa using f) (by simpa using g)
    ·cases h
   ·cases h
  ·cases h
def Wcd(h:nC l=W x):(l=.ad/\x=[])\/∃c,l=.sl x c:=by
 unfold nC at h;split at h
 ·cases h;exact .inl ⟨rfl,rfl⟩
 ·cases h;exact .inr ⟨_,rfl⟩
 ·cases h
section
variable{M:vn}{J:bk}{w:World}
def Qwf(d:nz l)(h:aB M J p l):∃a x c,p=.slice a x c:=by
 unfold nz at d;split at d
 ·cases h;exact⟨_,_,_,rfl⟩
 ·rcases h.ea with ⟨b,e,f,g,i,rfl,_⟩|⟨a,rfl,rfl,_⟩<;>exact⟨_,_,_,rfl⟩
 ·cases d
def sN(v:qD l)(h:aB M J p l):∃x:NV,p=x.v:=by
 unfold qD at v;split at v
 ·rename_i n k C D a s E;simp only[vc]at v;cases h with
  |agg m h F G=>
   have j:aq M J m.toList [.int .i64 n,.int .i64 k,.str C,.str D,a,s,.str E]:=⟨by simpa using F,λi u c H I=>G i u c (by simpa using H) I⟩
   obtain⟨o,q,r,t,w,y,z,B⟩:∃o q r t w y z,m.toList=[o,q,r,t,w,y,z]:=by
    match h:m.toList,j.1 with
    |[a,b,c,d,e,f,g],_=>exact⟨a,b,c,d,e,f,g,rfl⟩
   have A:m=#[o,q,r,t,w,y,z]:=by apply AU;simpa using B
   rw[B]at j;have K:=j.2 0 _ _ rfl rfl;have L:=j.2 1 _ _ rfl rfl;obtain⟨N,rfl,_⟩:=(j.2 2 _ _ rfl rfl).bw;obtain⟨O,rfl,_⟩:=(j.2 3 _ _ rfl rfl).bw;obtain⟨P,Q,R,rfl⟩:=Qwf v.1 (j.2 4 _ _ rfl rfl);obtain⟨S,U,X,rfl⟩:=Qwf v.2 (j.2 5 _ _ rfl rfl);obtain⟨s6,rfl,_⟩:=(j.2 6 _ _ rfl rfl).bw;obtain rfl:=K.ba;obtain rfl:=L.ba;exact⟨⟨n,k,N,O,P,Q,R,S,U,X,s6⟩,by rw[A]⟩
 ·cases v
def sP{y:V}(f:qZ y)(L:qx M w.heap.size w){b off i:Nat}(e:∀j c,y.cells[j]?=W c->∃u,aB M J u c/\b<w.heap.size/\w.cell? ⟨b,off+(i*y.cells.length+j),none⟩=W u):
  ∃x:AV,b<w.heap.size/\(∀j u,x.cs[j]?=W u->w.cell? ⟨b,off+i*7+j,none⟩=W u)/\(∀a,aB (cI a) bO x.v y)/\y.ng=y:=by
 unfold qZ at f;split at f
 ·rename_i k h N O g P l;have⟨Q,m,n,o⟩:=e 0 _ rfl;have⟨R,p,_,q⟩:=e 1 _ rfl;have⟨S,r,_,s⟩:=e 2 _ rfl;have⟨U,t,_,v⟩:=e 3 _ rfl;have⟨X,z,_,A⟩:=e 4 _ rfl;have⟨b,r5,_,B⟩:=e 5 _ rfl;have⟨b,C,_,D⟩:=e 6 _ rfl;cases m.ba;cases p.cA;cases z.ba;cases C.cA;obtain⟨E,rfl,F⟩:=r.bw;obtain⟨G,rfl,H⟩:=t.bw;obtain⟨I,rfl,K⟩:=r5.bw;refine⟨⟨k,h,E,G,g,I,l⟩,n,?_,λa => ?_,rfl⟩
  ·intro j u d
   match j,d with
   |0,d=>cases d;exact o
   |1,d=>cases d;exact q
   |2,d=>cases d;exact s
   |3,d=>cases d;exact v
   |4,d=>cases d;exact A
   |5,d=>cases d;exact B
   |6,d=>cases d;exact D
   |j+7,d=>simp[AV.cs]at d
  ·exact aB.cc.2 (.cons (.int _ _) (.cons (.bool _) (.cons (.str _ _ F) (.cons (.str _ _ H) (.cons (.int _ _) (.cons (.str _ _ K) (.cons (.bool _) .nil)))))))
 ·cases f
end
def Wdu{C0:Ctx}{A:V->V->Option Bool}(hH:∀y n t,A y n=W t->E C0 26 [y,n] []=W (.bool t,[]))(hP:∀f h,C0.cO f=W h->bL prog C0.G f h)(hF:∀f F,C0.code f=W F->zL prog f F){F0:Ev.Fn}(U:C0.code 26=W F0):bL prog C0.G 83 (lQ A):=by
 refine bL.gj λs I r I' B => ?_;have C p w:(callFunc 83 p).run prog w=.ok (.enter 83 p) w:=ZR func83 rfl X0K p;unfold lQ at B;rw[xB]at B;obtain⟨P,g,B⟩:=B;cases B;unfold lP at g;split at g
 ·rename_i o j n z;have⟨cs,l,g⟩:=vh.1 g;have⟨a,ha,g⟩:=vh.1 g;have⟨ys,G,g⟩:=vh.1 g;have⟨zv,H,g⟩:=vh.1 g;split at g
  ·rename_i U;simp only[vc,A9f]at U;obtain⟨⟨⟨⟨f,c2⟩,c3⟩,c4⟩,r⟩:=U;have⟨s,hs,g⟩:=xB.1 g;subst g;obtain⟨K,bits,rfl,rfl,a0,hg⟩:=Wv hs;refine⟨rfl,rfl,λM J X D w p h hG=>⟨C _ _,.string ⟨(jn bits).toArray⟩,.str _ _ rfl,?_⟩⟩;have hl:=h.bC.1;obtain⟨P,R,v2,hv⟩:∃P R v2,p.toList=[P,R,v2]:=by
    match d:p.toList,hl with
    |[a,b,c],_=>exact⟨a,b,c,rfl⟩
   have a1:p=#[P,R,v2]:=by apply AU;simpa using hv
   have L:=h.bC;rw[hv]at L;subst a1;obtain⟨vb,rfl,N⟩:=L.head.cZ;obtain⟨x,rfl⟩:=sN c3 L.tail.head;have q:qx M w.heap.size w:=λb i u k=>⟨h.wd.lt k,h.wd.mem b i u k⟩
   obtain⟨a2,za,zc,rfl,a3,a4⟩:=YK (by rcases Wcd H with ⟨rfl,_⟩|⟨c,rfl⟩;exact .inl rfl;exact .inr ⟨_,_,rfl⟩) L.tail.tail.head q;obtain rfl:a2=K.map (V.int .i64):=by
    rcases Wcd H with ⟨rfl,e⟩|⟨c,rfl⟩<;>rcases a3 with ⟨m,e2⟩|⟨c',m⟩
    ·rw[e,e2]
    ·cases m
    ·cases m
    ·cases m;rfl
   have⟨O,hO,a5⟩:=h.wd.obj o vb N;have a6:O=.cells cs:=by unfold hN.get at l;rw[hO]at l;cases O<;>simp at l;rw[l]
   subst a6;obtain⟨a,p,fz,f,l,_⟩:=a5;have⟨u,a,a7⟩:=l.get ha;have P:=(wy.1 ha).1;rw[xP,A9a P]at a;have v:w.cell? ⟨vb,j,none⟩=some u:=by unfold World.cell?;simp only[f];simpa using a
   obtain⟨Q,aa,ac,rfl,a8,a9⟩:=YK (by rcases Wcd G with ⟨rfl,_⟩|⟨c,rfl⟩;exact .inl rfl;exact .inr ⟨_,_,rfl⟩) a7 q;obtain rfl:Q=ys:=by
    rcases Wcd G with ⟨rfl,e⟩|⟨c,rfl⟩<;>rcases a8 with ⟨m,e2⟩|⟨c',m⟩
    ·rw[e,e2]
    ·cases m
    ·cases m
    ·cases m;rfl
   have a:K.length<=1000:=by simpa using c4
   have R:(K.map (V.int .i64)).length=K.length:=u0;rw[R];refine YP wb uI w vb j x aa Q.length ac za zc K bits v (h.wd.dv o vb N) a a0 Y (λi z hz => ?_) (λi z t hz ht => ?_)
   ·have⟨b,j,e,S⟩:=a4 i (iI z) (by rw[ym,hz];rfl);have⟨u,a,k,d⟩:=S 0 _ rfl;obtain rfl:=a.ba;exact⟨b,j,e,k,by simpa[V.cells]using d⟩
   ·have⟨a,y,f,c,b0⟩:=hg i z t hz ht;have⟨b,j,e,h⟩:=a9 z.toNat y f;have⟨l,k,a,S,b1⟩:=sP c q h;refine⟨l,b,j,z.toNat,by omega,(wy.1 f).1,e,k,a,λd hW => ?_⟩;have hn:n.ng=n:=by
     unfold qD at c3;split at c3
     ·rfl
     ·cases c3
    exact Qy0 hP hF U (hH _ _ _ b0) d (hG.uz λb i u k=>(hW.cell (q b i u k).1).trans (q b i u k).2) (S d) (L.tail.head.rb ⟨λb i u k=>(hW.cell (q b i u k).1).trans (q b i u k).2⟩ (λo b a=>absurd a (Nat.not_lt_zero _)) c2) b1 hn
  ·cases g
 ·cases g
end
def Wuy:∀f h,cy.cO f=W h->bL prog cy.G f h:=by
 intro f h b;have a:TL f=some h:=b;unfold TL at a;split at a
 ·rename_i e;cases a;subst e;exact Wdu (C0:=cx) (λy n t h=>uf h) (λf h c=>X8 f h c) Wvn (F0:=Ek) X0K
 ·exact X8 f h a
variable{C:List MemPlace}
section
open Go.ChangeShapes Go.WideShapes Go.ChangeAt Go.RowKit
def Tryz.ownKnob:ownKnob prog.godebug=none:=X0K
def Tryz.laidOut:laidOutB prog:=X0K
section
variable{u:Type}{enc:TypeId×Value->u}{P:Program}
theorem Qq(g:laidOutB P){a i:World}{sp:Nat->Bool}:∀(ts:List TypeId) (vs:vB) (ds:List (DataW u)) (ps:List MemPlace),
  (∀t∈ts,P.readableRec t/\t<P.types.size)->DataW.TrodAll enc P a 0 (λ_=>true) true ts vs ds ps->(∀p∈ps,a.sameAt i p)->(∀p∈ps,sp p.block)->
  DataW.TrodAll enc P i 0 sp true ts vs ds ps
 |[],_,_,_,_,h,_,_=>by obtain⟨rfl,rfl,rfl⟩:=trodAll_nil h;exact trodAll_mk0
 |t::ts,_,_,_,j,h,k,l=>by
  obtain⟨v,e,d,f,p,q,rfl,rfl,rfl,m,n⟩:=trodAll_cons h;have c:=j t u0;exact trodAll_cons_mk (WideElems.Trod_stays g c.1 c.2 m (λx b=>k x (by simp[b])) (λx b=>l x (by simp[b])))
   (Qq g ts e f q (λt h=>j t (by simp[h])) n (λx b=>k x (by simp[b])) (λx b=>l x (by simp[b])))
def Wn9{f:Func}{s:ChangeSpec}{tb:TypeId}{args:wk}{ds:List (DataW u)}{c:List MemPlace}(a:laidOutB P)(B:∀t∈f.params.toList,P.readableRec t/\t<P.types.size)(r:DataW.Whole enc P f.params.toList s.vars T m args.toList ds [] c)(y:s.vars=[])(C:f.resultTypes=#[tb])(D:P.underlying tb=W .bool)(v:s.fn u ds = {results:=[.lit (.bool true)],args:=ds})(g:Below m.heap.size m A):s.post enc P f T true T T m args (.bool true) A:=by
 have i:∀p∈c,p.block<m.heap.size:=λp E=>r.lt p E;have w:=r;obtain⟨p,q,F,z,j,I,J⟩:=r;rw[y]at z;obtain⟨_,rfl⟩:=trodVars_none z;simp only[wt]at j;subst j;have d:s.fn u (ds++[]) = {results:=[.lit (.bool true)],args:=ds}:=by rw[wt];exact v
 have k:∀x∈c,(λb=>decide (b<m.heap.size)) x.block:=λx e=>by simpa using i x e
 have l:∀o:Nat->Bool,(∀x∈c,o x.block)->DataW.TrodAll enc P A 0 o true f.params.toList args.toList ds c:=λo G=>Qq a _ _ _ _ B F (λx e=>g.same (i x e)) G
 have n(b:Nat)(o:Nat->Bool)(H:Bool):DataW.TrodAll enc P A b o H f.resultTypes.toList ((Value.bool true).resultList f.resultTypes.size) (s.fn u (ds++[])).results []:=by rw[d,C];exact trodAll_mk1 (shut_bool D true)
 refine⟨ds,[],c,[],c,[],w,n _ _ _,?_,?_,World.keptBut_mono (λx e=>⟨e,Or.inr (Or.inl e)⟩) (g.frame (· ∈ c)),λh=>by cases h⟩
 ·rw[d];exact l _ k
 ·rw[y,d];rfl
end
end
section
open Go.ChangeShapes Go.WideShapes Go.RowKit
section
variable{q:Type}{enc:TypeId×Value->q}{P:Program}{w:World}{N:Type}
def Hv(P:Program)(t:TypeId)(d:DataW q):Prop:=∀k∈d.weights P t,k<=reachBytes
def uU(enc:TypeId×Value->q)(P:Program)(w:World)(n:Nat)(t:TypeId)(v:N->uZ)(Q:N->Prop):Prop:=
 ∀a,a<=n->∀b y,DataW.trod enc P w 0 (λ_=>true) true a t b=some y->Hv P t y.1->∃x:N,aq (cI w) bO b (v x)/\Q x
def T3(n:Int):Prop:=-9223372036854775808<=n/\n<=9223372036854775807
def Wjz{t:TypeId}(b:P.underlying t=W (.int .i64)):uU enc P w d t (λi=>[iI i]) T3:=by intro a _ n y h _;obtain⟨i,rfl,_,c⟩:=DataW.trod_int b h;exact⟨i,aq.cons (.int _ _) aq.nil,show _/\_ by simpa[Lit.wf,IntKind.min,IntKind.max,IntKind.signed,IntKind.bits]using c⟩
def Wce{t:TypeId}(b:P.underlying t=W .bool):uU enc P w d t (λi=>[.bool i]) (λ_=>True):=by intro a _ c y h _;obtain⟨i,rfl,_⟩:=DataW.trod_bool b h;exact⟨i,aq.cons (.bool _) aq.nil,trivial⟩
def Qy1{t:TypeId}(b:P.underlying t=W .string):uU enc P w d t (λi=>[.str i]) (λs=>s.length<=reachBytes):=by intro a _ n y h c;obtain⟨i,rfl,rfl,e⟩:=DataW.trod_string b h;refine⟨i.data.toList,aq.cons (.str _ _ rfl) aq.nil,c _ ?_⟩;simp[DataW.weights]
theorem EA{P:Program}:∀ {ts:List TypeId} {ds:List (DataW q)} {i:Nat} {t:TypeId} {d:DataW q} {k:Nat},ts[i]?=W t->ds[i]?=W d->k∈d.weights P t->k∈DataW.weightsEach P ts ds
 |[],_,i,t,d,k,h,_,_=>by simp at h
 |_::_,[],i,t,d,k,_,h,_=>by simp at h
 |t0::ts,d0::ds,0,t,d,k,a,b,c=>by simp at a b;subst a b;simp only[DataW.weightsEach];exact ET _ c
 |t0::ts,d0::ds,i+1,t,d,k,a,b,c=>by simp only[DataW.weightsEach];exact JG _ (EA (i:=i) (by simpa using a) (by simpa using b) c)
theorem X9{P:Program}{e:TypeId}:∀ {ds:List (DataW q)} {d:DataW q} {k:Nat},d∈ds->k∈d.weights P e->k∈DataW.weightsAll P e ds
 |[],d,k,h,_=>by cases h
 |d0::ds,d,k,h,a=>by
  simp only[DataW.weightsAll];rcases vZ.1 h with rfl|h
  ·exact ET _ a
  ·exact JG _ (X9 h a)
def Qwg{t:TypeId}{c:Array Field}{y:DataW q×List MemPlace}(n:P.underlying t=W (.struct c))(h:DataW.trod enc P w 0 (λ_=>true) true d t k=W y)(g:Hv P t y.1):
  k.length=P.cellsOf t/\∃m,d=m+1/\∀(i:Nat) (f:Field),c[i]?=W f->∃z,DataW.trod enc P w 0 (λ_=>true) true m f.type ((k.drop f.offset).take (P.cellsOf f.type))=W z/\Hv P f.type z.1:=by
 obtain⟨e,m,j,rfl,l,o,p⟩:=DataW.trod_struct n h;refine⟨l,m,j,λi f b => ?_⟩;have a:i<e.length:=by rw[o];exact(Fa.1 b).1
 refine⟨e[i],by rw[p i f b,vO a],λcs r=>g cs ?_⟩;simp only[DataW.weights,n];exact EA (i:=i) (by simp[b]) (by simp[a]) r
def ZJ{m:Nat}{b:uZ}(c:aq F G ((k.drop d).take y) x)(a:aq F G ((k.drop (d+y)).take m) b):aq F G ((k.drop d).take (y+m)) (x++b):=by
 have:(k.drop d).take (y+m)=(k.drop d).take y++(k.drop (d+y)).take m:=by rw[List.take_add,JL]
 rw[this];exact c.append a
def Wcf(b:k.length=d)(a:aq F G ((k.drop 0).take d) x):aq F G k x:=by rw[JN,JF Y]at a;exact a
def Qwh(b off j:Nat):(⟨b,off,none⟩:Addr).add j=⟨b,off+j,none⟩:=by
 by_cases h:j=0
 ·subst h;rfl
 ·simp[Addr.add,h]
def OG(P:Nat->K->Prop):∀n,(∀i,i<n->∃x,P i x)->∃xs:List K,xs.length=n/\∀i x,xs[i]?=W x->P i x:=by
 intro n;induction n with
 |zero=>intro _;exact⟨[],rfl,λi x a=>by cases a⟩
 |succ n c=>
  intro h;have⟨xs,b,d⟩:=c (λi a=>h i Y);have⟨y,f⟩:=h n Y;refine⟨xs++[y],by simp[b],λi x a => ?_⟩;by_cases e:i<xs.length
  ·rw[AH e]at a;exact d i x a
  ·have g:=(wy.1 a).1;have j:i=n:=by simp at g;omega
   subst j;rw[DQ Y,b,EU]at a;cases a;exact f
def Pm{b:Type}{ls:List (List b)}(a:∀l∈ls,l.length=d)(c:0<d)(i:Nat):ls.flatten[i]?=(ls[i/d]?).bind λl=>l[i%d]?:=by
 induction ls generalizing i with
 |nil=>simp
 |cons l ls sz=>
  have e:=a l (wA ..);rw[List.flatten_cons];by_cases h:i<d
  ·rw[AH Y,Nat.div_eq_of_lt h,Nat.mod_eq_of_lt h];rfl
  ·have f:i/d=(i-d)/d+1:=by have:=Nat.sub_add_cancel (Xn h);rw[<-Nat.add_div_right _ c,this]
   have g:i%d=(i-d)%d:=by have:=Nat.sub_add_cancel (Xn h);rw[<-Nat.add_mod_right (i-d),this]
   rw[DQ Y,e,sz (λj k=>a j (wh _ k)),f,g];rfl
def Wj0{n:Nat}{t e:TypeId}{f:N->V}{Q:N->Prop}{sz:Nat}(L:P.underlying t=W (.slice e))(hc:P.cellsOf e=sz)(h0:0<sz)(a4:0<P.bytesOf e)(hf:∀x,(f x).cells.length=sz)(hd:uU enc P w n e (λx=>(f x).cells) Q):
  uU enc P w (n+1) t (λs=>[ae f s]) (λs=>s.l.length<=reachBytes/\∀x∈s.l,Q x):=by
 intro t a7 cs y h hv;rcases DataW.trod_slice L h with ⟨rfl,_⟩|⟨a,p,I,q,z,m,rfl,rfl,rfl,_,hl,t,h,J,hr,_⟩
 ·exact⟨.nil,aq.cons .ad aq.nil,wV _,λx b=>by cases b⟩
 ·have D:∀i,i<p->∃x:N,(∃r:vB,r.length=sz/\(∀j u,r[j]?=W u->w.cell? ((a.add (i*sz)).add j)=W u)/\aq (cI w) bO r (f x).cells)/\Q x:=by
   intro i g;have v:=J i g;rw[vO Y,hc]at v;have⟨r,A,h2⟩:=vh.1 v;have⟨_,B,K⟩:=World.cells?_some A;have⟨x,hx,h⟩:=hd m Y r _ h2 (λk hk=>hv k (by simp only[DataW.weights,L];refine wh _ (ET _ (X9 (List.mem_map_of_mem (Na (l:=q) (n:=i) Y)) hk))))
   refine⟨x,⟨r,B,λj u M => ?_,hx⟩,h⟩;have h:j<sz:=by rw[<-B];exact(wy.1 M).1
   rw[K j h,M]
  have⟨C,E,hx⟩:=OG _ p D;have h:p<=reachBytes:=by
   have h3:(q.length+z.length)*P.bytesOf e<=reachBytes:=hv _ (by simp only[DataW.weights,L,wq];exact wA ..)
   have b:q.length+z.length<=(q.length+z.length)*P.bytesOf e:=BG _ a4;omega
  refine⟨.row C,aq.cons ?_ aq.nil,by show C.length<=_;omega,λx a5 => ?_⟩
  ·show aB (cI w) bO (.slice (W a) p I) (.sl (C.map f) .no);by_cases d:I=0
   ·obtain rfl:p=0:=by omega
    subst d;obtain rfl:C=[]:=CP.1 E;exact .jt a .no λs e=>by cases e
   ·
    have L:∃u,w.cell? a=some u:=by
     have v:∃r,w.cells? 0 (a.add 0) sz=some r:=by
      by_cases c:p=0
      ·have⟨d,o⟩:=hr rfl;obtain⟨d0,h⟩:∃d,z[0]?=some d:=⟨_,vO Y⟩
       have v:=o 0 Y;rw[h,hc,c]at v;have⟨r,A,_⟩:=vh.1 v;exact⟨r,by simpa using A⟩
      ·have v:=J 0 Y;rw[vO Y,hc]at v;have⟨r,A,_⟩:=vh.1 v;exact⟨r,by simpa using A⟩
     obtain⟨r,A⟩:=v;have⟨_,B,K⟩:=World.cells?_some A;have:=K 0 h0;rw[vO Y]at this;exact⟨_,by simpa[Addr.add]using this⟩
    obtain⟨d,F⟩:=L;have G:a.spot=none:=by
     cases G:a.spot with
     |none=>rfl
     |some s=>
      exfalso;unfold World.cell? at F;rw[G]at F;cases c:w.heap[a.block]? with
      |none=>simp[c]at F
      |some o=>cases o<;>simp[c]at F
    obtain⟨b,O,d⟩:=a;simp only at G;subst G;have a:∀i,i<p->∃r:vB,r.length=sz/\(∀j u,r[j]?=W u->w.cell? ⟨b,O+(i*sz+j),none⟩=W u)/\∃x,C[i]?=W x/\aq (cI w) bO r (f x).cells:=by intro i g;have⟨r,v,h2,h3⟩:=(hx i _ (vO Y)).1;refine⟨r,v,λj u M => ?_,_,vO Y,h3⟩;have:=h2 j u M;rw[Qwh,Qwh,I6]at this;exact this
    have⟨R,B,S⟩:=OG _ p a;have U:∀l∈R,l.length=sz:=λl hl=>by have⟨i,J,e⟩:=List.getElem_of_mem hl;exact(S i l (by rw[vO J,e])).1
    have a1:(C.map f).flatMap V.cells=(C.map λx=>(f x).cells).flatten:=by rw[List.flatMap_def,Ni];rfl
    have H:∀l∈C.map (λx=>(f x).cells),l.length=sz:=λl hl=>by obtain⟨x,_,rfl⟩:=wa.1 hl;exact hf x
    have X:R.flatten.length=p*sz:=by rw[List.length_flatten,Fb (g:=λ_=>sz) U,Nc,M9,B]
    have a0:(C.map λx=>(f x).cells).flatten.length=p*sz:=by rw[List.length_flatten,Fb (g:=λ_=>sz) H,Nc,M9,wq,E]
    have D:=aB.sl (M:=cI w) (J:=bO) (C.map f) .no b O I sz R.flatten
     (λy hy=>by obtain⟨x,_,rfl⟩:=wa.1 hy;exact hf x)
     (by rw[a1,X,a0])
     (λi u A=>by rw[Pm U h0]at A;have⟨l,d,o⟩:=vh.1 A;have v:=(S _ l d).2.1 _ u o;show w.cell? ⟨b,O+i,none⟩=_;rw[show i/sz*sz+i%sz=i by rw[I7];exact Qx i sz]at v;exact v)
     (λi u c A a=>by rw[a1,Pm H h0]at a;rw[Pm U h0]at A;have⟨l,d,o⟩:=vh.1 A;have⟨k,a2,a6⟩:=vh.1 a;have⟨x,a,a3⟩:=(S _ l d).2.2;rw[ym,a]at a2;cases a2;exact a3.2 _ u c o a6)
     (by rw[wq,E];exact hl) (λe=>by cases e)
    rw[wq,E]at D;exact D
  ·have⟨k,hk,e⟩:=List.getElem_of_mem a5;have:=(hx k _ (vO hk)).2
   rwa[e]at this
def uU.mono{n:Nat}{t:TypeId}{v:N->uZ}{Q:N->Prop}(h:uU enc P w n t v Q)(b:d<=n):uU enc P w d t v Q:=λa c m y e f=>h a (zr c b) m y e f
end
end
variable{R:Program}
section
open Go.ChangeShapes Go.WideShapes Go.RowKit
section
variable{q:Type}{enc:TypeId×Value->q}{w:World}
def Wj1:uU enc prog w d 42 (λx:Int×u2×Bool=>[iI x.1,.str x.2.1,.bool x.2.2]) (λ_=>True):=by intro b c t y h n;obtain⟨e,m,rfl,a⟩:=Qwg Tryz.underlying42 h n;have⟨_,f,g⟩:=a 0 _ rfl;have⟨_,i,j⟩:=a 1 _ rfl;have⟨_,k,l⟩:=a 2 _ rfl;have⟨o,p,u⟩:=Wjz Tryz.underlying3 m (vE _) _ _ f g;have⟨x1,q,v⟩:=Qy1 Tryz.underlying9 m (vE _) _ _ i j;have⟨r,s,z⟩:=Wce Tryz.underlying4 m (vE _) _ _ k l;exact⟨(o,x1,r),Wcf e (ZJ (ZJ p q) s),trivial⟩
def Wuz:uU enc prog w d 44 (λa=>(af a).cells) (λ_=>True):=by intro n e E y h f;obtain⟨g,m,rfl,b⟩:=Qwg Tryz.underlying44 h f;have⟨_,i,j⟩:=b 0 _ rfl;have⟨_,k,l⟩:=b 1 _ rfl;have⟨_,o,p⟩:=b 2 _ rfl;have⟨_,q,r⟩:=b 3 _ rfl;have⟨_,s,t⟩:=b 4 _ rfl;have⟨u,v,F⟩:=Wjz Tryz.underlying3 m (vE _) _ _ i j;have⟨x1,x,G⟩:=Wce Tryz.underlying4 m (vE _) _ _ k l;have⟨z,A,H⟩:=Qy1 Tryz.underlying9 m (vE _) _ _ o p;have⟨B,C,I⟩:=Qy1 Tryz.underlying9 m (vE _) _ _ q r;have⟨c,D,J⟩:=Wj1 m (vE _) _ _ s t;exact⟨⟨u,x1,z,B,c.1,c.2.1,c.2.2⟩,Wcf g (ZJ (ZJ (ZJ (ZJ v x) A) C) D),trivial⟩
def Woa:uU enc prog w (i+1) 22 (λs=>[ae af s]) (λs=>s.l.length<=reachBytes/\∀x∈s.l,True):=
 Wj0 (sz:=7) Tryz.underlying22 X0K (by decide) (pM X0K) (λ_=>rfl) Wuz
def Wdv{r:Reach}{c:Nat}{d:DataW q}(e:Value.okWide prog w r c 22 p)(h:DataW.Trod enc prog w 0 (λ_=>true) true 22 p d C)(f:Hv prog 22 d):
  ∃x:Sl bq,x.l.length<=reachBytes/\aB (cI w) bO p (ae af x):=by
 obtain⟨a,g,i,rfl⟩:=okWide_slice Tryz.underlying22 e;obtain⟨b,j⟩:=h;have⟨x,k,l⟩:=Woa b b Y _ _ j f;exact⟨x,l.1,k.2 0 _ _ rfl rfl⟩
end
theorem Wp2:∀(n:Nat) (cs:vB) (g:Nat->vB),cs.length=2*n->(∀i,i<n->(cs.drop (i*2)).take 2=g i)->cs=(List.range n).flatMap g
 |0,cs,g,h,_=>by rw[CP.1 (by omega:cs.length=0)];rfl
 |n+1,cs,g,h,a=>by
  have b:=a 0 Y;rw[QB,JN]at b;have c:=Wp2 n (cs.drop 2) (λi=>g (i+1)) (by rw[zj];omega) (λi d=>by rw[JL];have:=a (i+1) Y;rw[show(i+1)*2=2+i*2 by omega]at this;exact this)
  rw[List.range_succ_eq_map,AR,List.flatMap_map,<-b];rw[<-c,List.take_append_drop]
def Qy2{enc:TypeId×Value->K}{sp:Nat->Bool}{f:Bool}{t e:TypeId}{n:Nat}{a:List u2}(B:R.underlying t=some (.array n e))(x:R.underlying e=some .string)(l:R.cellsOf e=1)(base:R.cellsOf t=n)(h:DataW.trod enc R m d sp f y t k=some (.agg (a.map λz=>.lit (.string z)),C)):k=a.map λz=>Value.string ⟨z.toArray⟩:=by
 cases y with
 |zero=>simp[DataW.trod]at h
 |succ y=>
  simp only[DataW.trod,B,l,base,I9]at h;split at h
  ·rename_i I;obtain⟨o,q,P⟩:=xB.1 h;have g:o.map (·.1)=a.map λz=>(DataW.lit (.string z):DataW K):=by have:=A9e Prod.fst P;simpa using this
   have D:o.length=n:=by simpa using Lib.mapM_length q
   have E:a.length=n:=by have:=A9e List.length g;simp at this;omega
   apply Hk;intro i;by_cases F:i<n
   ·obtain⟨b,G,p⟩:=Lib.mapM_at q i i (by simp[F]);obtain⟨c,A⟩:∃c,k[i]?=some c:=⟨k[i]'(Y),vO Y⟩
    have j:(k.drop i).take 1=[c]:=by rw[KP Y];have:=(wy.1 A).2;rw[this];rfl
    rw[j]at p;have r:(o.map (·.1))[i]?=some b.1:=by simp[G]
    rw[g]at r;simp only[ym,xB]at r;obtain⟨z,H,u⟩:=r;have v:c=.string ⟨z.toArray⟩:=by
     cases y with
     |zero=>simp[DataW.trod]at p
     |succ y=>
      cases c with
      |string s=>
       simp only[DataW.trod,x]at p;split at p
       ·cases p;cases u;rfl
       ·cases p
      |_=>simp[DataW.trod,x]at p
    rw[A,ym,H,v];rfl
   ·rw[B0 Y,B0 yZ]
  ·cases h
def Qkp{n:String}{g:Nat}{us:vB}{b:uZ}(d:R.globalNamed n=W g)(e:m.var? R n=W us.toArray)(k:b.length=us.length)(f:∀(i:Nat) u c,us[i]?=W u->b[i]?=W c->aB (cI m) bO u c):
  aB (cI m) bO (.pointer (W ⟨g,0,none⟩)) (.ai b 0):=by
 refine aB.ai b 0 g 0 us Y (λi u j => ?_) f;have h:=World.var?_cell d e i;rw[xr];exact h.trans (by rw[KQ];exact j)
end
end Go.Ev
namespace Go.Proofs.YthihdggoaeaakaaGreatDoor
open Go.ChangeShapes Go.WideShapes Go.RowKit Go.Joins
open Go.ChangeMaps (open_string)
open Go Go.Ev
def Tryz.et:prog.globalNamed "errors.errorType" = some 0:=X0K
def Tryz.rt:(prog.cutTypes.find? (λx=>x.1 == "internal/reflectlite.rtype")).map (λx=>x.2)=some 127:=X0K
def Tryz.qy:((List.range 278).filter λt=>prog.rowNamed t [101,114,114,111,114])=[28]:=X0K
def Tryz.qz:prog.types.size=278:=X0K
variable{c:World}
def Wj2{l:List (String×DataW Unit)}{d:DataW Unit}(i:(l.filter λx=>x.2.handleName?.isSome)=[("errors.errorType",d)])(j:d.handleName?=W [101,114,114,111,114])(k:d.funcsIn?=none)(h:laidMetH prog l c):IN c:=by have⟨_,a⟩:=laidMetH_iff.1 h;rw[i]at a;have e:=a _ (vR.2 rfl);simp only[k]at e;obtain⟨b,u,m,n,o,p,q,f⟩:=e;have r:b=[101,114,114,111,114]:=(Ew (j.symm.trans n)).symm;subst r;obtain rfl:=Ew (Tryz.rt.symm.trans o);have g:m∈(List.range 278).filter λt=>prog.rowNamed t [101,114,114,111,114]:=I4.2 ⟨KX.2 (by rw[<-Tryz.qz];exact p),q⟩;rw[Tryz.qy]at g;obtain rfl:=vR.1 g;have s:typeHandle prog 28=.pointer (W ⟨8,28,none⟩):=X0K;rw[s]at f;simpa[IN]using World.var?_cell Tryz.et f 0
noncomputable def Wj3(os:Os)(l:List (String×DataW Unit)):World:=
 let a:=World.laidAll prog os (l.filter λx=>x.2.handleName?.isNone)
 {a with heap:=a.heap.modify 0 fun
   | .cells _ t frozen=>.cells #[.iface 127 (.agg #[.pointer (some ⟨8,28,none⟩)])] t frozen
   |o=>o}
def mf:u_:=fu.flatMap λp=>[(p.1:Int),(p.2:Int)]
def Wch:prog.globalNamed "wattle/sel.states" = some 1:=X0K
def Wj4:prog.globalNamed "unicode/utf8.first" = some 2:=X0K
def ni:prog.globalNamed "unicode/utf8.acceptRanges" = some 3:=X0K
def Wu0(h:laidMetH prog Rows.localLimitsRow.laid c):∀g,Ev.aB (Ev.cI c) Ev.bO (.pointer (W ⟨g,0,none⟩)) (nI g):=by
 have v:laidMet prog [("math/bits.deBruijn32tab",Rows.laid_math_bits_deBruijn32tab),("math/bits.deBruijn64tab",Rows.laid_math_bits_deBruijn64tab),("internal/strconv.uint64pow10",Rows.laid_internal_strconv_uint64pow10),("unicode/utf8.acceptRanges",Rows.laid_unicode_utf8_acceptRanges),("wattle/sel.states",Rows.laid_wattle_sel_states),("unicode/utf8.first",Rows.laid_unicode_utf8_first)] c:=(laidMetH_iff.1 h).1;intro g;unfold nI;split
 ·rename_i e;subst e;have⟨g,t,l,j,p,m,o,q,r⟩:=Lib.laidMet.reads v (n:= "wattle/sel.states") (d:=Rows.laid_wattle_sel_states) u0;obtain rfl:=Ew (m.symm.trans Wch);obtain rfl:=Ew (o.symm.trans (show _=W 144 by kernel_rfl));have s:l.toList=DI.map λz=>Value.string ⟨z.toArray⟩:=Qy2 Tryz.underlying144 Tryz.underlying9 X0K X0K r;refine Qkp (us:=DI.map λz=>Value.string ⟨z.toArray⟩) Wch (by rw[q,<-s]) (by simp[WK]) (λi u a b f => ?_);unfold WK at f;rw[ym]at b f;cases k:DI[i]? with
  |none=>rw[k]at b;cases b
  |some z=>rw[k]at b f;cases b;cases f;exact .str _ _ rfl
 split
 ·rename_i e;subst e;have⟨g,t,w,j,p,m,o,q,k⟩:=Lib.laidMet.reads v (n:= "unicode/utf8.first") (d:=Rows.laid_unicode_utf8_first) u0;obtain rfl:=Ew (m.symm.trans Wj4);obtain rfl:=Ew (o.symm.trans (show _=W 173 by kernel_rfl));have s:Rows.laid_unicode_utf8_first=Lib.tabData .u8 (BY.map λ(n:Nat)=>(n:Int)):=X0K;rw[s]at k;have r:=Lib.cells_of_tab Tryz.underlying173 Tryz.underlying5 X0K X0K k;refine Qkp (us:=(BY.map λ(n:Nat)=>(n:Int)).map λz=>Value.int .u8 z) Wj4 (by rw[q,<-r]) (by simp[G_]) (λi u a b f => ?_);unfold G_ at f;rw[ym,ym]at b;rw[ym]at f;cases l:BY[i]? with
  |none=>rw[l]at b;cases b
  |some z=>rw[l]at b f;cases b;cases f;exact .int _ _
 split
 ·rename_i e;subst e;have⟨g,t,C,b,p,F,G,H,l⟩:=Lib.laidMet.reads v (n:= "unicode/utf8.acceptRanges") (d:=Rows.laid_unicode_utf8_acceptRanges) u0;obtain rfl:=Ew (F.symm.trans ni);obtain rfl:=Ew (G.symm.trans (show _=W 176 by kernel_rfl));have J:(Rows.laid_unicode_utf8_acceptRanges:DataW Unit)=.agg (fu.map λp=>.agg ([(p.1:Int),(p.2:Int)].map λz=>.lit (.int .u8 z))):=X0K;rw[J]at l;have o:C.toList.length=2*16:=by
   cases b with
   |zero=>simp[DataW.trod]at l
   |succ b=>
    simp only[DataW.trod,Tryz.underlying176]at l;split at l
    ·rename_i f;rw[f];kernel_rfl
    ·cases l
  have I:=Wp2 16 C.toList (λi=>[Value.int .u8 ((fu.getD i (0,0)).1:Int),.int .u8 ((fu.getD i (0,0)).2:Int)]) o (λi E=>by
   have⟨w,d,q,x,y⟩:=Lib.array_elem Tryz.underlying176 l i E;have A:prog.cellsOf 175=2:=X0K;rw[A]at y;have r:i<fu.length:=E;rw[ym,vO r]at x;simp only[A0,vU]at x;have B:fu.getD i (0,0)=fu[i]:=by rw[y9,vO r];rfl
   rw[<-x]at y;rw[B];exact Lib.ints_of_struct Tryz.underlying175 (λj f k=>by
    match j,k with
    |0,k=>cases k;exact⟨Tryz.underlying5,rfl,X0K⟩
    |1,k=>cases k;exact⟨Tryz.underlying5,rfl,X0K⟩
    |j+2,k=>exact absurd k u0) X0K y)
  have K:(List.range 16).flatMap (λi=>[Value.int .u8 ((fu.getD i (0,0)).1:Int),.int .u8 ((fu.getD i (0,0)).2:Int)])=mf.map (Value.int .u8):=X0K;refine Qkp (us:=mf.map (Value.int .u8)) ni (by rw[H,<-K,<-I]) X0K (λi u a m s => ?_);have L:kx=mf.map (V.int .u8):=X0K;rw[L]at s;rw[ym]at m s;cases D:mf[i]? with
  |none=>rw[D]at m;cases m
  |some z=>rw[D]at m s;cases m;cases s;exact .int _ _
 ·exact .any _
theorem Wj5{a:World}(h:a.ShapedOpen prog):∃n,Ev.cI a 4 0=some (.int .i64 n):=cell_of_shapedOpen_int (g:=4) (t:=3) (zero := #[.int .i64 0]) h (pM X0K) X0K rfl X0K X0K Tryz.underlying3
variable{a:FuncId}{d:Bool}
def ZW{p:Type}{enc:TypeId×Value->p}{k:Assume}{C:Checked}{os:Os}{fn:Func}{s:ChangeSpec}{h:List PathCond}{apart g l:Bool}{X:World->wk->Prop}(E:∀(w w':World) (args:wk),w.heap=w'.heap->X w args->X w' args)(x:ownKnob C.prog.godebug=none)(m:os.Started)(o:C.prog.inits.idxOf? a=none)(y:C.prog.funcs[a]?=W fn)(n:∃(w:World) (c:Tape) (i:Input),w.os=os/\(w.forCall c i).Shaped C.prog/\i.vars=[]/\Input.okWide C.prog (w.forCall c i) .any w.heap.size a i/\
   ((s.pre enc C.prog fn h apart (w.forCall c i).memory i.args/\X (w.forCall c i).memory i.args)/\sizedMet enc C.prog fn (OpenSpec.ofChange s) apart (w.forCall c i).memory i.args)/\k.holds C.prog (lone (Frame.enter C.prog a i.args .normal) [] (w.forCall c i)))(F:∀(b:World) (base:Nat) (args:wk) (ds q:List (DataW p)) (f:List MemPlace),
   (∀(j:Nat) t v,fn.params[j]?=W t->args[j]?=W v->Value.okWide C.prog b .any base t v)->
   DataW.Whole enc C.prog fn.params.toList s.vars apart b args.toList ds q f->
   h.all (PathCond.test C.prog ⟨fn.params.toList,ds,s.plain.varTypes C.prog,q⟩)->
   (DataW.weightsEach C.prog (fn.params.toList++s.plain.varTypes C.prog) (ds++q)).all (· <= reachBytes)->X b args->b.ShapedOpen C.prog->
   k.holds C.prog (lone (Frame.enter C.prog a args .normal) [] b)->
   Calls C.prog a args b λe B=>∃v,e=.returned v/\s.post enc C.prog fn apart d g l b args v B):
  ReturnsInHanded k C os a .any (λw args=>(s.pre enc C.prog fn h apart w args/\X w args)/\sizedMet enc C.prog fn (OpenSpec.ofChange s) apart w args) (s.post enc C.prog fn apart d g l):=by
 refine returnsInHanded_of_calls x m o n ?_;intro w c i _ z _ G H I;obtain⟨_,_,_,J,r,_,_,_,_,u⟩:=G;obtain rfl:=Ew (r.symm.trans y);obtain⟨⟨⟨ds,q,f,D,A⟩,K⟩,L⟩:=H;refine(F (w.forCall c i) w.heap.size i.args ds q f u (DataW.Whole.of_heap (w':=w.forCall c i) (by rfl) D) A (L.weights D) (E _ _ _ (by rfl) K) z I).mono λe B ⟨v,M,N⟩ => ?_;subst M;exact ChangeSpec.post_blind N
set_option maxRecDepth 100000 in
def Qlr(os:Os)(c:os.Started)(r:Type)(enc:TypeId×Value->r):
  ReturnsInHanded {} Tryz.checked os 3 .any (λw args=>(Rows.localLimitsSpec.pre enc prog Tryz.f3 [] T w args/\laidMetH prog Rows.localLimitsRow.laid w)/\sizedMet enc prog Tryz.f3 (OpenSpec.ofChange Rows.localLimitsSpec) T w args)
   (Rows.localLimitsSpec.post enc prog Tryz.f3 T true T T):=by
 refine ZW (C:=Tryz.checked) (X:=λw _=>laidMetH prog Rows.localLimitsRow.laid w) (λ_ _ _ J h=>h.of_heap J) Tryz.ownKnob c X0K func3
  (ChangeSpec.witness_shaped (enc:=enc) (C:=Tryz.checked) (os:=os) (X:=λw _=>laidMetH prog Rows.localLimitsRow.laid w) T (Wj3 os Rows.localLimitsRow.laid) #[.slice none 0 0,.int .i64 0] 8 (World.laidAll_os _ _ _) (World.shaped_of_ZipB X0K X0K) X0K X0K X0K
   (laidMetH_of_parts (laidMet_of_run' 8 X0K X0K) X0K)) ?_
 intro a i args K L l f D _ E G s _;have g:∀(j:Nat) t v,Tryz.f3.params[j]?=W t->args[j]?=W v->Value.okWide prog a .any i t v:=f;have u:=D;obtain⟨p,q,k,y,rfl,M,N⟩:=D;have H:DataW.TrodAll enc prog a 0 (λ_=>true) true Tryz.f3.params.toList args.toList K p:=k;have O:DataW.TrodVars enc prog a (λ_=>true) [] L q:=y;rw[Tryz.params3]at H g E;obtain⟨Q,R,d0,d1,p0,p1,rfl,rfl,rfl,S,U⟩:=trodAll_two H;obtain⟨rfl,rfl⟩:=trodVars_none O;obtain⟨b,rfl,V,e,m⟩:=open_int Tryz.underlying3 (g 1 3 R rfl rfl) U;have c:-9223372036854775808<=b/\b<=9223372036854775807:=by simpa[Lit.wf,IntKind.min,IntKind.max,IntKind.signed,IntKind.bits]using m
 have B:Hv prog 22 d0:=λm C=>by have:=AI.1 E m (DataW.weights_mem_each (j:=0) (t:=22) (d:=d0) rfl rfl m C);simpa using this
 have⟨I,q0,z⟩:=Wdv (g 0 22 Q rfl rfl) S B;clear k f;have⟨c,A⟩:=Ev.ja (TZ I (by unfold reachBytes at q0;omega) b Y Y);refine(Ev.gT (P:=prog) X0K cy Wuy Wvn (F:=p6) rfl a (args:=[ae af I,.int .i64 b]) (Ev.aq.cons (z) (Ev.aq.cons (.int _ _) (Ev.aq.nil))) (by intro x n;simp only[vZ,AS,R7]at n;(repeat' (rcases n with rfl|n));all_goals first|rfl|exact vz|(subst n;first|rfl|exact vz)) ⟨Wu0 G,λp B=>by obtain rfl:=vR.1 B;exact Wj2 (d:=Rows.laid_errors_errorType) X0K X0K X0K G,λp B=>by obtain rfl:=vR.1 B;exact Wj5 s⟩ A).mono λe a ⟨he,hb⟩ => ?_;subst he;exact⟨_,rfl,Wn9 (tb:=4) Tryz.laidOut (by rw[Tryz.params3];intro t o;simp only[vZ,AS,R7]at o;(repeat' (rcases o with rfl|o));all_goals first|exact⟨X0K,pM X0K⟩|(subst o;exact⟨X0K,pM X0K⟩)) u rfl rfl Tryz.underlying4 rfl hb⟩
def sQ{b:Bool}(h:d)(k:b):(d&&b):=by rw[h,k];rfl
def uJ:(Rows.localLimitsRow.wf (OpenSpec.ofChange Rows.localLimitsSpec)):=X0K
def uK:(laidOutB prog):=X0K
def uL:(mapsRowed prog):=X0K
def uM:((Rows.localLimitsRow.inPlace==prog.inPlace 3)):=X0K
def uN:((Rows.localLimitsRow.unfollowed==prog.unfollowed 3)):=X0K
def uO:((Rows.localLimitsRow.recurses==prog.recurses 3)):=X0K
def uP:((Rows.localLimitsRow.named==prog.varsNamed 3)):=X0K
def uQ:((Rows.localLimitsRow.plainKeys==prog.plainKeys)):=X0K
def uR:(prog.stopsHeard):=X0K
def uS:(prog.mayEnter):=X0K
def uh:((Rows.localLimitsRow.lifted==prog.liftsFinal)):=X0K
def ui:((prog.make==W Rows.localLimitsRow.make)):=X0K
def jf:joinedFacts prog 3 Tryz.f3 Rows.localLimitsSpec Rows.localLimitsRow:=by
 unfold joinedFacts
 repeat' with_reducible apply sQ
 all_goals first|with_reducible exact uJ|with_reducible exact uK|with_reducible exact uL|with_reducible exact uM|with_reducible exact uN|with_reducible exact uO|with_reducible exact uP|with_reducible exact uQ|with_reducible exact uR|with_reducible exact uS|with_reducible exact uh|with_reducible exact ui|kernel_rfl
def Qmf:Rows.LocalLimitsSaid:=
 OpenClaim.holds_of_wide 3 Tryz.f3 rfl rfl rfl rfl rfl rfl rfl ⟨rfl,rfl,rfl,rfl,rfl⟩ rfl rfl rfl rfl rfl X0K func3 jf
  (pM X0K) (by unfold Func.isWrapper;rw[O3 (of_decide_eq_false X0K)];exact⟨rfl,rfl⟩)
  (λd a b c _=>Qlr d a b c)
def uj:Rows.localLimitsRow.wfByText (OpenSpec.ofChange Rows.localLimitsSpec):=X0K
def uk:Tryz.pinned.checked.prog.mainIs=W (Rows.localLimitsCard.stood.harness.1,Rows.localLimitsCard.stood.harness.2.toList):=X0K
def um:true=Tryz.pinned.checked.prog.looks []:=X0K
def sR:prog.funcNamed Rows.localLimitsRow.func=some 3:=X0K
def sS:((prog.closure 3).any λg=>(prog.funcs[g]?).any Func.goes)=T:=X0K
def sT:(prog.funcs.any Func.goes)=T:=X0K
def qA{P:Program}(f:((P.closure a).any λg=>(P.funcs[g]?).any Func.goes)=T)(b:(P.funcs.any Func.goes)=T):P.goes a=T:=by unfold Program.goes;rw[f,b,JM];rfl
def Wob{P:Program}{c:OpenClaim}(f:c.start=.entering)(b:P.funcNamed c.func=W a)(h:P.goes a=T):T=c.goesBy P:=by unfold OpenClaim.goesBy Program.goesAt Program.goesFrom;rw[b,f];simp[h]
def uo:T=Rows.localLimitsRow.goesBy Tryz.pinned.checked.prog:=Wob (P:=prog) rfl sR (qA sS sT)
def sU:prog.wantsStandIn 22=T:=X0K
def sV:prog.wantsStandIn 3=T:=X0K
theorem localLimits_card:Rows.LocalLimitsCardSaid:=
 Claim7.holds_tied_plain_at .later [] _ _ _ _
  Qmf (λ_ h=>by cases h) uj (λ_ h=>by cases h) localLimits_row_tie rfl ⟨rfl,rfl⟩ uk rfl
  (λf d e a=>by
   obtain rfl:f=3:=Ew ((show prog.funcNamed "wattle/wattlelaw13.LocalLimits" = W 3 by kernel_rfl).symm.trans e) |>.symm
   obtain rfl:d=Tryz.f3:=(Ew (func3.symm.trans a)).symm;exact⟨um,λj t b=>by
    rw[Tryz.params3]at b;have c:=Array.mem_of_getElem? b;simp only[List.mem_toArray,vZ,AS,R7]at c;rcases c with rfl|rfl
    ·exact sU
    ·exact sV⟩)
  uo
#print axioms localLimits_card
end Go.Proofs.YthihdggoaeaakaaGreatDoor
