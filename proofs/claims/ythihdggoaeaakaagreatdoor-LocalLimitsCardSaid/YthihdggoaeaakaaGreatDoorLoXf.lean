/- Part of a proof: the small language, and functions of the program on it. -/
import Derived.Test.YthihdggoaeaakaaGreatDoorLoXe
set_option linter.all false
set_option maxHeartbeats 4000000
set_option maxRecDepth 100000
namespace Go.Ev
open Go Go.Proofs Go.Proofs.YthihdggoaeaakaaGreatDoor
variable{c b7:hN}{b6:List u2}(c0:u2)(w:Nat)(P:wD)(y:u_)(U:Int)(R:bq)(v:wZ)(C:V)
def Gv.frame{v:V}(h:Gv c v b6)(a:∀o cs,o∈eT v->hN.get c o=W cs->hN.get b7 o=W cs):Gv b7 v b6:=by
 cases h with
 |nil=>exact .nil
 |hg o b6 hg b=>exact .hg o b6 (a o _ (vR.2 rfl) hg) b
def Gv.lt{v:V}(h:Gv c v b6):∀o∈eT v,o<c.length:=by
 cases h with
 |nil=>intro o a;cases a
 |hg o b6 hg b=>intro l a;rw[vR.1 a];exact Ct hg
variable{d n:Nat}{j b8:uZ}
def Ho{I:hN}{cs:uZ}{sz:Nat}{t:V}(b:j.length=sz)(c:cs.length=sz)(d:yd j)(e:j.map V.ng=j):u5 (I++[.cells cs]) sz (.ptr I.length 0) (.agg j) t=W (.undef,I++[.cells j]):=by
 have:u5 (I++[.cells cs]) sz (.ptr I.length 0) (.agg j) t=(hN.get (I++[.cells cs]) I.length).bind λa=>if j.length=sz/\0+sz<=a.length/\yd j=true then W (.undef,((I++[O.cells cs]:hN).set I.length (O.cells (RK a 0 (j.map V.ng))):hN))else none:=rfl
 rw[this,wJ,va,A9a ⟨b,by omega,d⟩,e,N_ _ _ (by rw[b,c]),Qkl]
structure bH where
 kind:Int
 name:List UInt8
 atoms:List Int
abbrev xe:=List bH
def az(g:bH):uZ:=[.int .i64 g.kind,.str g.name,ae (V.int .i64) (ak g.atoms)]
@[reducible] def bj(g:bH):V:=.agg (az g)
variable{e:bH}
def O6{n:Nat}:V.aL n (az e):=by simp only[az,Qae,C2,xA,xK,CB,Ab];exact vw λ_ _=>rfl
attribute [go_sem] O6
def BQ:(az e).map V.ng=az e:=by simp only[az,xc,Xbx,vz,We8,Wfa]
def Wnh:yd (az e):=by simp only[az,CY,MO,CA,Jf,Jg,CB]
def KM{I:hN}:bK I (.agg (az e))=W (.ptr I.length 0,I++[.cells (az e)]):=by rw[Qos,RH,Wnh,A9a rfl,BQ]
abbrev aO:=List (List UInt8)
def iL(a:bq)(st:aO×aO×Nat):aO×aO×Nat:=(if a.name=[]then st.1 else bN st.1 a.name,if a.has then bN st.2.1 a.space else st.2.1,if a.has then st.2.2 else st.2.2+1)
def iM(L:wD):u_->aO×aO×Nat->aO×aO×Nat
 |[],b=>b
 |i::r,b=>match L[i.toNat]? with|some a=>iM L r (iL a b)|none=>iM L r b
def l_(n:Nat)(st:aO×aO×Nat):V:=.aR [bD n (RS st.1),bD (n+(ax (RS st.1)).length) (RS st.2.1),.int .i64 st.2.2]
def ma(I:hN)(st:aO×aO×Nat):hN:=I++ax (RS st.1)++ax (RS st.2.1)
def Wbj{I0 H:hN}(l m:aO):Gv (I0++ax (RS l)++ax (RS m)++H) (bD (I0.length+(ax (RS l)).length) (RS m)) m:=by
 have:=Rq (I0:=I0++ax (RS l)) (H:=H) m
 rwa[vW]at this
def sD{n:Nat}(l m:aO):∀o,o∈eT (bD n (RS l))->o∉eT (bD (n+(ax (RS l)).length) (RS m)):=by
 intro o a b;have d:=jI l o a;have c:=jI m o b;cases l with
 |nil=>cases a
 |cons x r=>simp[ax,RS]at c;omega
variable{h:V}{i:aO}
section
variable{I0:hN}(u:Wf I0)(q:V)(Q:V.rb 0 q=true)(S:q.ng=q)(AV:V)(z:V.rb 0 AV=true)
include u Q S z
theorem Wy9(F:Nat)(A:Rk)(a:bq)(N e:Int)(S:0<=e/\e<=1000000)(k:Nat)(H:hN)(G:Wf (I0++H))(B:hN.get (I0++H) k=W (aH a)){d v2:V}{f:aO}(j:Nat)(I:j<=1000000)(J:f.length<=10000)(s:Gv (I0++H) d i)(C:Gv (I0++H) v2 f)(K:∀o∈eT d,I0.length<=o)(t:∀o∈eT v2,I0.length<=o)(v:∀o,o∈eT d->o∉eT v2):
  Av QaT F I0.length A q d v2 (iI j) (.ptr k 0) AV (iI N) (iI e) (I0++H)=
   A [q,bD I0.length (RS i),bD (I0.length+(ax (RS i)).length) (RS (if a.has then bN f a.space else f)),iI (if a.has then j else j+1:Nat),AV,iI N,iI (e+1)]
    (I0++ax (RS i)++ax (RS (if a.has then bN f a.space else f))):=by
 have m:eL (I0++H) T 1 (.ptr k 1)=W (.bool a.has):=by rw[yo,B];rfl
 have L:eL (I0++H) T 1 (.ptr k 2)=W (.str a.space):=by rw[yo,B];rfl
 have g:∀(l:hN) (b:V) (c:aO) (h:Int),Gv (I0++l) d i->Gv (I0++l) b c->(∀o∈eT b,I0.length<=o)->(∀o,o∈eT d->o∉eT b)->
   VJ I0.length [4,5] [(1,q),(4,d),(5,b),(6,iI h),(11,AV),(12,iI N),(13,iI (e+1))] (I0++l)=W ([q,bD I0.length (RS i),bD (I0.length+(ax (RS i)).length) (RS c),iI h,AV,iI N,iI (e+1)],I0++ax (RS i)++ax (RS c)):=λl b c h w x n y=>by
  exact Wy7 u (pre:=[(1,q)]) (by decide) (w.at K) (x.at n) y
   (λp r=>by obtain rfl:=vR.1 r;exact⟨u0,xI (wV _) Q⟩)
   (λp r=>by
    simp only[vZ,AS,R7]at r;rcases r with rfl|rfl|rfl|rfl
    ·exact⟨u0,rfl⟩
    ·exact⟨u0,xI (wV _) z⟩
    ·exact⟨u0,rfl⟩
    ·exact⟨u0,rfl⟩)
 cases D:a.has with
 |true=>
  rw[D]at m;have⟨b,l,M,U,x,n,y⟩:=Wy8 G C t a.space Y;have w:=s.frame λo O c P=>y o O (v o c) P;have p:∀o∈eT b,I0.length<=o:=λo c=>by
   rcases n o c with h|h
   ·exact t o h
   ·simp at h;omega
  have r:∀o,o∈eT d->o∉eT b:=λo c h=>by
   rcases n o h with E|E
   ·exact v o c E
   ·have:=s.lt o c;omega
  have R:=g l b (bN f a.space) j w x p r;simp only[A9c];simp -implicitDefEqProofs(disch:=try exact wK)only[go_sem,Av,Dh,m,L,M,R]
 |false=>rw[D]at m;have c:=g H v2 f ((j:Int)+1) s C t v;simp only[vD,A9d];rw[Hm];simp -implicitDefEqProofs(disch:=try exact wK)only[go_sem,Av,Dh,m,c]
end
def Qyc(st:aO×aO×Nat):(iL R st).1.length<=st.1.length+1/\(iL R st).2.1.length<=st.2.1.length+1/\(iL R st).2.2<=st.2.2+1:=by
 unfold iL;refine⟨?_,?_,?_⟩
 ·simp only;split
  ·omega
  ·exact SS _ _
 ·simp only;split
  ·exact SS _ _
  ·omega
 ·simp only;split<;>omega
section
variable(s:Sl bq)(Q:s.l.length<=10000)(g:bH)(u:∀i∈g.atoms,0<=i/\i<s.l.length)(N:g.atoms.length<=5000){I:hN}(z:Wf I)
include Q u N z
theorem Wbk:∀(r q:u_) (st:aO×aO×Nat),g.atoms=q++r->st.1.length<=q.length->st.2.1.length<=q.length->st.2.2<=q.length->
  Ax QaT I.length (I.length+1) [ae af s,bD (I.length+1) (RS st.1),bD (I.length+1+(ax (RS st.1)).length) (RS st.2.1),iI st.2.2,ae Iv (ak g.atoms),iI g.atoms.length,iI q.length] (I++[.cells (az g)]++ax (RS st.1)++ax (RS st.2.1))
  = W (l_ I.length (iM s.l r st),ma I (iM s.l r st))
 |[],q,st,m,C,D,E=>by
  have w:¬(q.length:Int)<g.atoms.length:=by rw[m];simp
  have h:Wf (I++[O.cells (az g)]):=VS z O6;have a:(I++[O.cells (az g)]).length=I.length+1:=u0;have c:=Rq (I0:=I++[O.cells (az g)]) (H:=ax (RS st.2.1)) st.1;have b:=Wbj (I0:=I++[O.cells (az g)]) (H:=[]) st.1 st.2.1;rw[wt]at b;rw[a]at c b;have l:=sD (n:=I.length+1) st.1 st.2.1;have e:∀o∈eT (bD (I.length+1) (RS st.1)),I.length+1<=o:=λo d=>by have:=jI st.1 o d;omega
  have f:∀o∈eT (bD (I.length+1+(ax (RS st.1)).length) (RS st.2.1)),I.length+1<=o:=λo d=>by have:=jI st.2.1 o d;omega
  have x:VJ (I.length+1) [4,5] [(4,bD (I.length+1) (RS st.1)),(5,bD (I.length+1+(ax (RS st.1)).length) (RS st.2.1)),(6,iI st.2.2)] (I++[.cells (az g)]++ax (RS st.1)++ax (RS st.2.1))=W ([bD (I.length+1) (RS st.1),bD (I.length+1+(ax (RS st.1)).length) (RS st.2.1),iI st.2.2],I++[.cells (az g)]++ax (RS st.1)++ax (RS st.2.1)):=by
   have:=Wy7 h (H:=ax (RS st.1)++ax (RS st.2.1)) (t:=4) (t2:=5) (pre:=[]) (post:=[(6,iI st.2.2)]) (v:=bD (I.length+1) (RS st.1)) (v2:=bD (I.length+1+(ax (RS st.1)).length) (RS st.2.1)) (R:=RS st.1) (R2:=RS st.2.1) (by decide)
    (by rw[a,<-wL];exact c.at e) (by rw[a,<-wL];exact b.at f) l (λp j=>by cases j) (λp j=>by obtain rfl:=vR.1 j;exact⟨u0,rfl⟩)
   rw[a,<-wL]at this;exact this
  have y:eU true I.length (I++[.cells (az g)]++ax (RS st.1)++ax (RS st.2.1)) (.aR [bD (I.length+1) (RS st.1),bD (I.length+1+(ax (RS st.1)).length) (RS st.2.1),iI st.2.2])=W (l_ I.length st,ma I st):=by
   have:=uc z (H:=[.cells (az g)]++ax (RS st.1)++ax (RS st.2.1)) (v:=bD (I.length+1) (RS st.1)) (v2:=bD (I.length+1+(ax (RS st.1)).length) (RS st.2.1)) (R:=RS st.1) (R2:=RS st.2.1) (k:=st.2.2)
    (by rw[<-wL,<-wL];exact c.at λo d=>by have:=e o d;omega) (by rw[<-wL,<-wL];exact b.at λo d=>by have:=f o d;omega) l
   rw[<-wL,<-wL]at this;exact this
  have A:(bD (I.length+1) (RS st.1)).aI=bD (I.length+1) (RS st.1):=by cases st.1<;>rfl
  have B:(bD (I.length+1+(ax (RS st.1)).length) (RS st.2.1)).aI=bD (I.length+1+(ax (RS st.1)).length) (RS st.2.1):=by cases st.2.1<;>rfl
  rw[Iu];show _=W (l_ I.length st,ma I st);simp -implicitDefEqProofs(disch:=try exact wK)only[go_sem,Aw,w,x,A,B,y]
 |i::r,q,st,M,f,n,H=>by
  have f:g.atoms.length=q.length+r.length+1:=by rw[M];simp;omega
  have e1:(q.length:Int)<g.atoms.length:=by omega
  have l:=u i (by rw[M];simp);have A:Wf (I++[O.cells (az g)]):=VS z O6;have v:(I++[O.cells (az g)]).length=I.length+1:=u0;have B:=Rq (I0:=I++[O.cells (az g)]) (H:=ax (RS st.2.1)) st.1;have C:=Wbj (I0:=I++[O.cells (az g)]) (H:=[]) st.1 st.2.1;rw[wt]at C;have N:=sD (n:=(I++[O.cells (az g)]).length) st.1 st.2.1;have w:∀o∈eT (bD (I++[O.cells (az g)]).length (RS st.1)),(I++[O.cells (az g)]).length<=o:=λo e=>by have:=jI st.1 o e;omega
  have P:∀o∈eT (bD ((I++[O.cells (az g)]).length+(ax (RS st.1)).length) (RS st.2.1)),(I++[O.cells (az g)]).length<=o:=λo e=>by have:=jI st.2.1 o e;omega
  have j:s.l[i.toNat]?=W s.l[i.toNat]:=vO Y;have hF:iM s.l (i::r) st=iM s.l r (iL s.l[i.toNat] st):=by simp only[iM,j]
  generalize s.l[i.toNat]=a at j hF;have i1:eI 1 (iI q.length) (ae Iv (ak g.atoms))=W (.ai [iI i] 0):=KZ (f:=Iv) (by rw[CL];exact M) rfl rfl;have D I:eL I T 1 (.ai [iI i] 0)=W (iI i):=rfl;have i2:eI 7 (iI i) (ae af s)=W (.ai (aH a) 0):=Nk (f:=af) j l.1 rfl;have E I:eL I true 7 (.ai (aH a) 0)=W (.agg (aH a)):=xg rfl BC;have Q:Wf (I++[O.cells (az g)]++ax (RS st.1)++ax (RS st.2.1)):=XD (XD A _) _;have jk:u5 (I++[O.cells (az g)]++ax (RS st.1)++ax (RS st.2.1)++[O.cells [iI 0,.bool T,.str [],.str [],iI 0,.str [],.bool T]]) 7 (.ptr (I++[O.cells (az g)]++ax (RS st.1)++ax (RS st.2.1)).length 0) (.agg (aH a)) (.agg (aH a))=W (.undef,I++[.cells (az g)]++ax (RS st.1)++ax (RS st.2.1)++[.cells (aH a)]):=Ho rfl rfl rfl BC;have R:eL (I++[O.cells (az g)]++ax (RS st.1)++ax (RS st.2.1)++[O.cells (aH a)]) T 1 (.ptr (I++[O.cells (az g)]++ax (RS st.1)++ax (RS st.2.1)).length 3)=W (.str a.name):=by rw[yo,wJ];rfl
  have F:Wf (I++[O.cells (az g)]++ax (RS st.1)++ax (RS st.2.1)++[O.cells (aH a)]):=VS Q rfl;have p:Gv (I++[O.cells (az g)]++ax (RS st.1)++ax (RS st.2.1)++[O.cells (aH a)]) (bD (I++[O.cells (az g)]).length (RS st.1)) st.1:=B.frame λo S _ h=>hN.cd h;have k:Gv (I++[O.cells (az g)]++ax (RS st.1)++ax (RS st.2.1)++[O.cells (aH a)]) (bD ((I++[O.cells (az g)]).length+(ax (RS st.1)).length) (RS st.2.1)) st.2.1:=C.frame λo S _ h=>hN.cd h;have G:hN.get (I++[O.cells (az g)]++ax (RS st.1)++ax (RS st.2.1)++[O.cells (aH a)]) (I++[O.cells (az g)]++ax (RS st.1)++ax (RS st.2.1)).length=W (aH a):=wJ;have c:I++[O.cells (az g)]++ax (RS st.1)++ax (RS st.2.1)++[O.cells (aH a)]=I++[O.cells (az g)]++(ax (RS st.1)++ax (RS st.2.1)++[O.cells (aH a)]):=by simp only[wL]
  have U:V.rb 0 (ae af s):=vw λ_ _=>rfl;have X:V.rb 0 (ae Iv (ak g.atoms)):=vw λ_ _=>rfl;have x:(ae af s).ng=ae af s:=vz;have J:(ae Iv (ak g.atoms)).ng=ae Iv (ak g.atoms):=vz;have f:=Qyc a st;have ih:=Wbk r (q++[i]) (iL a st) (by rw[M];simp) yZ yZ yZ;rw[<-hF,show((q++[i]).length:Int)=q.length+1 by simp]at ih;have hj:∃y m,(∀(K:Rk),K=Ax QaT I.length (I.length+1)->Aw QaT I.length (I.length+1) K (ae af s) (bD (I.length+1) (RS st.1)) (bD (I.length+1+(ax (RS st.1)).length) (RS st.2.1)) (iI st.2.2) (ae Iv (ak g.atoms)) (iI g.atoms.length) (iI q.length) (I++[.cells (az g)]++ax (RS st.1)++ax (RS st.2.1))
    = Av QaT I.length (I.length+1) K (ae af s) y (bD (I.length+1+(ax (RS st.1)).length) (RS st.2.1)) (iI st.2.2) (.ptr (I++[O.cells (az g)]++ax (RS st.1)++ax (RS st.2.1)).length 0) (ae Iv (ak g.atoms)) (iI g.atoms.length) (iI q.length) (I++[O.cells (az g)]++m))
    /\ Wf (I++[O.cells (az g)]++m)/\Gv (I++[O.cells (az g)]++m) y (iL a st).1/\Gv (I++[O.cells (az g)]++m) (bD ((I++[O.cells (az g)]).length+(ax (RS st.1)).length) (RS st.2.1)) st.2.1
    /\ hN.get (I++[O.cells (az g)]++m) (I++[O.cells (az g)]++ax (RS st.1)++ax (RS st.2.1)).length=W (aH a)/\(∀o∈eT y,(I++[O.cells (az g)]).length<=o)/\(∀o,o∈eT y->o∉eT (bD ((I++[O.cells (az g)]).length+(ax (RS st.1)).length) (RS st.2.1))):=by
   by_cases d:a.name=[]
   ·refine⟨bD (I++[O.cells (az g)]).length (RS st.1),ax (RS st.1)++ax (RS st.2.1)++[O.cells (aH a)],λK l => ?_,by rw[<-c];exact F,?_,by rw[<-c];exact k,by rw[<-c];exact G,w,N⟩
    ·rw[<-c,v];rw[d]at R;generalize aH a=CC,bD (I.length+1) (RS st.1)=W1,bD (I.length+1+(ax (RS st.1)).length) (RS st.2.1)=W2,ae af s=t,ae Iv (ak g.atoms)=AV,I++[O.cells (az g)]++ax (RS st.1)++ax (RS st.2.1)=b at*;simp -implicitDefEqProofs(disch:=try exact wK)only[go_sem,Aw,e1,i1,D,J,x,i2,E,jk,R]
    ·rw[<-c];show Gv _ _ (if a.name=[]then st.1 else bN st.1 a.name);rw[A9a d];exact p
   ·have t:=F;have l:=p;rw[c]at t l;have⟨y,m,a1,n,a3,a4,f⟩:=Wy8 t l w a.name Y;rw[<-c]at a1 a4 f;have c:(I++[O.cells (az g)]++ax (RS st.1)++ax (RS st.2.1)).length∉eT (bD (I++[O.cells (az g)]).length (RS st.1)):=λh=>by have b:=B.lt _ h;simp at b
    have j:=λo e h=>N o h e;refine⟨y,m,λK l => ?_,n,?_,k.frame λo S e u=>f o S (j o e) u,f _ _ c G,λo e => ?_,λo e h => ?_⟩
    ·rw[v]at a1;generalize aH a=CC,bD (I.length+1) (RS st.1)=W1,bD (I.length+1+(ax (RS st.1)).length) (RS st.2.1)=W2,ae af s=SV,ae Iv (ak g.atoms)=AV,I++[O.cells (az g)]++m=Z3,I++[O.cells (az g)]++ax (RS st.1)++ax (RS st.2.1)=b,I++[O.cells (az g)]++ax (RS st.1)++ax (RS st.2.1)++[O.cells (aH a)]=Z2 at*;simp -implicitDefEqProofs(disch:=try exact wK)only[go_sem,Aw,e1,i1,D,J,x,i2,E,jk,R,d,a1]
    ·show Gv _ _ (if a.name=[]then st.1 else bN st.1 a.name);rw[O3 d];exact a3
    ·rcases a4 o e with h|h
     ·exact w o h
     ·simp at h ⊢; omega
    ·rcases a4 o e with b|b
     ·exact N o b h
     ·have:=k.lt o h;omega
  obtain⟨y,m,c,b,d,e,f,h,j⟩:=hj;have L:=Wy9 A (ae af s) U x (ae Iv (ak g.atoms)) X I.length (Ax QaT I.length (I.length+1)) a g.atoms.length q.length Y _ m b f st.2.2 Y Y d e h P j;rw[v]at L;rw[Iu,c _ rfl,L];exact ih
def Qan(L:wD)(g:bH):aO×aO×Nat:=iM L g.atoms ([],[],0)
theorem Wir:E cx 57 [bj g,ae af s] I=W (l_ I.length (Qan s.l g),ma I (Qan s.l g)):=by
 have c:=Wbk s Q g u N z g.atoms [] ([],[],0) rfl u0 u0 u0;have d:Ax QaT I.length (I.length+1) [ae af s,.ad,.ad,iI 0,ae Iv (ak g.atoms),iI g.atoms.length,iI 0] (I++[.cells (az g)])=W (l_ I.length (Qan s.l g),ma I (Qan s.l g)):=by
  have e:I++[O.cells (az g)]++ax (RS [])++ax (RS [])=I++[.cells (az g)]:=by simp[ax,RS]
  rw[e]at c;exact c
 have j:bK I (.agg (az g))=W (.ptr I.length 0,I++[.cells (az g)]):=KM;have f:(I++[O.cells (az g)]).length=I.length+1:=u0;have l:eL (I++[O.cells (az g)]) T 1 (.ptr I.length 2)=W (ae Iv (ak g.atoms)):=by rw[yo,wJ];show W (ae Iv (ak g.atoms)).ng=_;rw[vz]
 have h:(ae Iv (ak g.atoms)).ng=ae Iv (ak g.atoms):=vz;have i:Qai (ae Iv (ak g.atoms))=W (iI g.atoms.length):=by rw[ON,CL]
 have m k I:fz k I fzD (ae Iv (ak g.atoms))=W (ae Iv (ak g.atoms)):=vC (vw λ_ _=>rfl);have n k I:fz k I fzD (ae af s)=W (ae af s):=vC (vw λ_ _=>rfl);rw[QaB];simp only[bj];generalize az g=p,ae af s=o,ae Iv (ak g.atoms)=AV,I++[O.cells (az g)]=b,ma I (Qan s.l g)=a,l_ I.length (Qan s.l g)=R at*;simp only[go_sem,N7,j,f,l,h,i,m,n,d]
end
def jP(g:bH):uZ:=[.int .i64 g.kind,.str g.name,vG (V.int .i64) 1 g.atoms]
def yc(l:xe):uZ:=l.flatMap jP
theorem DJ:∀l:xe,(yc l).length=3*l.length
 |[]=>rfl
 |g::r=>by have:=DJ r;unfold yc at this ⊢;rw[AR,vW,this,vT];show 3+3*r.length=_;omega
def Wza{n:Nat}(g:bH):V.aL n (jP g):=by simp only[jP,Qae,C2,xA,xK,CB,Ab];exact Qc3 λ_=>rfl
theorem UB{n:Nat}:∀ {l m:uZ},V.aL n l->V.aL n m->V.aL n (l++m)
 |[],m,_,h=>h
 |x::l,m,h,a=>by rw[Qae,vc]at h;rw[AJ,Qae,h.1,UB h.2 a];rfl
theorem Qhe{n:Nat}:∀l:xe,V.aL n (yc l)
 |[]=>rfl
 |g::r=>by have:=Qhe (n:=n) r;unfold yc at this ⊢;rw[AR];exact UB (Wza g) this
def Qf9(l m:xe):yc (l++m)=yc l++yc m:=by unfold yc;rw[Ue]
def TB(g:bH):yc [g]=jP g:=by unfold yc;simp
def Qgl(g:bH)(l:xe):yc (g::l)=jP g++yc l:=by unfold yc;simp
variable{K:xe}
def Wdl{r:xe}:(yc (K++e::r)).drop (3*K.length)=jP e++yc r:=by rw[Qf9,Qgl,<-DJ K,List.drop_left' rfl]
def Wzb(g:bH):(jP g).map V.ng=az g:=by simp only[jP,az,xc,Xbx,We8,Wfa,h7]
def Wis{p r:xe}{g:bH}:Ev.part true 3 (yc (p++g::r)) (3*p.length)=W (.agg (az g)):=by
 have a:3*p.length+3<=(yc (p++g::r)).length:=by rw[DJ,vW,vT];omega
 rw[Ai a,Wdl];have:(jP g++yc r).take 3=jP g:=by rw[List.take_append_of_le_length (by simp[jP])];rw[JF (by simp[jP])]
 rw[this,Wzb]
def XS{i:Nat}(h:i<n):eI 3 (iI i) (.hs d 0 n 3 true)=W (.ptr d (3*i)):=by
 have a:(0:Int)<=(i:Int)/\(i:Int)<(n:Int):=by omega
 simp[eI,index,a];omega
def RG:xe->RD
 |[]=>none
 |g::r=>some (yc (g::r),(g::r).length,3,true)
def sE{p r:xe}{g:bH}:(yc (p++g::r))[3*p.length+2]?=W (vG (V.int .i64) 1 g.atoms):=by
 rw[Qf9,Qgl,<-DJ p,DQ Y];have:(yc p).length+2-(yc p).length=2:=by omega
 rw[this];rfl
def ud{p r:xe}{g:bH}{bs:u_}:(yc (p++g::r)).set (3*p.length+2) (vG (V.int .i64) 1 bs)=yc (p ++ {g with atoms:=bs}::r):=by
 rw[Qf9,Qgl,<-DJ p,Hh _ _ Y];have:(yc p).length+2-(yc p).length=2:=by omega
 rw[this,Qf9,Qgl];rfl
theorem UK:∀(r p z:xe),vk true 3 (yc (p++(r++z))) r.length (3*p.length)=W (r.map bj)
 |[],p,z=>rfl
 |g::r,p,z=>by have h:=UK r (p++[g]) z;rw[wL]at h;simp only[vW,vT,xJ,AJ,xQ,xr]at h;rw[show 3*(p.length+1)=3*p.length+3 by omega]at h;have a:=Wis (p:=p) (g:=g) (r:=r++z);rw[vT];simp only[AJ,vk,a,h,u7,va,AK];rfl
variable{F b9:bU}
def Wni{I:hN}(h:e.atoms=[]):G' T true 3 48 I .ad (.sl [bj e] F)=W (.hg I.length 1 3 true,I++[.cells (yc [e])]):=by
 unfold G';simp only[Nv,vD,A9d,Nq,u7,va];have a:ZS true 3 [bj e]:=by rw[zw,RH,Wnh];rfl
 rw[A9a ⟨a,by simp[Qaq]⟩,TB];have:([bj e].flatMap V.cells).map V.ng=jP e:=by show(az e++[]).map V.ng=_;rw[wt,BQ];unfold az jP;rw[h];rfl
 rw[this];rfl
def Wt0{I:hN}(a:hN.get I d=W (yc K))(h:e.atoms=[])(b:(K.length+1)*48<=Qaq):
  G' T true 3 48 I (.hg d K.length 3 true) (.sl [bj e] F)=W (.hg I.length (K++[e]).length 3 true,I.set d .gone++[.cells (yc (K++[e]))]):=by
 unfold G';simp only[Nv,vD,A9d,Nq,u7,va,a];have c:ZS true 3 [bj e]:=by rw[zw,RH,Wnh];rfl
 rw[A9a ⟨trivial,c,by rw[DJ];omega,by simpa using b⟩];have:([bj e].flatMap V.cells).map V.ng=jP e:=by show(az e++[]).map V.ng=_;rw[wt,BQ];unfold az jP;rw[h];rfl
 simp only[this];rw[Qf9,TB];simp
def lu(a:Int)(b:u2)(g:bH):Bool:=decide (g.kind=a)&&decide (g.name=b)
def jJ(a:Int)(b:u2):xe->Nat->Int
 |[],_ => -1
 |g::r,i=>if lu a b g then i else jJ a b r (i+1)
def Nm(a:Int)(b:u2)(i:Int):xe->xe
 |[]=>[⟨a,b,[i]⟩]
 |g::r=>if lu a b g then {g with atoms:=g.atoms++[i]}::r else g::Nm a b i r
theorem Wit(a:Int)(b:u2)(i:Int):∀(l:xe) (k:Nat),(jJ a b l k = -1/\Nm a b i l=l++[⟨a,b,[i]⟩])\/∃p g r,l=p++g::r/\jJ a b l k=(k+p.length:Nat)/\Nm a b i l=p ++ {g with atoms:=g.atoms++[i]}::r
 |[],k=>.inl ⟨rfl,rfl⟩
 |g::l,k=>by
  unfold jJ Nm;cases h:lu a b g with
  |true=>exact .inr ⟨[],g,l,rfl,u0,u0⟩
  |false=>
   simp only[vD,A9d];rcases Wit a b i l (k+1)with ⟨c,d⟩|⟨p,e,r,c,d,f⟩
   ·exact .inl ⟨c,by rw[d];rfl⟩
   ·exact .inr ⟨g::p,e,r,by rw[c];rfl,by rw[d];simp;omega,by rw[f];rfl⟩
abbrev fJ(k:Nat):V:=.fn 36 [] [.ptr k 0,.ptr (k+1) 0]
section
variable{I:hN}(z:Wf I){k:Nat}{a:bq}{nm:u2}(u:hN.get I k=some (aH a))(N:hN.get I (k+1)=some [.str nm])
include z u N
theorem Wzc(g:bH):E cx 36 [.agg (az g),.ptr k 0,.ptr (k+1) 0] I=W (.bool (lu a.kind nm g),I):=by
 have l:V.aL 0 [.agg (az g),.ptr k 0,.ptr (k+1) 0]=T:=by simp[V.aL,V.rb]
 have c:bK I (.agg (az g))=W (.ptr I.length 0,I++[.cells (az g)]):=KM;have d:eL (I++[O.cells (az g)]) T 1 (.ptr I.length 0)=W (iI g.kind):=by rw[yo,wJ];rfl
 have e:eL (I++[O.cells (az g)]) T 1 (.ptr I.length 1)=W (.str g.name):=by rw[yo,wJ];rfl
 have f:eL (I++[O.cells (az g)]) T 1 (.ptr k 0)=W (iI a.kind):=by rw[yo,hN.cd u];rfl
 have h:eL (I++[O.cells (az g)]) T 1 (.ptr (k+1) 0)=W (.str nm):=by rw[yo,hN.cd N];rfl
 have i b:nK I.length (I++[O.cells (az g)]) (.bool b)=W (.bool b,I):=VO z rfl;refine((cQ X0K X0K l (JA u)).trans (Ko ..)).trans ?_;unfold lu;by_cases j:g.kind=a.kind
 ·simp -implicitDefEqProofs only[go_sem,QdY,c,d,e,f,h,i,j]
 ·simp -implicitDefEqProofs only[go_sem,QdY,c,d,e,f,h,i,j]
theorem Qvv(l:xe)(o:Nat)(d:hN.get I o=W (yc l))(t:l.length<=1000000):∀(r q:xe),l=q++r->
  n_ QaT I.length I.length [.hs o 0 l.length 3 true,fJ k,iI l.length,iI q.length] I=W (iI (jJ a.kind nm r q.length),I)
 |[],q,c=>by
  have e:¬(q.length:Int)<l.length:=by rw[c];simp
  have b:=Kk z;rw[pY];show _=W (V.int .i64 (-1),I);simp -implicitDefEqProofs(disch:=try exact wK)only[go_sem,m6,e,b]
 |g::r,q,e=>by
  have i:l.length=q.length+r.length+1:=by rw[e];simp;omega
  have h:(q.length:Int)<l.length:=by omega
  have b:=Kk z;have j:eI 3 (iI q.length) (.hs o 0 l.length 3 true)=W (.ptr o (3*q.length)):=XS Y;have m:eL I true 3 (.ptr o (3*q.length))=W (.agg (az g)):=by rw[yo,d,va,e];exact Wis
  have c:=Wzc z u N g;have v f:fz I.length f fzD (.hs o 0 l.length 3 true)=W (.hs o 0 l.length 3 true):=vC (by have:=Ct d;simp[V.rb,this]);have w f:fz I.length f fzD (fJ k)=W (fJ k):=vC (by have c:=Ct u;have x:=Ct N;simp[V.rb,V.aL,c,x]);have n:=Qvv l o d t r (q++[g]) (by rw[e];simp);rw[show((q++[g]).length:Int)=q.length+1 by simp,show(q++[g]).length=q.length+1 by simp]at n;have p I:Qfc QaT I (fJ k) [.agg (az g)]=E cx 36 [.agg (az g),.ptr k 0,.ptr (k+1) 0] I:=rfl;rw[pY];unfold jJ;cases s:lu a.kind nm g with
  |true=>rw[s]at c;simp -implicitDefEqProofs(disch:=try exact wK)only[go_sem,m6,h,j,m,p,c,b]
  |false=>rw[s]at c;simp -implicitDefEqProofs(disch:=try exact wK)only[go_sem,m6,h,j,m,p,c,v,w,b,n]
theorem sF(l:xe)(v:V)(h:v=.ad/\l=[]\/∃o,v=.hs o 0 l.length 3 true/\hN.get I o=W (yc l))(i:l.length<=1000000):
  E cx 35 [v,fJ k] I=W (iI (jJ a.kind nm l 0),I):=by
 have b:=Kk z;have f d:fz I.length d fzD (fJ k)=W (fJ k):=vC (by have j:=Ct u;have m:=Ct N;simp[V.rb,V.aL,j,m]);have n:V.aL 0 [v,fJ k]=T:=by rw[Qae,Qae];simp[V.rb,V.aL]
 refine((cQ X0K X0K n (JA u)).trans (QaS ..)).trans ?_;rcases h with ⟨rfl,rfl⟩|⟨o,rfl,g⟩
 ·have c:n_ QaT I.length I.length [.ad,fJ k,iI 0,iI 0] I=W (iI (-1),I):=by rw[pY];simp -implicitDefEqProofs(disch:=try exact wK)only[go_sem,m6,b]
  show _=W (V.int .i64 (-1),I);simp only[go_sem,Fv,f,c]
 ·have e:=Qvv z u N l o g i l [] rfl;have c:n_ QaT I.length I.length [.hs o 0 l.length 3 true,fJ k,iI l.length,iI 0] I=W (iI (jJ a.kind nm l 0),I):=e;have p d:fz I.length d fzD (.hs o 0 l.length 3 true)=W (.hs o 0 l.length 3 true):=vC (by have:=Ct g;simp[V.rb,this]);have q:Qai (.hs o 0 l.length 3 true)=W (iI l.length):=rfl;simp only[go_sem,Fv,q,f,p,c]
end
def ct(a:bq):u2:=if a.kind=1 then[]else a.name
abbrev ix(a:bq):bH:=⟨a.kind,ct a,[]⟩
def mM:wD->Nat->xe->xe
 |[],_,l=>l
 |a::r,i,l=>mM r (i+1) (Nm a.kind (ct a) i l)
theorem WQ(a:Int)(b:u2)(i:Int):∀l:xe,(Nm a b i l).length<=l.length+1
 |[]=>by simp[Nm]
 |g::r=>by
  unfold Nm;split
  ·simp
  ·have:=WQ a b i r;simp;omega
theorem Qta(a:Int)(b:u2)(i:Int)(n:Nat):∀l:xe,(∀g∈l,g.atoms.length<=n)->∀g∈Nm a b i l,g.atoms.length<=n+1
 |[],h,g,hg=>by obtain rfl:=vR.1 hg;simp
 |x::r,h,g,hg=>by
  unfold Nm at hg;have d:=h x (wA ..);split at hg
  ·rcases vZ.1 hg with rfl|hg
   ·simp;omega
   ·have:=h g (wh _ hg);omega
  ·rcases vZ.1 hg with rfl|hg
   ·omega
   ·exact Qta a b i n r (λy c=>h y (wh _ c)) g hg
def Wzd{I:hN}(a:hN.get I d=W (yc K))(b:K≠[]):Ot I 0 (.hg d K.length 3 true) (RG K):=by
 cases K with
 |nil=>exact absurd rfl b
 |cons x r=>exact⟨d,wV _,rfl,a,Qhe _⟩
section
variable(s:Sl bq)(u:s.l.length<=10000)
include u
theorem VZ(u:Rk)(o:Nat)(l:xe)(p r:xe)(g:bH)(k:l=p++g::r)(i N:Int)(O:0<=i/\i<=1000000)(I:hN)(P:Wf I)(n:hN.get I o=W (yc l))(Q:g.atoms.length<=1000000)(A:l.length<=1000000):
  oL QaT 0 0 u (.hg o l.length 3 true) (iI i) (iI p.length) (ae af s) (iI N) (iI i) I=u [bD 0 (RG (p ++ {g with atoms:=g.atoms++[i]}::r)),ae af s,iI N,iI (i+1)] (ax (RG (p ++ {g with atoms:=g.atoms++[i]}::r))):=by
 have w:=Ct n;have z:l.length=p.length+r.length+1:=by rw[k];simp;omega
 have B:eI 3 (iI p.length) (.hs o 0 l.length 3 true)=W (.ptr o (3*p.length)):=XS Y;have S(C:uZ):(I.set o (.cells C)).length=I.length:=u0;have gS(C:uZ):hN.get (I.set o (.cells C)) o=some C:=by unfold hN.get;rw[Aa w]
 have D:∃d,Zy I (.ptr o (3*p.length+2))=W (vG Iv 1 g.atoms,I.set o (.cells d))/\d.length=(yc l).length/\∀x,d.set (3*p.length+2) x=(yc l).set (3*p.length+2) x:=by
  have E:(yc l)[3*p.length+2]?=W (vG Iv 1 g.atoms):=by rw[k];exact sE
  have e:Zy I (.ptr o (3*p.length+2))=(match vG Iv 1 g.atoms with | .sl f (.gr s)=>W (.sl f (.gr s),I.set o (.cells ((yc l).set (3*p.length+2) (.sl f .no)))) | .sl _ .lk=>none|v=>W (v,I):Ro):=by show((hN.get I o).bind λm=>(m[3*p.length+2]?).bind _)=_;rw[n,va,E];rfl
  rw[e];cases g.atoms with
  |nil=>
   refine⟨yc l,?_,rfl,λx=>rfl⟩;have:I.set o (.cells (yc l))=I:=by
    refine Hk λj => ?_;by_cases t:j=o
    ·subst t;rw[Aa w,yk n]
    ·rw[CQ (λh=>t h.symm)]
   rw[this];rfl
  |cons y r=>exact⟨(yc l).set (3*p.length+2) (.sl ((y::r).map Iv) .no),rfl,u0,λx=>by rw[OZ]⟩
 obtain⟨d,t1,t2,t3⟩:=D;have F I c:aT T T 1 8 I (vG Iv 1 g.atoms) (.sl [iI i] c)=W (vG Iv 1 (g.atoms++[i])):=UM (λ_=>rfl) (λ_=>rfl) (λ_=>rfl) (by unfold Qaq;omega);have H:(vG Iv 1 (g.atoms++[i])).ng=.sl (Z (g.atoms++[i])) .no:=by cases g.atoms<;>rfl
 have J:u5 (I.set o (.cells d)) 1 (.ptr o (3*p.length+2)) (.sl (Z (g.atoms++[i])) .no) (vG Iv 1 (g.atoms++[i]))=W (.undef,I.set o (.cells (yc (p ++ {g with atoms:=g.atoms++[i]}::r)))):=by
  have e:u5 (I.set o (.cells d)) 1 (.ptr o (3*p.length+2)) (.sl (Z (g.atoms++[i])) .no) (vG Iv 1 (g.atoms++[i]))=(hN.get (I.set o (.cells d)) o).bind λm=>if(1:Nat)=1/\3*p.length+2+1<=m.length/\yd [V.sl (Z (g.atoms++[i])) .no]=true then(if(vG Iv 1 (g.atoms++[i])).dg then none else W (.undef,((I.set o (.cells d)).set o (.cells (m.set (3*p.length+2) (vG Iv 1 (g.atoms++[i])))):hN)))else none:=rfl
  rw[e,gS,va,A9a ⟨rfl,by rw[t2,DJ];omega,rfl⟩,Wsg,t3,OZ];simp only[vD,A9d];have:=ud (p:=p) (g:=g) (r:=r) (bs:=g.atoms++[i]);rw[k,this]
 have K:VJ 0 [2] [(2,.hg o l.length 3 true),(7,ae af s),(8,iI N),(9,iI (i+1))] (I.set o (.cells (yc (p ++ {g with atoms:=g.atoms++[i]}::r))))=W ([bD 0 (RG (p ++ {g with atoms:=g.atoms++[i]}::r)),ae af s,iI N,iI (i+1)],ax (RG (p ++ {g with atoms:=g.atoms++[i]}::r))):=by
  have f:l.length=(p ++ {g with atoms:=g.atoms++[i]}::r).length:=by rw[k];simp
  have:=Wng zM (t:=2) (v:=.hg o l.length 3 true) (R:=RG (p ++ {g with atoms:=g.atoms++[i]}::r)) (pre:=[]) (post:=[(7,ae af s),(8,iI N),(9,iI (i+1))])
   (by rw[f];exact Wzd (gS _) u0) (λp h=>by cases h) (λp h=>by
    simp only[vZ,AS,R7]at h;rcases h with rfl|rfl|rfl
    ·exact⟨u0,vw λ_ _=>rfl⟩
    ·exact⟨u0,rfl⟩
    ·exact⟨u0,rfl⟩)
  exact this
 have L:(V.hg o l.length 3 true).ng=.hs o 0 l.length 3 true:=rfl;have q:(V.hs o 0 l.length 3 true).ng=.hs o 0 l.length 3 true:=rfl;generalize ae af s=SV,V.hg o l.length 3 true=G,V.hs o 0 l.length 3 true=M,vG Iv 1 g.atoms=A1,vG Iv 1 (g.atoms++[i])=A2,I.set o (.cells d)=X,I.set o (.cells (yc (p ++ {g with atoms:=g.atoms++[i]}::r)))=U,bD 0 (RG (p ++ {g with atoms:=g.atoms++[i]}::r))=b,ax (RG (p ++ {g with atoms:=g.atoms++[i]}::r))=a at*;simp -implicitDefEqProofs(disch:=try exact wK)only[go_sem,oL,L,q,B,t1,F,H,J,K]
theorem Wbl:∀(r q:wD) (l:xe),s.l=q++r->l.length<=q.length->(∀g∈l,g.atoms.length<=q.length)->
  Dz QaT 0 0 [bD 0 (RG l),ae af s,iI s.l.length,iI q.length] (ax (RG l))=W (ae bj (ak (mM r q.length l)),[])
 |[],q,l,d,y,z=>by
  have c:¬(q.length:Int)<s.l.length:=by rw[d];simp
  rw[Ge];cases l with
  |nil=>have a:VJ 0 [2] [(2,.ad)] []=W ([.ad],[]):=rfl;show zV QaT 0 0 _ .ad _ _ _ []=W (.ad,[]);simp -implicitDefEqProofs(disch:=try exact wK)only[go_sem,zV,c,a]
  |cons g r=>
   have i:VJ 0 [2] [(2,.hg 0 (g::r).length 3 true)] [.cells (yc (g::r))]=W ([.hg 0 (g::r).length 3 true],[.cells (yc (g::r))]):=by have:=Wng (I0:=[]) zM (H:=[.cells (yc (g::r))]) (t:=2) (v:=.hg 0 (g::r).length 3 true) (R:=RG (g::r)) (pre:=[]) (post:=[]) (Wzd rfl u0) (λp b=>by cases b) (λp b=>by cases b);exact this
   have one:oK T (.hg 0 (g::r).length 3 true)=W (.hs 0 0 (g::r).length 3 true):=rfl;have j:nK 0 [.cells (yc (g::r))] (.hs 0 0 (g::r).length 3 true)=W (.sl ((g::r).map bj) .no,[]):=by
    have h:=UK (g::r) [] [];simp only[xQ,wt,xJ,Nat.mul_zero]at h;have k:((g::r).map bj).mapM (fz 0 [.cells (yc (g::r))] 39)=W ((g::r).map bj):=Qs0 (f:=bj) (λn x=>O6) (g::r);have e:fz 0 [.cells (yc (g::r))] fzD (.hs 0 0 (g::r).length 3 true)=((hN.get [.cells (yc (g::r))] 0).bind λcs=>(vk true 3 cs (g::r).length 0).bind λm=>(m.mapM (fz 0 [.cells (yc (g::r))] 39)).bind λo=>W (V.sl o .no)):=rfl;have b:hN.get [.cells (yc (g::r))] 0=W (yc (g::r)):=rfl;have p:fz 0 [.cells (yc (g::r))] fzD (.hs 0 0 (g::r).length 3 true)=W (.sl ((g::r).map bj) .no):=by rw[e,b];simp only[va];rw[h];simp only[va];rw[k];rfl
    unfold nK;rw[p];rfl
   show zV QaT 0 0 _ (.hg 0 (g::r).length 3 true) _ _ _ [.cells (yc (g::r))]=W (.sl ((g::r).map bj) .no,[]);generalize[O.cells (yc (g::r))]=a,V.hg 0 (g::r).length 3 true=G,V.hs 0 0 (g::r).length 3 true=w at*;simp -implicitDefEqProofs(disch:=try exact wK)only[go_sem,zV,c,i,one,j]
 |a::r,q,l,z,h1,P=>by
  have R:s.l.length=q.length+r.length+1:=by rw[z];simp;omega
  have Q:(q.length:Int)<s.l.length:=by omega
  have S:eI 7 (iI q.length) (ae af s)=W (.ai (aH a) 0):=KZ (f:=af) z rfl rfl;have m I:eL I true 7 (.ai (aH a) 0)=W (.agg (aH a)):=xg rfl BC;have U:(ae af s).ng=ae af s:=vz;have A:Wf (ax (RG l)):=by
   cases l with
   |nil=>exact zM
   |cons g r=>rw[show ax (RG (g::r))=[.cells (yc (g::r))]from rfl,Wh];exact Qhe _
  have B:Wf (ax (RG l)++[O.cells (aH a)]):=VS A rfl;have h d:Wf (ax (RG l)++[O.cells (aH a)]++[O.cells [.str d]]):=VS B rfl;have jk:u5 (ax (RG l)++[O.cells [iI 0,.bool T,.str [],.str [],iI 0,.str [],.bool T]]) 7 (.ptr (ax (RG l)).length 0) (.agg (aH a)) (.agg (aH a))=W (.undef,ax (RG l)++[.cells (aH a)]):=Ho rfl rfl rfl BC;have X:eL (ax (RG l)++[O.cells (aH a)]) T 1 (.ptr (ax (RG l)).length 3)=W (.str a.name):=by rw[yo,wJ];rfl
  have i:(ax (RG l)++[O.cells (aH a)]).length=(ax (RG l)).length+1:=u0;have n(x y:u2):u5 (ax (RG l)++[O.cells (aH a)]++[O.cells [.str x]]) 1 (.ptr ((ax (RG l)).length+1) 0) (.str y) (.str y)=W (.undef,ax (RG l)++[.cells (aH a)]++[.cells [.str y]]):=by
   rw[<-i];have:∀(b:hN),u5 (b++[O.cells [.str x]]) 1 (.ptr b.length 0) (.str y) (.str y)=W (.undef,b++[.cells [.str y]]):=λb=>by
    have e:u5 (b++[O.cells [.str x]]) 1 (.ptr b.length 0) (.str y) (.str y)=(hN.get (b++[O.cells [.str x]]) b.length).bind λc=>if(1:Nat)=1/\0+1<=c.length/\yd [V.str y]=true then W (.undef,((b++[O.cells [.str x]]:hN).set b.length (O.cells (c.set 0 (.str y))):hN))else none:=rfl
    rw[e,wJ,va,A9a ⟨rfl,u0,rfl⟩,Qkl];rfl
   exact this _
  have l0 d:eL (ax (RG l)++[O.cells (aH a)]++[O.cells [.str d]]) T 1 (.ptr (ax (RG l)).length 0)=W (iI a.kind):=by rw[yo,hN.cd wJ];rfl
  have C d:hN.get (ax (RG l)++[O.cells (aH a)]++[O.cells [.str d]]) (ax (RG l)).length=W (aH a):=hN.cd wJ;have t d:hN.get (ax (RG l)++[O.cells (aH a)]++[O.cells [.str d]]) ((ax (RG l)).length+1)=W [.str d]:=by rw[<-i];exact wJ
  have v:l≠[]->∀d,hN.get (ax (RG l)++[O.cells (aH a)]++[O.cells [.str d]]) 0=W (yc l):=λj d=>by
   cases l with
   |nil=>exact absurd rfl j
   |cons g r=>rfl
  have ih:=Wbl r (q++[a]) (Nm a.kind (ct a) q.length l) (by rw[z];simp) (by have:=WQ a.kind (ct a) q.length l;simp;omega) (by rw[vW];exact Qta a.kind (ct a) q.length q.length l P);rw[show((q++[a]).length:Int)=q.length+1 by simp,show(q++[a]).length=q.length+1 by simp]at ih;have D:n8 QaT 0 0 (Dz QaT 0 0) (bD 0 (RG l)) (iI q.length) (.ptr (ax (RG l)).length 0) (.ptr ((ax (RG l)).length+1) 0) (ae af s) (iI s.l.length) (iI q.length) (ax (RG l)++[.cells (aH a)]++[.cells [.str (ct a)]])
    = Dz QaT 0 0 [bD 0 (RG (Nm a.kind (ct a) q.length l)),ae af s,iI s.l.length,iI (q.length+1)] (ax (RG (Nm a.kind (ct a) q.length l))):=by
   have c:=sF (h (ct a)) (C (ct a)) (t (ct a)) l (bD 0 (RG l)).ng (by
    cases l with
    |nil=>exact .inl ⟨rfl,rfl⟩
    |cons g r=>exact .inr ⟨0,rfl,rfl⟩) Y
   have x:(bD 0 (RG l)).ng.ng=(bD 0 (RG l)).ng:=by cases l<;>rfl
   rcases Wit a.kind (ct a) q.length l 0 with ⟨x1,y⟩|⟨p,g,r',E,x1,y⟩
   ·rw[x1]at c;rw[y];have F:=l0 (ct a);have l5:eL (ax (RG l)++[O.cells (aH a)]++[O.cells [.str (ct a)]]) T 1 (.ptr ((ax (RG l)).length+1) 0)=W (.str (ct a)):=by rw[yo,t];rfl
    have bv:mz [iI 0,.str [],.ad] [(0,1,iI a.kind),(1,1,.str (ct a)),(2,1,.ad)]=W (bj (ix a)):=rfl;have bf:wS true 3 1 (.agg [iI 0,.str [],.ad]) [(0,bj (ix a))]=W (.sl [bj (ix a)] .fx):=rfl;have nB:(bj (ix a)).ng=bj (ix a):=rfl;have nF:(V.sl [bj (ix a)] .fx).ng=.sl [bj (ix a)] .no:=rfl;have H:∃o b,G' T true 3 48 (ax (RG l)++[.cells (aH a)]++[.cells [.str (ct a)]]) (bD 0 (RG l)) (.sl [bj (ix a)] .no)=W (.hg o (l++[(ix a)]).length 3 true,b)/\Wf b/\hN.get b o=W (yc (l++[(ix a)])):=by
     cases l with
     |nil=>exact⟨_,_,Wni rfl,VS (h _) (Qhe _),wJ⟩
     |cons g r=>
      refine⟨_,_,Wt0 (v u0 (ct a)) rfl (by simp at h1 ⊢; unfold Qaq;omega),VS (Tf (h _)) (Qhe _),?_⟩;have:=wJ (I:=(ax (RG (g::r))++[O.cells (aH a)]++[O.cells [.str (ct a)]]).set 0 .gone) (cs:=yc (g::r++[(ix a)]))
      rwa[GR]at this
    obtain⟨o,b,y1,d,f⟩:=H;have hj:=VZ s u (Dz QaT 0 0) o (l++[(ix a)]) l [] (ix a) rfl q.length s.l.length Y b d f u0 yZ;simp only[xQ]at hj;have lG:Qai (.hs o 0 (l++[(ix a)]).length 3 true)=W (iI (l.length+1:Nat)):=by rw[Wol,vW];rfl
    have nG:(V.hg o (l++[(ix a)]).length 3 true).ng=.hs o 0 (l++[(ix a)]).length 3 true:=rfl;have J:(V.hs o 0 (l++[(ix a)]).length 3 true).ng=.hs o 0 (l++[(ix a)]).length 3 true:=rfl;have e:((l.length+1:Nat):Int)-1=l.length:=by omega
    generalize M:(bD 0 (RG l)).ng=W0,(ax (RG l)).length=K,ax (RG l)++[O.cells (aH a)]++[O.cells [.str (ct a)]]=L at*;generalize ae af s=N,bj (ix a)=GG,V.sl [bj (ix a)] .no=F2,V.sl [bj (ix a)] .fx=F1,V.hg o (l++[(ix a)]).length 3 true=G,V.hs o 0 (l++[(ix a)]).length 3 true=a0,bD 0 (RG l)=W1 at*;simp -implicitDefEqProofs(disch:=try exact wK)only[go_sem,n8,M,x,c,F,l5,bv,nB,bf,nF,y1,nG,J,lG,e,hj]
   ·rw[x1]at c;rw[y];have j:l≠[]:=by rw[E];simp
    have e:=VZ s u (Dz QaT 0 0) 0 l p r' g E q.length s.l.length Y _ (h (ct a)) (v j (ct a)) (by have:=P g (by rw[E];simp);omega) Y;have o:bD 0 (RG l)=.hg 0 l.length 3 true:=by
     cases l with
     |nil=>exact absurd rfl j
     |cons g r=>rfl
    rw[xr]at c;have F:¬(p.length:Int)<0:=by omega
    rw[o]at c x ⊢;generalize ae af s=N,(ax (RG l)).length=K,ax (RG l)++[O.cells (aH a)]++[O.cells [.str (ct a)]]=L at*;simp -implicitDefEqProofs(disch:=try exact wK)only[go_sem,n8,x,c,F,e]
  rw[Ge];show _=W (ae bj (ak (mM r (q.length+1) (Nm a.kind (ct a) q.length l))),[]);rw[<-ih,<-D];have k:=l0 a.name;have s1:=n [] a.name;have s2:=n a.name [];by_cases w:a.kind=1
  ·have c:ct a=[]:=by unfold ct;rw[A9a w]
   rw[c];rw[w]at k;generalize ae af s=N,aH a=o,ax (RG l)++[O.cells (aH a)]=e,ax (RG l)++[O.cells (aH a)]++[O.cells [.str a.name]]=L at*;simp -implicitDefEqProofs(disch:=try exact wK)only[go_sem,zV,Q,S,m,U,jk,X,i,s1,k,s2]
  ·have c:ct a=a.name:=by unfold ct;rw[O3 w]
   rw[c];generalize ae af s=N,aH a=o,ax (RG l)++[O.cells (aH a)]=e,ax (RG l)++[O.cells (aH a)]++[O.cells [.str a.name]]=L at*;simp -implicitDefEqProofs(disch:=try exact wK)only[go_sem,zV,Q,S,m,U,jk,X,i,s1,k,w]
def vS(L:wD):xe:=mM L 0 []
theorem Wnj(I:hN):E cx 23 [ae af s] I=W (ae bj (ak (vS s.l)),I):=by refine v_ X0K X0K ?_ (by rw[Qae,vw λ_ _=>rfl];rfl) I;have a:Dz QaT 0 0 [.ad,ae af s,iI s.l.length,iI 0] []=W (ae bj (ak (vS s.l)),[]):=Wbl s u s.l [] [] rfl u0 (λg b=>by cases b);have c:(ae af s).ng=ae af s:=vz;have d:Qai (ae af s)=W (iI s.l.length):=ON;have e k I:fz k I fzD (ae af s)=W (ae af s):=vC (vw λ_ _=>rfl);rw[QbZ];simp only[go_sem,Ib,c,d,e,a]
end
def vK{a:Type}(f:a->V):List a->V
 |[]=>.ad
 |x::r=>.sl ((x::r).map f) .lk
variable{M:Rd}
section
variable{z:Type}{f:z->V}{sz:Nat}{l:List z}{φ q ψ u:hN}{cs:uZ}{o off:Nat}
def Ds(a:φ.length=o):hN.get (φ ++ .cells cs::ψ) o=some cs:=by subst a;unfold hN.get;rw[DQ (vE _),EU];rfl
def UT(a:φ.length=o):(φ++O.cells cs::ψ).set o (.cells j)=φ ++ .cells j::ψ:=by subst a;rw[Hh _ _ (vE _),EU];rfl
def Qtb(a:φ.length=o)(h:cs[off]?=W (vG f sz l)):Zy (φ ++ .cells cs::ψ) (.ptr o off)=W (vG f sz l,φ ++ .cells (cs.set off (ae f (ak l)))::ψ):=by
 have e:Zy (φ ++ .cells cs::ψ) (.ptr o off)=match vG f sz l with
  | .sl b (.gr s)=>W (.sl b (.gr s),(φ ++ .cells cs::ψ).set o (.cells (cs.set off (.sl b .no))))
  | .sl _ .lk=>none
  |v=>W (v,φ ++ .cells cs::ψ):=by
  unfold Zy;simp only[Ds a,h,u7,va];cases l<;>rfl
 rw[e];cases l with
 |nil=>
  show W (V.ad,φ ++ .cells cs::ψ)=W (V.ad,φ++O.cells (cs.set off .ad)::ψ);have:cs.set off .ad=cs:=by have⟨b,e⟩:=wy.1 h;rw[<-show cs[off]=V.ad from e];exact Ua _
  rw[this]
 |cons x r=>show W (V.sl _ _,(φ ++ .cells cs::ψ).set o _)=_;rw[UT a];rfl
def SW(a:φ.length=o)(h:off<cs.length):u5 (φ ++ .cells cs::ψ) 1 (.ptr o off) (ae f (ak l)) (vG f sz l)=W (.undef,φ ++ .cells (cs.set off (vG f sz l))::ψ):=by
 have b:=h;unfold u5;simp only[Ds a,u7,va,Qox];rw[A9a ⟨rfl,b,by rw[CY,CA];rfl⟩];cases l with
 |nil=>show W (V.undef,(φ ++ .cells cs::ψ).set o _)=_;rw[UT a]
 |cons x r=>show W (V.undef,(φ ++ .cells cs::ψ).set o _)=_;rw[UT a]
def Wiu(x:cs[off]?=W h):off<cs.length:=by have⟨a,_⟩:=wy.1 x;exact a
def Wt1(a:φ.length=o)(h:cs[off]?=W (vG f sz l)):ZU [VH (φ ++ .cells cs::ψ) (.ptr o off)] (φ ++ .cells (cs.set off (ae f (ak l)))::ψ)=W (φ ++ .cells (cs.set off (vK f l))::ψ):=by
 have b:=Wiu h;unfold VH;simp only[Ds a,va,h];cases l with
 |nil=>rfl
 |cons x r=>show Hs (φ ++ .cells (cs.set off (ae f (ak (x::r))))::ψ) [(o,off)]=_;unfold Hs;simp only[Ds a,Aa b];show Hs ((φ ++ .cells (cs.set off (ae f (ak (x::r))))::ψ).set o _) []=_;rw[UT a,OZ];rfl
def Wt2(b:φ.length=o)(a:q.length=o)(h:cs[off]?=W (vG f sz l)):w_ [VH (φ ++ .cells cs::ψ) (.ptr o off)] (φ ++ .cells (cs.set off (ae f (ak l)))::ψ) (q ++ .cells (cs.set off (vK f l))::u)=W (q ++ .cells (cs.set off (ae f (ak l)))::u):=by
 have c:=Wiu h;unfold VH;simp only[Ds b,va,h];cases l with
 |nil=>
  show(if(bt (φ ++ .cells (cs.set off .ad)::ψ) (q ++ .cells (cs.set off .ad)::u) (.same true o off 1)&&true)=true then W (q ++ .cells (cs.set off .ad)::u)else none)=_;have e:bt (φ ++ .cells (cs.set off .ad)::ψ) (q ++ .cells (cs.set off .ad)::u) (.same true o off 1):=by simp only[bt,Ds b,Ds a,decide_true,Ab,A9c];exact V.bG _
  rw[e];rfl
 |cons x r=>show(TS (q ++ .cells (cs.set off (vK f (x::r)))::u) [(o,off)]).bind _=_;unfold TS;simp only[Ds a,Aa c];show(TS ((q ++ .cells (cs.set off (vK f (x::r)))::u).set o _) []).bind _=_;rw[UT a,OZ];rfl
def Wiv:ZU [M,.none] c=ZU [M] c:=by
 have:[M,Rd.none].filterMap Rd.cell=[M].filterMap Rd.cell:=by cases M<;>rfl
 unfold ZU;rw[this]
def Wiw:w_ [M,.none] c b7=w_ [M] c b7:=by
 unfold w_;have a:[M,Rd.none].filterMap Rd.cell=[M].filterMap Rd.cell:=by cases M<;>rfl
 have d b:[M,Rd.none].all (bt c b)=[M].all (bt c b):=by simp only[Um,List.all_nil,CB];show(_&&true)=_;rw[CB]
 rw[a];simp only[d]
end
def Wze(v:V.rb d h):AG d h=none:=by
 cases h with
 |ptr o a=>simp[V.rb]at v;simp[AG];omega
 |hs o a b c n=>simp[V.rb]at v;simp[AG];omega
 |hg o a b c=>simp[V.rb]at v;simp[AG];omega
 |mp o=>simp[V.rb]at v;simp[AG];omega
 |_=>rfl
def Wt3(x:V.rb d h):OA d [] c h=some h:=by
 cases h with
 |ptr o a=>simp[V.rb]at x;simp[OA,ez,x]
 |hs o a b I n=>simp[V.rb]at x;simp[OA,ez,x]
 |hg o a b I=>simp[V.rb]at x;simp[OA,ez,x]
 |mp o=>simp[V.rb]at x;simp[OA,ez,x]
 |_=>exact vC x
def sG{I0 H:hN}(f:Wf I0){t:Nat}{ps:XB}(d:∀p∈ps,V.rb I0.length p.2):VJ I0.length [t] ps (I0++H)=W (ps.map Prod.snd,I0):=by
 have g:AG I0.length (mV t ps)=none:=by
  have:∀ps:XB,(∀p∈ps,V.rb I0.length p.2)->AG I0.length (mV t ps)=none:=λps=>by
   induction ps with
   |nil=>intro _;rfl
   |cons p r b=>
    intro h;unfold mV;split
    ·exact Wze (h p (wA ..))
    ·exact b λq c=>h q (wh _ c)
  exact this ps d
 have i:([t].filterMap λj=>AG I0.length (mV j ps))=[]:=by simp[g]
 unfold VJ;rw[i];have k:yn I0.length (I0++H) []=[]:=rfl;have e:VP [] (I0++H)=I0++H:=rfl;have l:∀ps:XB,(∀p∈ps,V.rb I0.length p.2)->mB I0.length (I0++H) [t] [] ps=W (ps.map Prod.snd):=λps=>by
  induction ps with
  |nil=>intro _;rfl
  |cons p r b=>intro h;have a:=h p (wA ..);unfold mB;rw[b λq c=>h q (wh _ c),Wt3 a,vC a];simp
 have a:xx I0.length (I0++H) []=some I0:=by unfold xx;rw[e];rw[xd f];simp
 rw[k,e,l ps d,a];rfl
def UU{cs:uZ}(a:cs.length=d)(b:yd cs):wS true d 1 h [(0,.agg cs)]=W (.sl [.agg cs] .fx):=by
 have e:NA d (List.replicate 1 h) [(0,.agg cs)]=if cs.length=d/\0<1/\yd cs=true then W [.agg cs]else none:=rfl
 rw[A9a ⟨a,by omega,b⟩]at e;unfold wS;rw[e];have:ZS true d [.agg cs]:=by rw[zw,RH,b,xG a];rfl
 show(if ZS true d [.agg cs]=true then _ else none)=_;rw[A9a this]
def cC(a:bq):dQ:=⟨a.op,a.text,a.fold⟩
structure fX where
 space:List UInt8
 atoms:List Int
 conds:List dQ
def cK(p:fX):uZ:=[.str p.space,ae (V.int .i64) (ak p.atoms),ae eS (ak p.conds)]
@[reducible] def aZ(p:fX):V:=.agg (cK p)
def ZK{p:fX}:V.aL d (cK p):=by simp only[cK,Qae,xA,xK,CB,Ab];rw[vw λ_ _=>rfl,vw λ_ _=>rfl];rfl
attribute [go_sem] ZK
def Wnk{p:fX}:(cK p).map V.ng=cK p:=by simp only[cK,xc,Xbx,vz,Wfa]
def Wnl{p:fX}:yd (cK p):=by simp only[cK,CY,MO,CA,Jg,CB]
def f_(sp:u2)(st:u_×wZ):uZ:=[.str sp,vG (V.int .i64) 1 st.1,vG eS 3 st.2]
def jK(sp:u2)(i:Int)(a:bq)(st:u_×wZ):u_×wZ:=if a.has=false\/a.space=sp then(st.1++[i],st.2++[cC a])else st
def jQ(L:wD)(sp:u2):u_->u_×wZ->u_×wZ
 |[],b=>b
 |i::r,b=>match L[i.toNat]? with|some a=>jQ L sp r (jK sp i a b)|none=>jQ L sp r b
def gx(L:wD)(g:bH)(sp:u2):fX:=⟨sp,(jQ L sp g.atoms ([],[])).1,(jQ L sp g.atoms ([],[])).2⟩
def Wt4(st:u_×wZ):(jK c0 U R st).1.length<=st.1.length+1/\(jK c0 U R st).2.length<=st.2.length+1:=by unfold jK;split<;>simp
section
variable(s:Sl bq)(hs:s.l.length<=10000)(g:bH)(z:∀i∈g.atoms,0<=i/\i<s.l.length)(hn:g.atoms.length<=5000){S:hN}(u:Wf S)(Q:0<S.length)
include hs z hn u Q
theorem Wzf(t:Rk)(sp:u2)(d:List fX)(D:d.length<=100000)(e:V)(v:V.rb S.length e)(N o:Int)(P:0<=o/\o<=1000000):∀(r q:u_) (st:u_×wZ),g.atoms=q++r->st.1.length<=q.length->st.2.length<=q.length->
  Cg QaT 0 S.length t (S.length+1) [ae af s,.ptr 0 0,vG aZ 3 d,.str sp,.ptr S.length 0,e,iI N,iI o,ae Iv (ak g.atoms),iI g.atoms.length,iI q.length] (S++[.cells (f_ sp st)])
  = t [ae af s,.ptr 0 0,vG aZ 3 (d++[⟨sp,(jQ s.l sp r st).1,(jQ s.l sp r st).2⟩]),e,iI N,iI (o+1)] S
 |[],q,st,p,B,C=>by
  have w:¬(q.length:Int)<g.atoms.length:=by rw[p];simp
  have h:Wf (S++[O.cells (f_ sp st)]):=VS u (by simp only[f_,Qae,xA,xK,CB,Ab];rw[Qc3 λ_=>rfl,Qc3 λ_=>rfl];rfl)
  have b:ve (S.length+1) (S++[O.cells (f_ sp st)])=W (S++[O.cells (f_ sp st)]):=by
   have:=Kk h
   rwa[show(S++[O.cells (f_ sp st)]).length=S.length+1 by simp]at this
  have a:ve S.length (S++[O.cells (f_ sp st)])=some S:=xd u;have x:eL (S++[O.cells (f_ sp st)]) true 3 (.ptr S.length 0)=W (aZ ⟨sp,st.1,st.2⟩):=by rw[yo,wJ,va,Ai (by simp[f_])];show W (V.agg [.str sp,(vG (V.int .i64) 1 st.1).ng,(vG eS 3 st.2).ng])=_;rw[h7,h7];rfl
  have y:wS true 3 1 (.agg [.str [],.ad,.ad]) [(0,aZ ⟨sp,st.1,st.2⟩)]=W (.sl [aZ ⟨sp,st.1,st.2⟩] .fx):=UU rfl Wnl;have A(I:hN)(c:bU):aT T true 3 64 I (vG aZ 3 d) (.sl [aZ ⟨sp,st.1,st.2⟩] c)=W (vG aZ 3 (d++[⟨sp,st.1,st.2⟩])):=
   UM (f:=aZ) (λ_=>rfl) (λ_=>Wnl) (λ_=>rfl) (by unfold Qaq;omega)
  have f1 n I:fz n I fzD (ae af s)=W (ae af s):=vC (vw λ_ _=>rfl);have f2 I:fz (S.length+1) I fzD (.ptr 0 0)=W (.ptr 0 0):=vC (by simp[V.rb]);have f3 I:fz S.length I fzD (.ptr 0 0)=W (.ptr 0 0):=vC (by simp[V.rb];omega);have f4 n I l:fz n I fzD (vG aZ 3 l)=W (vG aZ 3 l):=vC (Qc3 λ_=>ZK);have f5 I:fz (S.length+1) I fzD (.ptr S.length 0)=W (.ptr S.length 0):=vC (by simp[V.rb]);have f6 I:fz (S.length+1) I fzD e=some e:=vC (xI (GX _) v);have j:=λn I=>f4 n I d;have m:=λn I=>f4 n I (d++[⟨sp,st.1,st.2⟩]);rw[Iw];show _=t [ae af s,.ptr 0 0,vG aZ 3 (d++[⟨sp,st.1,st.2⟩]),e,iI N,iI (o+1)] S;generalize S.length=k at*;simp -implicitDefEqProofs(disch:=try exact wK)only[go_sem,Az,w,f1,f2,f3,j,m,f5,f6,b,a,x,y,A]
 |i::r,q,st,L,h1,h2=>by
  have a3:g.atoms.length=q.length+r.length+1:=by rw[L];simp;omega
  have Q:(q.length:Int)<g.atoms.length:=by omega
  have hi:=z i (by rw[L];simp);have l:s.l[i.toNat]?=W s.l[i.toNat]:=vO Y;have hF:jQ s.l sp (i::r) st=jQ s.l sp r (jK sp i s.l[i.toNat] st):=by simp only[jQ,l]
  generalize s.l[i.toNat]=a at l hF;have R:=Wt4 sp i a st;have U:=Wzf t sp d D e v N o P r (q++[i]) (jK sp i a st) (by rw[L];simp) yZ yZ;rw[<-hF,show((q++[i]).length:Int)=q.length+1 by simp]at U;have w:eI 1 (iI q.length) (ae Iv (ak g.atoms))=W (.ai [iI i] 0):=KZ (f:=Iv) (by rw[CL];exact L) rfl rfl;have x I:eL I T 1 (.ai [iI i] 0)=W (iI i):=rfl;have X:eI 7 (iI i) (ae af s)=W (.ai (aH a) 0):=Nk (f:=af) l hi.1 rfl;have j I:eL I T 1 (.ai (aH a) 1)=W (.bool a.has):=rfl;have y I:eL I T 1 (.ai (aH a) 2)=W (.str a.space):=rfl;have E I:eL I true 3 (.ai (aH a) 4)=W (eS (cC a)):=rfl;have fa:∀n:Nat,eF n (.ai (aH a) 0)=W (.ai (aH a) n):=λn=>by show W (V.ai (aH a) (0+n))=_;rw[xr]
  have A:(ae af s).ng=ae af s:=vz;have B:(ae Iv (ak g.atoms)).ng=ae Iv (ak g.atoms):=vz;have f1 n I:fz n I fzD (ae af s)=W (ae af s):=vC (vw λ_ _=>rfl);have f2 I:fz (S.length+1) I fzD (.ptr 0 0)=W (.ptr 0 0):=vC (by simp[V.rb]);have f4 n I:fz n I fzD (vG aZ 3 d)=W (vG aZ 3 d):=vC (Qc3 λ_=>ZK);have f5 I:fz (S.length+1) I fzD (.ptr S.length 0)=W (.ptr S.length 0):=vC (by simp[V.rb]);have f6 I:fz (S.length+1) I fzD e=some e:=vC (xI (GX _) v);have f8 n I:fz n I fzD (ae Iv (ak g.atoms))=W (ae Iv (ak g.atoms)):=vC (vw λ_ _=>rfl);have p st:ve (S.length+1) (S++[O.cells (f_ sp st)])=W (S++[O.cells (f_ sp st)]):=by
   have c:Wf (S++[O.cells (f_ sp st)]):=VS u (by simp only[f_,Qae,xA,xK,CB,Ab];rw[Qc3 λ_=>rfl,Qc3 λ_=>rfl];rfl)
   have:=Kk c
   rwa[show(S++[O.cells (f_ sp st)]).length=S.length+1 by simp]at this
  have m:Dk QaT 0 S.length t (S.length+1) (Cg QaT 0 S.length t (S.length+1)) (ae af s) (.ptr 0 0) (vG aZ 3 d) (.str sp) (.ptr S.length 0) e (iI N) (iI o) (ae Iv (ak g.atoms)) (iI g.atoms.length) (iI q.length) (S++[.cells (f_ sp (jK sp i a st))])
    = t [ae af s,.ptr 0 0,vG aZ 3 (d++[⟨sp,(jQ s.l sp (i::r) st).1,(jQ s.l sp (i::r) st).2⟩]),e,iI N,iI (o+1)] S:=by
   have C:=p (jK sp i a st);generalize S.length=k,ae af s=SV,ae Iv (ak g.atoms)=AV,vG aZ 3 d=h,vG aZ 3 (d++[⟨sp,(jQ s.l sp (i::r) st).1,(jQ s.l sp (i::r) st).2⟩])=c,S++[O.cells (f_ sp (jK sp i a st))]=b at*;simp -implicitDefEqProofs(disch:=try exact wK)only[go_sem,Dk,f1,f2,f4,f5,f6,f8,C,U]
  rw[Iw,<-m];by_cases C:a.has=T\/a.space=sp
  ·have hP:jK sp i a st=(st.1++[i],st.2++[cC a]):=by unfold jK;rw[A9a C]
   have h:Zy (S++[O.cells (f_ sp st)]) (.ptr S.length 1)=W (vG Iv 1 st.1,S++[O.cells [.str sp,ae Iv (ak st.1),vG eS 3 st.2]]):=Qtb (cs:=f_ sp st) (off:=1) rfl rfl;have k:Zy (S++[O.cells [.str sp,ae Iv (ak st.1),vG eS 3 st.2]]) (.ptr S.length 2)=W (vG eS 3 st.2,S++[O.cells [.str sp,ae Iv (ak st.1),ae eS (ak st.2)]]):=Qtb (cs:=[.str sp,ae Iv (ak st.1),vG eS 3 st.2]) (off:=2) rfl rfl;have lk:ZU [VH (S++[O.cells [.str sp,ae Iv (ak st.1),vG eS 3 st.2]]) (.ptr S.length 2),xN true 3 (.ai (aH a) 4)] (S++[O.cells [.str sp,ae Iv (ak st.1),ae eS (ak st.2)]])=W (S++[O.cells [.str sp,ae Iv (ak st.1),vK eS st.2]]):=by show ZU [_,.none] _=_;rw[Wiv];exact Wt1 rfl rfl
   have op:w_ [VH (S++[O.cells [.str sp,ae Iv (ak st.1),vG eS 3 st.2]]) (.ptr S.length 2),xN true 3 (.ai (aH a) 4)] (S++[O.cells [.str sp,ae Iv (ak st.1),ae eS (ak st.2)]]) (S++[O.cells [.str sp,ae Iv (ak st.1),vK eS st.2]])=W (S++[O.cells [.str sp,ae Iv (ak st.1),ae eS (ak st.2)]]):=by show w_ [_,.none] _ _=_;rw[Wiw];exact Wt2 rfl rfl rfl
   have F:wS true 3 1 (.agg [iI 0,.str [],.bool T]) [(0,eS (cC a))]=W (.sl [eS (cC a)] .fx):=rfl;have G(I:hN)(c:bU):aT T T 1 8 I (vG Iv 1 st.1) (.sl [iI i] c)=W (vG Iv 1 (st.1++[i])):=UM (f:=Iv) (λ_=>rfl) (λ_=>rfl) (λ_=>rfl) (by unfold Qaq;omega);have H(I:hN)(c:bU):aT T true 3 32 I (vG eS 3 st.2) (.sl [eS (cC a)] c)=W (vG eS 3 (st.2++[cC a])):=UM (f:=eS) (λ_=>rfl) (λ_=>rfl) (λ_=>rfl) (by unfold Qaq;omega);have J:u5 (S++[O.cells [.str sp,ae Iv (ak st.1),ae eS (ak st.2)]]) 1 (.ptr S.length 1) (ae Iv (ak (st.1++[i]))) (vG Iv 1 (st.1++[i]))=W (.undef,S++[O.cells [.str sp,vG Iv 1 (st.1++[i]),ae eS (ak st.2)]]):=SW (cs:=[.str sp,ae Iv (ak st.1),ae eS (ak st.2)]) (off:=1) rfl u0;have K:u5 (S++[O.cells [.str sp,vG Iv 1 (st.1++[i]),ae eS (ak st.2)]]) 1 (.ptr S.length 2) (ae eS (ak (st.2++[cC a]))) (vG eS 3 (st.2++[cC a]))=W (.undef,S++[O.cells (f_ sp (jK sp i a st))]):=by rw[hP];exact SW rfl u0
   have n3:(eS (cC a)).ng=eS (cC a):=rfl;clear U p hP hF R m;rcases M7 a.has with M|M
   ·have a0:a.space=sp:=C.resolve_left (by rw[M];simp);rw[M]at j;subst a0;generalize jK a.space i a st=ST at*;generalize a1:ae Iv (ak (st.1++[i]))=X1,ae Iv (ak g.atoms)=AV,ae af s=SV,O.cells (f_ a.space st)=C1,O.cells (f_ a.space ST)=C0 at*;generalize a2:ae eS (ak (st.2++[cC a]))=X2 at*;generalize eS (cC a)=X3 at*;simp -implicitDefEqProofs(disch:=try exact wK)only[go_sem,Az,Q,w,x,B,A,X,fa,j,y,E,h,k,F,n3,lk,G,op,H,a1,a2,J,K]
   ·rw[M]at j;generalize jK sp i a st=ST at*;generalize a0:ae Iv (ak (st.1++[i]))=X1,ae Iv (ak g.atoms)=AV,ae af s=SV,O.cells (f_ sp st)=C1,O.cells (f_ sp ST)=C0 at*;generalize a1:ae eS (ak (st.2++[cC a]))=X2 at*;generalize eS (cC a)=X3 at*;simp -implicitDefEqProofs(disch:=try exact wK)only[go_sem,Az,Q,w,x,B,A,X,fa,j,y,E,h,k,F,n3,lk,G,op,H,a0,a1,J,K]
  ·have k:jK sp i a st=st:=by unfold jK;rw[O3 C]
   rw[k];have F:a.has:=by
    cases G:a.has with
    |true=>rfl
    |false=>exact absurd (.inl G) C
   have c:¬a.space=sp:=λh=>C (.inr h);rw[F]at j;generalize ae Iv (ak g.atoms)=AV,ae af s=SV,S++[O.cells (f_ sp st)]=b at*;simp -implicitDefEqProofs(disch:=try exact wK)only[go_sem,Az,Q,w,x,B,A,X,fa,j,y,c]
end
def hY{I:hN}:ve 0 I=W []:=by have:=xd (H:=I) zM;exact this
variable{L:Type}
def Qyd{f:L->V}{l:List L}:oK T (vG f d l)=W (ae f (ak l)):=by unfold oK;rw[Ww5,CR,A9a rfl];cases l<;>rfl
def Gv.rb{I:hN}{v:V}{l:List u2}(h:Gv I v l):V.rb I.length v:=by
 have:=h.lt;cases h with
 |nil=>rfl
 |hg o l hg a=>simpa[V.rb]using this o (vR.2 rfl)
def Gv.nn{I:hN}(v:Gv I h b6):h.ng.ng=h.ng:=by cases v<;>rfl
def TU{H:hN}(a:d<c.length)(h:hN.get (c++H) d=W j):hN.get c d=some j:=by
 unfold hN.get at h ⊢
 rwa[AH a]at h
def lz:Nat->aO->aO
 |0,l=>l
 |f+1,l=>lz f (l++[PQ l])
theorem Qye:∀(f:Nat) (l:aO),(lz f l).length=l.length+f
 |0,l=>rfl
 |f+1,l=>by show(lz f (l++[PQ l])).length=_;rw[Qye f];simp;omega
theorem IJ(L:wD):∀(r:u_) (st:aO×aO×Nat),(iM L r st).1.length<=st.1.length+r.length/\(iM L r st).2.1.length<=st.2.1.length+r.length/\(iM L r st).2.2<=st.2.2+r.length
 |[],st=>⟨by simp[iM],by simp[iM],by simp[iM]⟩
 |i::r,st=>by
  unfold iM;split
  ·rename_i a _;have b:=Qyc a st;have c:=IJ L r (iL a st);simp only[vT];omega
  ·have a:=IJ L r st;simp only[vT];omega
def Qbj(L:wD)(g:bH):List fX:=(lz (Qan L g).2.2 (Qan L g).2.1).map (gx L g)
section
variable(s:Sl bq)(z:s.l.length<=10000)(g:bH)(hg:∀i∈g.atoms,0<=i/\i<s.l.length)(u:g.atoms.length<=5000)
include z hg u
theorem Wzg{S:hN}(i:Wf S)(w:0<S.length)(e:hN.get S 0=W (az g))(c:V)(b:aO)(d:V.rb S.length c)(x:jO V.str S c.ng b)(f:b.length<=50000):∀(r q:List u2) (a:List fX),b=q++r->a.length<=q.length->
  AA QaT 0 S.length [ae af s,.ptr 0 0,vG aZ 3 a,c,iI b.length,iI q.length] S=W (ae aZ (ak (a++r.map (gx s.l g))),[])
 |[],q,a,j,m=>by
  have k:¬(q.length:Int)<b.length:=by rw[j];simp
  have f4 n I:fz n I fzD (vG aZ 3 a)=W (vG aZ 3 a):=vC (Qc3 λ_=>ZK);have h:=Kk i;have one:oK T (vG aZ 3 a)=W (ae aZ (ak a)):=Qyd;have l:nK 0 S (ae aZ (ak a))=W (ae aZ (ak a),[]):=VU hY (vw λ_ _=>ZK);rw[Ix];rw[Xbx,wt];simp only[go_sem,Dl,k,f4,h,one,l]
 |sp::r,q,a,j,G=>by
  have y:b.length=q.length+r.length+1:=by rw[j];simp;omega
  have B:(q.length:Int)<b.length:=by omega
  have⟨H,C,D,h⟩:=x.rd q r sp j;have h:=h [];rw[wt]at h;have A:=Wzg i w e c b d x f r (q++[sp]) (a++[gx s.l g sp]) (by rw[j];simp) yZ;have E:=Wzf s z g hg u i w (AA QaT 0 S.length) sp a Y c d b.length q.length Y g.atoms [] ([],[]) rfl u0 u0;rw[show((q++[sp]).length:Int)=q.length+1 by simp,wL]at A;have k:Cg QaT 0 S.length (AA QaT 0 S.length) (S.length+1) [ae af s,.ptr 0 0,vG aZ 3 a,.str sp,.ptr S.length 0,c,iI b.length,iI q.length,ae Iv (ak g.atoms),iI g.atoms.length,iI 0] (S++[.cells (f_ sp ([],[]))])=W (ae aZ (ak (a++(sp::r).map (gx s.l g))),[]):=E.trans A;have l:u5 (S++[O.cells [.str [],.ad,.ad]]) 3 (.ptr S.length 0) (.agg [.str sp,.ad,.ad]) (.agg [.str sp,.ad,.ad])=W (.undef,S++[.cells (f_ sp ([],[]))]):=Ho rfl rfl rfl rfl;have F:eL (S++[O.cells (f_ sp ([],[]))]) T 1 (.ptr 0 2)=W (ae Iv (ak g.atoms)):=by rw[yo,hN.cd e];show W (ae Iv (ak g.atoms)).ng=_;rw[vz]
  have m:(S++[O.cells (f_ sp ([],[]))]).length=S.length+1:=u0;have o:(ae Iv (ak g.atoms)).ng=ae Iv (ak g.atoms):=vz;have p:Qai (ae Iv (ak g.atoms))=W (iI g.atoms.length):=by rw[ON,CL]
  have f1 n I:fz n I fzD (ae af s)=W (ae af s):=vC (vw λ_ _=>rfl);have f4 n I:fz n I fzD (vG aZ 3 a)=W (vG aZ 3 a):=vC (Qc3 λ_=>ZK);have f6 I:fz (S.length+1) I fzD c=some c:=vC (xI (GX _) d);have f8 n I:fz n I fzD (ae Iv (ak g.atoms))=W (ae Iv (ak g.atoms)):=vC (vw λ_ _=>rfl);rw[Ix];generalize t:S++[O.cells [.str [],.ad,.ad]]=L,S++[O.cells (f_ sp ([],[]))]=K,vG aZ 3 a=J,ae aZ (ak (a++(sp::r).map (gx s.l g)))=R at*;generalize v:c.ng=N,ae af s=M,ae Iv (ak g.atoms)=AV at*;simp -implicitDefEqProofs(disch:=try exact wK)only[go_sem,Dl,v,B,C,D,h,t,l,F,m,o,p,f1,f4,f6,f8,k]
theorem Wt5{H:hN}(d:Wf c)(X:0<c.length)(j:hN.get c 0=W (az g))(l:Gv (c++H) h i):
  ∃S k,VJ c.length [6] [(1,ae af s),(2,.ptr 0 0),(4,.ad),(6,h)] (c++H)=W ([ae af s,.ptr 0 0,.ad,k],S)/\Wf S/\0<S.length/\hN.get S 0=W (az g)/\Gv S k i:=by
 have a:∀p∈[(1,ae af s),(2,V.ptr 0 0),(4,V.ad)],V.rb c.length p.2:=λp b=>by
  simp only[vZ,AS,R7]at b;rcases b with rfl|rfl|rfl
  ·exact vw λ_ _=>rfl
  ·simpa[V.rb]using X
  ·rfl
 by_cases v:∀o∈eT h,o<c.length
 ·refine⟨c,h,?_,d,X,j,?_⟩
  ·have f:V.rb c.length h:=by
    cases l with
    |nil=>rfl
    |hg o i hg e=>simpa[V.rb]using v o (vR.2 rfl)
   exact sG d λp b=>by
    rcases xf.1 (show p∈[(1,ae af s),(2,V.ptr 0 0),(4,V.ad)]++[(6,h)]from b)with e|e
    ·exact a p e
    ·obtain rfl:=vR.1 e;exact f
  ·exact l.frame λo f e hg=>TU (v o e) hg
 ·have e:∀o∈eT h,c.length<=o:=λo m=>by
   refine Xn λn=>v λq f => ?_;have:q=o:=by
    cases l with
    |nil=>cases m
    |hg t i hg r=>rw[vR.1 m,vR.1 f]
   omega
  refine⟨c++ax (RS i),bD c.length (RS i),?_,XD d i,by rw[vW];omega,hN.cd j,?_⟩
  ·exact Wng d (l.at e) (λp b=>⟨by simp only[vZ,AS,R7]at b;rcases b with rfl|rfl|rfl<;>simp,a p b⟩) (λp b=>by cases b)
  ·have:=Rq (I0:=c) (H:=[]) i
   rwa[wt]at this
theorem Wt6{H:hN}(X:Wf c)(w:Wf (c++H))(A:0<c.length)(j:hN.get c 0=W (az g))(l:Gv (c++H) h i)(x:∀o∈eT h,1<=o)(t:u2)(B:i.length<=100000)(f k:Int):
  ∃X' a b,(∀v,G' T T 1 16 (c++H) h (.sl [.str t] v)=W (b,a))/\
   VJ c.length [6] [(1,ae af s),(2,.ptr 0 0),(4,.ad),(6,b),(20,iI f),(21,iI k)] a=W ([ae af s,.ptr 0 0,.ad,bD c.length (RS (i++[t])),iI f,iI k],X'++ax (RS (i++[t])))
   /\ X'.length=c.length/\Wf X'/\hN.get X' 0=W (az g):=by
 have m:∀(X' d:hN),X'.length=c.length->Wf X'->VJ c.length [6] [(1,ae af s),(2,.ptr 0 0),(4,.ad),(6,.hg (X'++d).length (i++[t]).length 1 T),(20,iI f),(21,iI k)] (X'++(d++[.cells ((i++[t]).map V.str)]))=W ([ae af s,.ptr 0 0,.ad,bD c.length (RS (i++[t])),iI f,iI k],X'++ax (RS (i++[t]))):=λX' d u n=>by
  rw[<-u];have hg:Gv (X'++(d++[O.cells ((i++[t]).map V.str)])) (.hg (X'++d).length (i++[t]).length 1 T) (i++[t]):=.hg _ _ (by rw[<-wL];exact wJ) u0;exact Wng n (pre:=[(1,ae af s),(2,.ptr 0 0),(4,.ad)]) (hg.at λo r=>by
    rw[vR.1 r,vW];omega) (λp e=>by
    simp only[vZ,AS,R7]at e;rcases e with rfl|rfl|rfl
    ·exact⟨u0,vw λ_ _=>rfl⟩
    ·exact⟨u0,by simp only[V.rb,A9f];omega⟩
    ·exact⟨u0,rfl⟩) (λp e=>by
    simp only[vZ,AS,R7]at e;rcases e with rfl|rfl
    ·exact⟨u0,rfl⟩
    ·exact⟨u0,rfl⟩)
 have q:∀(X' d:hN) (b:V),X'.length=c.length->Wf X'->hN.get X' 0=W (az g)->b=.hg (X'++d).length (i++[t]).length 1 T->(∀v,G' T T 1 16 (c++H) h (.sl [.str t] v)=W (b,X'++(d++[.cells ((i++[t]).map V.str)])))->
  ∃X' a b,(∀v,G' T T 1 16 (c++H) h (.sl [.str t] v)=W (b,a))/\
   VJ c.length [6] [(1,ae af s),(2,.ptr 0 0),(4,.ad),(6,b),(20,iI f),(21,iI k)] a=W ([ae af s,.ptr 0 0,.ad,bD c.length (RS (i++[t])),iI f,iI k],X'++ax (RS (i++[t])))
   /\ X'.length=c.length/\Wf X'/\hN.get X' 0=W (az g):=λX' d b e n p u y=>by
  refine⟨X',_,b,y,?_,e,n,p⟩;rw[u];exact m X' d e n
 have C:=l;cases l with
 |nil=>refine q c H (.hg (c++H).length 1 1 T) rfl X j rfl λv => ?_;rw[Qvr,wL];rfl
 |hg o i hg y=>
  have r:=x o (vR.2 rfl);have u v:G' T T 1 16 (c++H) (.hg o i.length 1 T) (.sl [.str t] v)=W (.hg (c++H).length (i++[t]).length 1 T,(c++H).set o .gone++[.cells ((i++[t]).map V.str)]):=Tr hg (by unfold Qaq;omega);by_cases p:o<c.length
  ·have e:(c++H).set o .gone=c.set o .gone++H:=List.set_append_left _ _ p;have z:(c++H).length=(c.set o .gone++H).length:=u0;refine q (c.set o .gone) H _ (GR ..) (Tf X) (Nz j Y) (A9e (λn=>V.hg n (i++[t]).length 1 T) z) λv => ?_;rw[u,e,wL]
  ·have e:(c++H).set o .gone=c++H.set (o-c.length) .gone:=Hh _ _ Y;have z:(c++H).length=(c++H.set (o-c.length) .gone).length:=u0;refine q c (H.set (o-c.length) .gone) _ rfl X j (A9e (λn=>V.hg n (i++[t]).length 1 T) z) λv => ?_;rw[u,e,wL]
theorem Wzh:∀(f k d:Nat) (X H:hN) (v:V) (l:aO),d=k+f->0<X.length->Wf X->Wf (X++H)->hN.get X 0=W (az g)->Gv (X++H) v l->(∀o∈eT v,1<=o)->l.length+f<=20000->d<=20000->
  Dn QaT 0 X.length [ae af s,.ptr 0 0,.ad,v,iI d,iI k] (X++H)=W (ae aZ (ak ((lz f l).map (gx s.l g))),[])
 |0,k,d,X,H,v,l,t,w,x,y,A,h,F,B,C=>by
  have D:¬(k:Int)<d:=by omega
  have⟨S,b,E,c,e,m,a⟩:=Wt5 s z g hg u x w A h;have r:=a.tv.rd c;have p:=Wzg s z g hg u c e m b l a.rb r Y l [] [] rfl u0;have i:AA QaT 0 S.length [ae af s,.ptr 0 0,.ad,b,iI l.length,iI 0] S=W (ae aZ (ak (l.map (gx s.l g))),[]):=p;have j:=r.len;have f1 n I:fz n I fzD (ae af s)=W (ae af s):=vC (vw λ_ _=>rfl);have f2 I:fz S.length I fzD (.ptr 0 0)=W (.ptr 0 0):=vC (by simpa[V.rb]using e);have f3 I:fz S.length I fzD b=W b:=vC a.rb;rw[Iy];show _=W (ae aZ (ak (l.map (gx s.l g))),[]);generalize q:b.ng=J,ae af s=G,ae aZ (ak (l.map (gx s.l g)))=R at*;simp only[go_sem,Dm,D,E,q,j,f1,f2,f3,i]
 |f+1,k,d,X,H,v,l,t,w,x,e,y,h,A,B,m=>by
  have C:(k:Int)<d:=by omega
  have p:=Qyb h.tv e Y;have E:=h.nn;have⟨j,a,J,F,D,G,i,q⟩:=Wt6 s z g hg u x e w y h A (PQ l) Y d (k+1);have r:=Wzh f (k+1) d j (ax (RS (l++[PQ l]))) (bD j.length (RS (l++[PQ l]))) (l++[PQ l]) Y Y i (XD i _) q (by
   have:=Rq (I0:=j) (H:=[]) (l++[PQ l])
   rwa[wt]at this) (λo I=>by have:=jI _ o I;omega) yZ m
  rw[G]at r;rw[Hm]at r;rw[Iy];show _=W (ae aZ (ak ((lz f (l++[PQ l])).map (gx s.l g))),[]);generalize n:v.ng=L,ae af s=K,j++ax (RS (l++[PQ l]))=c,bD X.length (RS (l++[PQ l]))=b,ae aZ (ak ((lz f (l++[PQ l])).map (gx s.l g)))=R at*;generalize X++H=Q at*;simp -implicitDefEqProofs(disch:=try exact wK)only[go_sem,Dm,C,n,E,p,F,D,r]
theorem Wnn(I:hN):E cx 60 [bj g,ae af s] I=W (ae aZ (ak (Qbj s.l g)),I):=by
 refine v_ X0K X0K ?_ (by rw[Qae,Qun,O6,Qae,vw λ_ _=>rfl];rfl) I;have b:Wf [O.cells (az g)]:=by rw[Wh];exact O6
 have d:=IJ s.l g.atoms ([],[],0);have a:=Wir s z g hg u b;have e:([O.cells (az g)]:hN).length=1:=rfl;rw[e]at a;unfold l_ ma at a;have f:iM s.l g.atoms ([],[],0)=Qan s.l g:=rfl;rw[f]at d;have h:Dn QaT 0 ([O.cells (az g)]++ax (RS (Qan s.l g).1)++ax (RS (Qan s.l g).2.1)).length [ae af s,.ptr 0 0,.ad,bD (1+(ax (RS (Qan s.l g).1)).length) (RS (Qan s.l g).2.1),iI (Qan s.l g).2.2,iI 0] ([O.cells (az g)]++ax (RS (Qan s.l g).1)++ax (RS (Qan s.l g).2.1))=W (ae aZ (ak (Qbj s.l g)),[]):=by
  have c:Wf ([O.cells (az g)]++ax (RS (Qan s.l g).1)++ax (RS (Qan s.l g).2.1)):=XD (XD b _) _;have:=Wzh s z g hg u (Qan s.l g).2.2 0 (Qan s.l g).2.2 ([O.cells (az g)]++ax (RS (Qan s.l g).1)++ax (RS (Qan s.l g).2.1)) [] (bD (1+(ax (RS (Qan s.l g).1)).length) (RS (Qan s.l g).2.1)) (Qan s.l g).2.1 Y u0 c (by rw[wt];exact c) (by rw[wL];rfl)
   (by have:=Wbj (I0:=[O.cells (az g)]) (H:=[]) (Qan s.l g).1 (Qan s.l g).2.1;exact this) (λo i=>by have:=jI _ o i;omega) (by simp at d;omega) (by simp at d;omega)
  rw[wt]at this;exact this
 have j I:fz ([O.cells (az g)]++ax (RS (Qan s.l g).1)++ax (RS (Qan s.l g).2.1)).length I fzD (bD (1+(ax (RS (Qan s.l g).1)).length) (RS (Qan s.l g).2.1))=W (bD (1+(ax (RS (Qan s.l g).1)).length) (RS (Qan s.l g).2.1)):=vC (by have:=(Wbj (I0:=[O.cells (az g)]) (H:=[]) (Qan s.l g).1 (Qan s.l g).2.1).rb;rw[wt]at this;exact this)
 have f2 I:fz ([O.cells (az g)]++ax (RS (Qan s.l g).1)++ax (RS (Qan s.l g).2.1)).length I fzD (.ptr 0 0)=W (.ptr 0 0):=vC (by simp[V.rb]);have l:bK [] (.agg (az g))=W (.ptr 0 0,[.cells (az g)]):=KM;have m:eL [O.cells (az g)] true 3 (.ptr 0 0)=W (.agg (az g)):=by show Ev.part true 3 (az g) 0=_;rw[Ai (by simp[az])];show W (V.agg ((az g).map V.ng))=_;rw[BQ]
 have n:(ae af s).ng=ae af s:=vz;have p k I:fz k I fzD (ae af s)=W (ae af s):=vC (vw λ_ _=>rfl);have q:(bD (1+(ax (RS (Qan s.l g).1)).length) (RS (Qan s.l g).2.1)).aI=bD (1+(ax (RS (Qan s.l g).1)).length) (RS (Qan s.l g).2.1):=by cases(Qan s.l g).2.1<;>rfl
 rw[QaC];simp only[bj];simp only[bj]at a;generalize az g=y,[O.cells (az g)]=x,ae af s=w,bD 1 (RS (Qan s.l g).1)=v,bD (1+(ax (RS (Qan s.l g).1)).length) (RS (Qan s.l g).2.1)=t,ae aZ (ak (Qbj s.l g))=R,[O.cells (az g)]++ax (RS (Qan s.l g).1)++ax (RS (Qan s.l g).2.1)=r at*;simp only[go_sem,Rv,l,m,n,p,a,q,j,f2,h]
end
variable{G:Bool}
def Qtc{off:Nat}{I:hN}{cs:uZ}(h:hN.get I n=W cs)(a:hN.get c n=W cs):w_ [xN G d (.ptr n off)] I c=W c:=by
 have e:bt I c (.same T n off (if G then d else 1)):=by simp only[bt,h,a,decide_true,Ab];rw[O3 (by decide)];exact V.bG _
 show(if(bt I c (.same T n off (if G then d else 1))&&true)=true then W c else none)=_;rw[e];rfl
section
variable{u:Type}{f:u->V}{sz:Nat}{l m:List u}
def Wix{bytes:Nat}(a:∀x,(f x).cells.length=sz)(b:∀x,yd (f x).cells)(ag:∀x,eg G (f x))(d:(l.length+m.length)*bytes<=Qaq):
  aT T G sz bytes c (vG f sz l) (ae f (ak m))=W (vG f sz (l++m)):=by
 cases m with
 |nil=>
  rw[wt];have:RE G sz bytes (vG f sz l) []=W (vG f sz l):=by cases l<;>rfl
  exact this
 |cons y r=>
  cases l with
  |nil=>have e:=DU (l:=y::r) a b ag;show RE G sz bytes .ad ((y::r).map f)=W (vG f sz (y::r));unfold RE;rw[e,A9a rfl];simp only[xc];rw[O3 u0,A9a (by simpa using d)];rfl
  |cons x q=>exact yC a b ag (.inr rfl) u0 d
end
structure Ne where
 parent:Int
 kind:Int
 space:List UInt8
 name:List UInt8
 attrs:List kI
 an:List (List UInt8)
 text:List UInt8
abbrev wx:=List Ne
def Ne.nd(n:Ne):Nd:=⟨n.parent,n.kind,n.space,n.name,ak n.attrs,ak n.an,n.text⟩
abbrev aC(n:Ne):List V:=bX n.nd
@[reducible] def ar(n:Ne):V:=.agg (aC n)
def gY(n:Ne)(a s:V):uZ:=[.int .i64 n.parent,.int .i64 n.kind,.str n.space,.str n.name,a,s,.str n.text]
variable{r:Ne}
def TC:(aC r).length=7:=rfl
def wR:V.rb d (ar r):=yD
attribute [go_sem] wR
def z7:uZ:=[.int .i64 0,.int .i64 0,.str [],.str [],.ad,.ad,.str []]
def dZ(v:fF):uZ:=[.sl (v.holds.map Bv) .no,.str v.value,.bool v.gL]
variable{X:fF}
def Wzi:bK c (aK X)=W (.ptr c.length 0,c++[.cells (dZ X)]):=rfl
def Wbm(l:List kI)(a:l.length<=1000000)(I:hN):E cx 55 [ae ay (ak l)] I=W (vG ay 3 l,I):=by
 refine v_ X0K X0K ?_ (by rw[Qae,vw λ_ _=>rfl];rfl) I;rw[TJ];cases l with
 |nil=>have b:nK 0 [] V.ad=W (.ad,[]):=rfl;have c:eB .eql .row .ad .ad=W (.bool true):=rfl;show(D9 QaT .ad []).bind (u1 [])=W (.ad,[]);simp only[go_sem,D9,c,b]
 |cons x r=>
  have e c:aT T true 3 48 [] (.sl [] .fx) (.sl ((x::r).map ay) c)=W (.sl ((x::r).map ay) (.gr 3)):=
   yC (l:=[]) (λ_=>rfl) (λ_=>rfl) (λ_=>rfl) (.inl rfl) u0 (by unfold Qaq;simp at a ⊢; omega)
  have b:nK 0 [] (V.sl ((x::r).map ay) (.gr 3))=W (.sl ((x::r).map ay) (.gr 3),[]):=VU hY (Qc3 (l:=x::r) λ_=>rfl);have d:eB .eql .row (.sl ((x::r).map ay) .no) .ad=W (.bool T):=rfl;show(D9 QaT (.sl ((x::r).map ay) .no) []).bind (u1 [])=W (.sl ((x::r).map ay) (.gr 3),[]);generalize(x::r).map ay=L at*;simp only[go_sem,D9,d,e,b]
def Wbn(l:List u2)(a:l.length<=1000000)(I:hN):E cx 56 [ae V.str (ak l)] I=W (vG V.str 1 l,I):=by
 refine v_ X0K X0K ?_ (by rw[Qae,vw λ_ _=>rfl];rfl) I;rw[TK];cases l with
 |nil=>have b:nK 0 [] V.ad=W (.ad,[]):=rfl;have c:eB .eql .row .ad .ad=W (.bool true):=rfl;show(Lw QaT .ad []).bind (u1 [])=W (.ad,[]);simp only[go_sem,Lw,c,b]
 |cons x r=>
  have e c:aT T T 1 16 [] (.sl [] .fx) (.sl ((x::r).map V.str) c)=W (.sl ((x::r).map V.str) (.gr 1)):=
   yC (l:=[]) (λ_=>rfl) (λ_=>rfl) (λ_=>rfl) (.inl rfl) u0 (by unfold Qaq;simp at a ⊢; omega)
  have b:nK 0 [] (V.sl ((x::r).map V.str) (.gr 1))=W (.sl ((x::r).map V.str) (.gr 1),[]):=VU hY (Qc3 (l:=x::r) λ_=>rfl);have d:eB .eql .row (.sl ((x::r).map V.str) .no) .ad=W (.bool T):=rfl;show(Lw QaT (.sl ((x::r).map V.str) .no) []).bind (u1 [])=W (.sl ((x::r).map V.str) (.gr 1),[]);generalize(x::r).map V.str=L at*;simp only[go_sem,Lw,d,e,b]
def Zw(n:Ne)(sp nm:u2)(v:fF):Ne:=if v.gL then n else {n with attrs:=n.attrs++[⟨sp,nm,v.value⟩]}
def jk{a:uZ}(b:a.length=7):u5 [.cells j,.cells b8,.cells a] 7 (.ptr 2 0) (ar r) (ar r)=W (.undef,[.cells j,.cells b8,.cells (aC r)]):=
 Ho (I:=[.cells j,.cells b8]) rfl b qf Gn
def uw(a:j.length=7)(h:j.map V.ng=aC r):eL (.cells j::c) true 7 (.ptr 0 0)=W (ar r):=by show Ev.part true 7 j 0=_;rw[Ai Y,JN,<-a,Hl,h]
def ux:il [.cells j,.cells b8,.cells (aC r)] true 7 (.ptr 2 0)=W (ar r):=by show Ev.part true 7 (aC r) 0=_;rw[Ai (vE _)];show W (V.agg ((aC r).map V.ng))=_;rw[Gn]
def sH:oK T (ar r)=W (ar r):=by unfold oK;have:eg true (ar r):=rfl;rw[this,C5,A9a rfl];rfl
def Wzj(n:Ne)(sp nm:u2)(v:fF)(y:n.attrs.length<=100000)(I:hN):E cx 62 [ar n,.str sp,.str nm,aK v] I=W (ar (Zw n sp nm v),I):=by
 refine v_ X0K X0K ?_ (by rw[Qae,wR,Qae,xA,Qae,xA,Qae,OM];rfl) I;have i:bK [] (.agg (aC n))=W (.ptr 0 0,[.cells (aC n)]):=Ss;have b2:bK [.cells (aC n)] (aK v)=W (.ptr 1 0,[.cells (aC n),.cells (dZ v)]):=Wzi;have j:(aK v).ng=aK v:=rfl;have k:eL [.cells (aC n),.cells (dZ v),.cells z7] T 1 (.ptr 0 4)=W (ae ay (ak n.attrs)):=by show W (V.ng (ae ay (ak n.attrs)))=_;rw[vz]
 have a:=λI=>Wbm n.attrs Y I;have l:u5 [.cells (aC n),.cells (dZ v),.cells z7] 1 (.ptr 0 4) (ae ay (ak n.attrs)) (vG ay 3 n.attrs)=W (.undef,[.cells (gY n (vG ay 3 n.attrs) (ae V.str (ak n.an))),.cells (dZ v),.cells z7]):=SW (φ:=[]) (cs:=aC n) (off:=4) rfl (by simp[aC,bX]);have f:eL [.cells (gY n (vG ay 3 n.attrs) (ae V.str (ak n.an))),.cells (dZ v),.cells z7] T 1 (.ptr 1 2)=W (.bool v.gL):=rfl;have h:(vG ay 3 n.attrs).ng=ae ay (ak n.attrs):=h7;have b:(ae ay (ak n.attrs)).ng=ae ay (ak n.attrs):=vz;have g:∀(A:uZ) (r:Ne),A.length=7->A.map V.ng=aC r->pc QaT 0 (.ptr 0 0) (.ptr 2 0) [.cells A,.cells (dZ v),.cells z7]=W (ar r,[]):=λA r e c=>by have m:eL [.cells A,.cells (dZ v),.cells z7] true 7 (.ptr 0 0)=W (ar r):=uw e c;have o:u5 [.cells A,.cells (dZ v),.cells z7] 7 (.ptr 2 0) (ar r) (ar r)=W (.undef,[.cells A,.cells (dZ v),.cells (aC r)]):=jk rfl;have p:il [.cells A,.cells (dZ v),.cells (aC r)] true 7 (.ptr 2 0)=W (ar r):=ux;have q:oK T (ar r)=W (ar r):=sH;have s:nK 0 [.cells A,.cells (dZ v),.cells (aC r)] (ar r)=W (ar r,[]):=VU hY wR;have t:(ar r).ng=ar r:=rfl;generalize ar r=R,([.cells A,.cells (dZ v),.cells z7]:hN)=w,([.cells A,.cells (dZ v),.cells (aC r)]:hN)=u at*;simp -implicitDefEqProofs(disch:=try exact wK)only[go_sem,pc,m,o,p,q,s,t]
 rw[S5];unfold Zw;cases d:v.gL with
 |true=>
  have c:=g (gY n (vG ay 3 n.attrs) (ae V.str (ak n.an))) n rfl (by show[_,_,_,_,(vG ay 3 n.attrs).ng,(ae V.str (ak n.an)).ng,_]=_;rw[h,vz];rfl)
  rw[d]at f;simp only[A9c];simp only[ar]at g c ⊢;unfold z7 at*;generalize e:([.cells (gY n (vG ay 3 n.attrs) (ae V.str (ak n.an))),.cells (dZ v),.cells [iI 0,iI 0,.str [],.str [],.ad,.ad,.str []]]:hN)=m at*;generalize aC n=s,dZ v=r,aK v=q,ae ay (ak n.attrs)=p,vG ay 3 n.attrs=o at*;simp -implicitDefEqProofs(disch:=try exact wK)only[go_sem,Mu,i,j,b2,k,a,b,h,l,f,c]
 |false=>
  rw[d]at f;simp only[vD,A9d];have p:Zy [.cells (gY n (vG ay 3 n.attrs) (ae V.str (ak n.an))),.cells (dZ v),.cells z7] (.ptr 0 4)=W (vG ay 3 n.attrs,[.cells (aC n),.cells (dZ v),.cells z7]):=Qtb (φ:=[]) (cs:=gY n (vG ay 3 n.attrs) (ae V.str (ak n.an))) (off:=4) rfl rfl;have q:eL [.cells (aC n),.cells (dZ v),.cells z7] T 1 (.ptr 1 1)=W (.str v.value):=rfl;have r:mz [.str [],.str [],.str []] [(0,1,.str sp),(1,1,.str nm),(2,1,.str v.value)]=W (ay ⟨sp,nm,v.value⟩):=rfl;have s:wS true 3 1 (.agg [.str [],.str [],.str []]) [(0,ay ⟨sp,nm,v.value⟩)]=W (.sl [ay ⟨sp,nm,v.value⟩] .fx):=rfl;have t:(ay ⟨sp,nm,v.value⟩).ng=ay ⟨sp,nm,v.value⟩:=rfl;have u(I:hN)(c:bU):aT T true 3 48 I (vG ay 3 n.attrs) (.sl [ay ⟨sp,nm,v.value⟩] c)=W (vG ay 3 (n.attrs++[⟨sp,nm,v.value⟩])):=
   UM (λ_=>rfl) (λ_=>rfl) (λ_=>rfl) (by unfold Qaq;omega)
  have e:(vG ay 3 (n.attrs++[⟨sp,nm,v.value⟩])).ng=ae ay (ak (n.attrs++[⟨sp,nm,v.value⟩])):=h7;have w:u5 [.cells (aC n),.cells (dZ v),.cells z7] 1 (.ptr 0 4) (ae ay (ak (n.attrs++[⟨sp,nm,v.value⟩]))) (vG ay 3 (n.attrs++[⟨sp,nm,v.value⟩]))=W (.undef,[.cells (gY n (vG ay 3 (n.attrs++[⟨sp,nm,v.value⟩])) (ae V.str (ak n.an))),.cells (dZ v),.cells z7]):=SW (φ:=[]) (cs:=aC n) (off:=4) rfl (by simp[aC,bX]);have m:=g (gY n (vG ay 3 (n.attrs++[⟨sp,nm,v.value⟩])) (ae V.str (ak n.an))) {n with attrs:=n.attrs++[⟨sp,nm,v.value⟩]} rfl (by show[_,_,_,_,(vG ay 3 (n.attrs++[⟨sp,nm,v.value⟩])).ng,(ae V.str (ak n.an)).ng,_]=_;rw[e,vz];rfl)
  generalize G:({n with attrs:=n.attrs++[⟨sp,nm,v.value⟩]}:Ne)=R at*;simp only[ar]at g m ⊢;unfold z7 at*;generalize x:([.cells (gY n (vG ay 3 (n.attrs++[⟨sp,nm,v.value⟩])) (ae V.str (ak n.an))),.cells (dZ v),.cells [iI 0,iI 0,.str [],.str [],.ad,.ad,.str []]]:hN)=H at*;generalize o:([.cells (gY n (vG ay 3 n.attrs) (ae V.str (ak n.an))),.cells (dZ v),.cells [iI 0,iI 0,.str [],.str [],.ad,.ad,.str []]]:hN)=z at*;generalize aC n=F,dZ v=D,aK v=C,ae ay (ak n.attrs)=B,vG ay 3 n.attrs=A,ay ⟨sp,nm,v.value⟩=L,ae ay (ak (n.attrs++[⟨sp,nm,v.value⟩]))=K,vG ay 3 (n.attrs++[⟨sp,nm,v.value⟩])=J at*;simp -implicitDefEqProofs(disch:=try exact wK)only[go_sem,Mu,i,j,b2,k,a,b,h,l,f,p,q,r,t,s,u,e,w,m]
def Wiy{cs:uZ}{x:u2}(b:hN.get c d=W cs)(h:n<cs.length):u5 c 1 (.ptr d n) (.str x) (.str x)=W (.undef,c.set d (.cells (cs.set n (.str x)))):=by
 have e:u5 c 1 (.ptr d n) (.str x) (.str x)=(hN.get c d).bind λa=>if(1:Nat)=1/\n+1<=a.length/\yd [V.str x]=true then W (.undef,(c.set d (O.cells (a.set n (.str x))):hN))else none:=rfl
 rw[e,b,va,A9a ⟨rfl,h,rfl⟩]
variable{D:Int}
def Wiz{I:hN}{cs:uZ}{k:IntKind}(b:hN.get I d=W cs)(h:n<cs.length):u5 I 1 (.ptr d n) (.int k D) (.int k D)=W (.undef,I.set d (.cells (cs.set n (.int k D)))):=by
 have e:u5 I 1 (.ptr d n) (.int k D) (.int k D)=(hN.get I d).bind λa=>if(1:Nat)=1/\n+1<=a.length/\yd [V.int k D]=true then W (.undef,(I.set d (O.cells (a.set n (.int k D))):hN))else none:=rfl
 rw[e,b,va,A9a ⟨rfl,h,rfl⟩]
def Qte{I:hN}{cs:uZ}(b:hN.get I d=W cs)(h:n<cs.length):u5 I 1 (.ptr d n) (.bool G) (.bool G)=W (.undef,I.set d (.cells (cs.set n (.bool G)))):=by
 have e:u5 I 1 (.ptr d n) (.bool G) (.bool G)=(hN.get I d).bind λa=>if(1:Nat)=1/\n+1<=a.length/\yd [V.bool G]=true then W (.undef,(I.set d (O.cells (a.set n (.bool G))):hN))else none:=rfl
 rw[e,b,va,A9a ⟨rfl,h,rfl⟩]
def Wno(a b:Ne):Ne:=if b.name=[]then a else {a with space:=b.space,name:=b.name}
def ee(a b:Ne):Ne:={a with attrs:=a.attrs++b.attrs,an:=a.an++b.an}
def KK(a b:Ne):Ne:=ee (Wno a b) b
def XT(a b:Ne)(E:a.attrs.length<=100000/\a.an.length<=100000)(F:b.attrs.length<=100000/\b.an.length<=100000):
  oW QaT 0 (.ptr 0 0) (.ptr 1 0) (.ptr 2 0) [.cells (aC a),.cells (aC b),.cells z7]=W (ar (ee a b),[]):=by
 have k:eL [.cells (aC a),.cells (aC b),.cells z7] T 1 (.ptr 0 4)=W (ae ay (ak a.attrs)):=by show W (V.ng (ae ay (ak a.attrs)))=_;rw[vz]
 have l:eL [.cells (aC a),.cells (aC b),.cells z7] T 1 (.ptr 1 4)=W (ae ay (ak b.attrs)):=by show W (V.ng (ae ay (ak b.attrs)))=_;rw[vz]
 have d o I:ZU [xN T 1 (.ptr 1 o)] I=some I:=rfl;have c:∀o (A:uZ),w_ [xN T 1 (.ptr 1 o)] [.cells A,.cells (aC b),.cells z7] [.cells A,.cells (aC b),.cells z7]=W [.cells A,.cells (aC b),.cells z7]:=λo A=>Qtc (cs:=aC b) rfl rfl;have m:=λI=>Wbm a.attrs Y I;have n:=λI=>Wbn a.an Y I;have e I:aT T true 3 48 I (vG ay 3 a.attrs) (ae ay (ak b.attrs))=W (vG ay 3 (a.attrs++b.attrs)):=Wix (λ_=>rfl) (λ_=>rfl) (λ_=>rfl) (by unfold Qaq;omega);have f I:aT T T 1 16 I (vG V.str 1 a.an) (ae V.str (ak b.an))=W (vG V.str 1 (a.an++b.an)):=Wix (λ_=>rfl) (λ_=>rfl) (λ_=>rfl) (by unfold Qaq;omega);have p:u5 [.cells (aC a),.cells (aC b),.cells z7] 1 (.ptr 0 4) (ae ay (ak (a.attrs++b.attrs))) (vG ay 3 (a.attrs++b.attrs))=W (.undef,[.cells (gY a (vG ay 3 (a.attrs++b.attrs)) (ae V.str (ak a.an))),.cells (aC b),.cells z7]):=SW (φ:=[]) (cs:=aC a) (off:=4) rfl (by rw[TC];omega);have q:eL [.cells (gY a (vG ay 3 (a.attrs++b.attrs)) (ae V.str (ak a.an))),.cells (aC b),.cells z7] T 1 (.ptr 0 5)=W (ae V.str (ak a.an)):=by show W (V.ng (ae V.str (ak a.an)))=_;rw[vz]
 have r:eL [.cells (gY a (vG ay 3 (a.attrs++b.attrs)) (ae V.str (ak a.an))),.cells (aC b),.cells z7] T 1 (.ptr 1 5)=W (ae V.str (ak b.an)):=by show W (V.ng (ae V.str (ak b.an)))=_;rw[vz]
 have s:u5 [.cells (gY a (vG ay 3 (a.attrs++b.attrs)) (ae V.str (ak a.an))),.cells (aC b),.cells z7] 1 (.ptr 0 5) (ae V.str (ak (a.an++b.an))) (vG V.str 1 (a.an++b.an))=W (.undef,[.cells (gY a (vG ay 3 (a.attrs++b.attrs)) (vG V.str 1 (a.an++b.an))),.cells (aC b),.cells z7]):=SW (φ:=[]) (cs:=gY a (vG ay 3 (a.attrs++b.attrs)) (ae V.str (ak a.an))) (off:=5) rfl (by simp[gY]);have i:(vG ay 3 (a.attrs++b.attrs)).ng=ae ay (ak (a.attrs++b.attrs)):=h7;have j:(vG V.str 1 (a.an++b.an)).ng=ae V.str (ak (a.an++b.an)):=h7;have t:eL [.cells (gY a (vG ay 3 (a.attrs++b.attrs)) (vG V.str 1 (a.an++b.an))),.cells (aC b),.cells z7] true 7 (.ptr 0 0)=W (ar (ee a b)):=uw rfl (by show[_,_,_,_,(vG ay 3 (a.attrs++b.attrs)).ng,(vG V.str 1 (a.an++b.an)).ng,_]=_;rw[i,j];rfl)
 have u:u5 [.cells (gY a (vG ay 3 (a.attrs++b.attrs)) (vG V.str 1 (a.an++b.an))),.cells (aC b),.cells z7] 7 (.ptr 2 0) (ar (ee a b)) (ar (ee a b))=W (.undef,[.cells (gY a (vG ay 3 (a.attrs++b.attrs)) (vG V.str 1 (a.an++b.an))),.cells (aC b),.cells (aC (ee a b))]):=jk rfl;have v:il [.cells (gY a (vG ay 3 (a.attrs++b.attrs)) (vG V.str 1 (a.an++b.an))),.cells (aC b),.cells (aC (ee a b))] true 7 (.ptr 2 0)=W (ar (ee a b)):=ux;have w:oK T (ar (ee a b))=W (ar (ee a b)):=sH;have x:nK 0 [.cells (gY a (vG ay 3 (a.attrs++b.attrs)) (vG V.str 1 (a.an++b.an))),.cells (aC b),.cells (aC (ee a b))] (ar (ee a b))=W (ar (ee a b),[]):=VU hY wR;have y:(ar (ee a b)).ng=ar (ee a b):=rfl;have z:(ae ay (ak a.attrs)).ng=ae ay (ak a.attrs):=vz;have B:(ae ay (ak b.attrs)).ng=ae ay (ak b.attrs):=vz;have C:(ae V.str (ak a.an)).ng=ae V.str (ak a.an):=vz;have D:(ae V.str (ak b.an)).ng=ae V.str (ak b.an):=vz;have g:=c 4 (aC a);have h:=c 5 (gY a (vG ay 3 (a.attrs++b.attrs)) (ae V.str (ak a.an)));generalize ae V.str (ak b.an)=U,ae V.str (ak a.an)=S,ae ay (ak b.attrs)=Q,ae ay (ak a.attrs)=P,vG V.str 1 (a.an++b.an)=O,ae V.str (ak (a.an++b.an))=N,vG ay 3 (a.attrs++b.attrs)=M,ae ay (ak (a.attrs++b.attrs))=L,ar (ee a b)=R,([.cells (aC a),.cells (aC b),.cells z7]:hN)=K,([.cells (gY a (vG ay 3 (a.attrs++b.attrs)) (ae V.str (ak a.an))),.cells (aC b),.cells z7]:hN)=J,([.cells (gY a (vG ay 3 (a.attrs++b.attrs)) (vG V.str 1 (a.an++b.an))),.cells (aC b),.cells z7]:hN)=H,([.cells (gY a (vG ay 3 (a.attrs++b.attrs)) (vG V.str 1 (a.an++b.an))),.cells (aC b),.cells (aC (ee a b))]:hN)=G at*;simp -implicitDefEqProofs(disch:=try exact wK)only[go_sem,oW,z,B,C,D,k,l,d,g,h,m,n,e,f,p,q,r,s,i,j,t,u,v,w,x,y]
def Wnp(a b:Ne)(e:a.attrs.length<=100000/\a.an.length<=100000)(f:b.attrs.length<=100000/\b.an.length<=100000)(I:hN):E cx 37 [ar a,ar b] I=W (ar (KK a b),I):=by
 refine v_ X0K X0K ?_ (by rw[Qae,wR,Qae,wR];rfl) I;have g:bK [] (.agg (aC a))=W (.ptr 0 0,[.cells (aC a)]):=Ss;have b2:bK [.cells (aC a)] (.agg (aC b))=W (.ptr 1 0,[.cells (aC a),.cells (aC b)]):=Ss;have d:eL [.cells (aC a),.cells (aC b),.cells z7] T 1 (.ptr 1 3)=W (.str b.name):=rfl;rw[S4];unfold KK Wno;by_cases c:b.name=[]
 ·rw[A9a c];have h:=XT a b e f;rw[c]at d;simp only[ar];unfold z7 at*;simp -implicitDefEqProofs only[go_sem,Ms,g,b2,d,h]
 ·rw[O3 c];have h:=XT {a with space:=b.space,name:=b.name} b e f;have i:eL [.cells (aC a),.cells (aC b),.cells z7] T 1 (.ptr 1 2)=W (.str b.space):=rfl;have j I:ZU [xN T 1 (.ptr 1 3)] I=some I:=rfl;have k:u5 [.cells (aC a),.cells (aC b),.cells z7] 1 (.ptr 0 2) (.str b.space) (.str b.space)=W (.undef,[.cells (aC {a with space:=b.space}),.cells (aC b),.cells z7]):=Wiy (cs:=aC a) rfl (by rw[TC];omega);have l:w_ [xN T 1 (.ptr 1 3)] [.cells (aC a),.cells (aC b),.cells z7] [.cells (aC {a with space:=b.space}),.cells (aC b),.cells z7]=W [.cells (aC {a with space:=b.space}),.cells (aC b),.cells z7]:=Qtc rfl rfl;have m:u5 [.cells (aC {a with space:=b.space}),.cells (aC b),.cells z7] 1 (.ptr 0 3) (.str b.name) (.str b.name)=W (.undef,[.cells (aC {a with space:=b.space,name:=b.name}),.cells (aC b),.cells z7]):=Wiy (cs:=aC {a with space:=b.space}) rfl (by rw[TC];omega);simp only[ar];unfold z7 at*;simp -implicitDefEqProofs only[go_sem,Ms,g,b2,d,c,i,j,k,l,m,h]
abbrev MK:=Int×Bool
def iO(s:Sl bq)(B:Int)(m:MK):uZ:=[ae af s,.int .i64 m.1,.int .i64 B,.bool m.2]
abbrev aj(s:Sl bq)(B:Int)(m:MK):O:=.cells (iO s B m)
def au(B:Int)(m:MK):Bool×MK:=if m.2=true\/B<=m.1 then(false,(m.1,true))else(true,(m.1+1,m.2))
def cF(B:Int)(m:MK):Prop:=0<=m.1/\m.1<=max B 0/\B<9223372036854775808
def ZE{B:Int}{m:MK}(h:cF B m):cF B (au B m).2:=by
 unfold au;split
 ·exact h
 ·rename_i a;have:=λh=>a (.inr h);unfold cF at h ⊢;simp only;omega
variable{A:MK}
section
variable(s:Sl bq)(B:Int)
def Qa{n:Nat}(m:MK):V.aL n (iO s B m):=by simp only[iO,Qae,C2,ZZ,xK,CB];exact vw λ_ _=>rfl
def pI{m:MK}{H:hN}(h:Wf (aj s B m::H)):Wf (aj s B A::H):=by unfold Wf at h ⊢;rw[Um,vc]at h ⊢;exact⟨Qa s B A,h.2⟩
def KN{H:hN}(h:Wf (aj s B A::H)):ve (H.length+1) (aj s B A::H)=W (aj s B A::H):=Kk h
def UW:V.aL 0 (.ptr d n::j)=T:=by simp[V.aL,V.rb]
def UP(m:MK)(g:cF B m){H:hN}(h:Wf (aj s B m::H)):E cx 21 [.ptr 0 0] (aj s B m::H)=W (.bool (au B m).1,aj s B (au B m).2::H):=by
 have c:eL (aj s B m::H) T 1 (.ptr 0 3)=W (.bool m.2):=rfl;have i:eL (aj s B m::H) T 1 (.ptr 0 1)=W (iI m.1):=rfl;have j:eL (aj s B m::H) T 1 (.ptr 0 2)=W (iI B):=rfl;have l:u5 (aj s B m::H) 1 (.ptr 0 3) (.bool true) (.bool true)=W (.undef,aj s B (m.1,true)::H):=Qte (cs:=iO s B m) rfl (by simp[iO]);have o k:u5 (aj s B m::H) 1 (.ptr 0 1) (iI k) (iI k)=W (.undef,aj s B (k,m.2)::H):=Wiz (cs:=iO s B m) rfl (by simp[iO]);have d:(aj s B m::H).length=H.length+1:=rfl;have e a:nK (H.length+1) (aj s B a::H) (.bool T)=W (.bool T,aj s B a::H):=VU (KN s B (pI s B h)) rfl;have f a:nK (H.length+1) (aj s B a::H) (.bool true)=W (.bool true,aj s B a::H):=VU (KN s B (pI s B h)) rfl;have n:=e (m.1,true);have p:=f (m.1+1,m.2);rw[TG _ _ UW rfl];unfold au;obtain⟨k,lim⟩:=m;simp only at*;unfold cF at g;simp only at g;cases lim with
 |true=>rw[A9a (.inl rfl)];simp only;simp only[go_sem,HJ,c,l,d,n]
 |false=>
  by_cases b:B<=k
  ·rw[A9a (.inr b)];simp only;simp only[go_sem,HJ,c,i,j,b,l,d,n]
  ·rw[O3 (by simp[b])];simp only;have q:=o (k+1);simp -implicitDefEqProofs(disch:=try exact wK)only[go_sem,HJ,c,i,j,b,q,d,p]
end
def ue(y:Int):qC true [iI U,iI y]=W (iI (if y>U then y else U)):=rfl
def Yd{φ:hN}:hN.get (φ++[.cells j]++c) φ.length=some j:=by simp[hN.get]
def Qyf{f:L->V}{l:List L}:oK T (ae f (ak l))=W (ae f (ak l)):=by unfold oK;rw[CA,CR,A9a rfl];cases l<;>rfl
def bY{b:Type}(B:Int)(f:b->Ne):List b->wx->MK->Option wx×MK
 |[],a,m=>(some a,m)
 |p::r,a,m=>if(au B m).1=true then bY B f r (a++[f p]) (au B m).2 else(none,(au B m).2)
def bF:Option wx->V
 |some l=>ae ar (ak l)
 |none=>.ad
theorem Tk{b:Type}{B:Int}{f:b->Ne}:∀(l:List b) (a:wx) (m:MK),cF B m->cF B (bY B f l a m).2
 |[],a,m,h=>h
 |p::r,a,m,h=>by
  unfold bY;split
  ·exact Tk r _ _ (ZE h)
  ·exact ZE h
def dY:Ne:=⟨0,0,[],[],[],[],[]⟩
def dW(g:bH):wx:=[dY,{dY with an:=[g.name]}]
section
variable(s:Sl bq)(B:Int)
def Wnq(g:bH)(m:MK)(w:cF B m)(y:Wf (aj s B m::c)):E cx 40 [.ptr 0 0,bj g] (aj s B m::c)=W (bF (bY B id (dW g) [] m).1,aj s B (bY B id (dW g) [] m).2::c):=by
 have j:bK (aj s B m::c) (.agg (az g))=W (.ptr (c.length+1) 0,aj s B m::c++[.cells (az g)]):=KM;have d a:Wf (aj s B a::c++[.cells (az g)]):=VS (pI s B y) O6;have b:E cx 21 [.ptr 0 0] (aj s B m::c++[.cells (az g)])=W (.bool (au B m).1,aj s B (au B m).2::c++[.cells (az g)]):=UP s B m w (d m);have H:E cx 21 [.ptr 0 0] (aj s B (au B m).2::c++[.cells (az g)])=W (.bool (au B (au B m).2).1,aj s B (au B (au B m).2).2::c++[.cells (az g)]):=UP s B _ (ZE w) (d _);have C a:eL (aj s B a::c++[.cells (az g)]) T 1 (.ptr (c.length+1) 1)=W (.str g.name):=by have:hN.get (aj s B a::c++[O.cells (az g)]) (c.length+1)=W (az g):=wJ;rw[yo,this];rfl
 have k:(aj s B m::c).length=c.length+1:=rfl;have z:∀a v,V.rb 0 v->nK (c.length+1) (aj s B a::c++[.cells (az g)]) v=W (v,aj s B a::c):=λa v D=>VU (xd (pI s B y)) (xI (wV _) D);have e a:nK (c.length+1) (aj s B a::c++[.cells (az g)]) .ad=W (.ad,aj s B a::c):=z a _ rfl;have l:=z (au B (au B m).2).2 (ae ar (ak (dW g))) (vw λ_ _=>wR);have o:mz [iI 0,iI 0,.str [],.str [],.ad,.ad,.str []] []=W (ar dY):=rfl;have p:mz [iI 0,iI 0,.str [],.str [],.ad,.ad,.str []] [(5,1,.sl [.str g.name] .no)]=W (ar {dY with an:=[g.name]}):=rfl;have q:wS true 7 2 (.agg [iI 0,iI 0,.str [],.str [],.ad,.ad,.str []]) [(0,ar dY),(1,ar {dY with an:=[g.name]})]=W (.sl [ar dY,ar {dY with an:=[g.name]}] .fx):=rfl;have one:oK T (.sl [ar dY,ar {dY with an:=[g.name]}] .fx)=W (ae ar (ak (dW g))):=rfl;have A:∀n:Ne,(ar n).ng=ar n:=λn=>rfl;rw[Qht _ _ _ UW rfl];unfold dW bY;simp only[id];unfold bY;have f x:bY B id [] x=λm=>(W x,m):=rfl;rcases M7 (au B m).1 with h|h
 ·rw[h]at b;rw[A9a h];rcases M7 (au B (au B m).2).1 with i|i
  ·rw[i]at H;rw[A9a i];simp only[bj,f,xQ,bF];have r:=C (au B (au B m).2).2;have t:=A dY;have u:=A {dY with an:=[g.name]};show _=W (ae ar (ak (dW g)),aj s B (au B (au B m).2).2::c);generalize az g=L,aj s B m::c=G,aj s B m::c++[.cells (az g)]=K,aj s B (au B m).2::c++[.cells (az g)]=J,aj s B (au B (au B m).2).2::c=F,aj s B (au B (au B m).2).2::c++[.cells (az g)]=I at*;simp -implicitDefEqProofs(disch:=try exact wK)only[go_sem,HW,j,b,H,k,r,o,p,q,t,u,one,l]
  ·rw[i]at H;rw[O3 (by rw[i];simp)];simp only[bj,bF];have r:=e (au B (au B m).2).2;generalize az g=J,aj s B m::c=u,aj s B m::c++[.cells (az g)]=I,aj s B (au B m).2::c++[.cells (az g)]=G,aj s B (au B (au B m).2).2::c=t,aj s B (au B (au B m).2).2::c++[.cells (az g)]=F at*;simp -implicitDefEqProofs(disch:=try exact wK)only[go_sem,HW,j,b,H,k,r]
 ·rw[h]at b;rw[O3 (by rw[h];simp)];simp only[bj,bF];have i:=e (au B m).2;generalize az g=G,aj s B m::c=r,aj s B m::c++[.cells (az g)]=F,aj s B (au B m).2::c=t,aj s B (au B m).2::c++[.cells (az g)]=u at*;simp -implicitDefEqProofs(disch:=try exact wK)only[go_sem,HW,j,b,k,i]
def iy(n:Ne):Prop:=n.attrs.length<=50000/\n.an.length<=50000
theorem Wzk{H:hN}{U:MK}(e:Wf (aj s B U::H))(a b:wx)(x:Ne)(D:iy x)(F:∀y∈b,iy y)(h:Nat)(v:h<=10000000)(k:Rk)(M:Nat)(X:M<=1000000):∀(r q:wx) (d:wx) (m:MK),b=q++r->cF B m->d.length+r.length<=M->b.length<=10000000->
  C' QaT (H.length+1) (H.length+1) k (H.length+2) [.ptr 0 0,ae ar (ak b),vG ar 7 d,.ptr (H.length+1) 0,ae ar (ak a),iI a.length,iI h,ae ar (ak b),iI b.length,iI q.length] (aj s B m::H++[.cells (aC x)])
  = match bY B (KK x) r d m with
   |(some o,c)=>k [.ptr 0 0,ae ar (ak b),vG ar 7 o,ae ar (ak a),iI a.length,iI (h+1)] (aj s B c::H)
   |(none,c)=>W (.ad,aj s B c::H)
 |[],q,d,m,j,G,J,o=>by
  have p:¬(q.length:Int)<b.length:=by rw[j];simp
  have f1 n I l:fz n I fzD (ae ar (ak l))=W (ae ar (ak l)):=vC (vw λ_ _=>wR);have f2 n I:fz n I fzD (vG ar 7 d)=W (vG ar 7 d):=vC (Qc3 λ_=>wR);have f3 I:fz (H.length+2) I fzD (.ptr 0 0)=W (.ptr 0 0):=vC (by simp[V.rb]);have f4 I:fz (H.length+1) I fzD (.ptr 0 0)=W (.ptr 0 0):=vC (by simp[V.rb]);have f:Wf (aj s B m::H):=pI s B e;have t:ve (H.length+2) (aj s B m::H++[.cells (aC x)])=W (aj s B m::H++[.cells (aC x)]):=Qx2 f yD;have u:ve (H.length+1) (aj s B m::H++[.cells (aC x)])=W (aj s B m::H):=xd f;rw[Is];show _=k [.ptr 0 0,ae ar (ak b),vG ar 7 d,ae ar (ak a),iI a.length,iI (h+1)] (aj s B m::H);generalize vG ar 7 d=K,aj s B m::H=c at*;have g:=f1;generalize w:ae ar (ak a)=AV at*;generalize z:ae ar (ak b)=i at*;have A n I:fz n I fzD AV=some AV:=by rw[<-w];exact g n I a
  have C n I:fz n I fzD i=some i:=by rw[<-z];exact g n I b
  simp -implicitDefEqProofs(disch:=try exact wK)only[go_sem,B9,p,A,C,f2,f3,f4,t,u]
 |y::r,q,d,m,o,G,J,w=>by
  have N:b.length=q.length+r.length+1:=by rw[o];simp;omega
  have K:(q.length:Int)<b.length:=by omega
  have l:iy y:=F y (by rw[o];simp);have p m:Wf (aj s B m::H):=pI s B e;have P:eI 7 (iI q.length) (ae ar (ak b))=W (.ai (aC y) 0):=KZ (f:=ar) (by rw[CL];exact o) rfl rfl;have i I:eL I true 7 (.ai (aC y) 0)=W (ar y):=xg rfl Gn;have g:(aj s B m::H++[O.cells (aC x)]).length=H.length+2:=u0;have Q:u5 (aj s B m::H++[.cells (aC x)]++[.cells [iI 0,iI 0,.str [],.str [],.ad,.ad,.str []]]) 7 (.ptr (H.length+2) 0) (ar y) (ar y)=W (.undef,aj s B m::H++[.cells (aC x)]++[.cells (aC y)]):=by rw[<-g];exact Ho rfl rfl qf Gn
  have t:E cx 21 [.ptr 0 0] (aj s B m::H++[.cells (aC x)]++[.cells (aC y)])=W (.bool (au B m).1,aj s B (au B m).2::H++[.cells (aC x)]++[.cells (aC y)]):=UP s B m G (VS (VS (p m) yD) yD);have lx:eL (aj s B (au B m).2::H++[.cells (aC x)]++[.cells (aC y)]) true 7 (.ptr (H.length+1) 0)=W (ar x):=by have:hN.get (aj s B (au B m).2::H++[O.cells (aC x)]++[.cells (aC y)]) (H.length+1)=W (aC x):=Yd (φ:=aj s B (au B m).2::H);rw[yo,this];exact xg (I:=[]) rfl Gn
  have ly:eL (aj s B (au B m).2::H++[.cells (aC x)]++[.cells (aC y)]) true 7 (.ptr (H.length+2) 0)=W (ar y):=by have:hN.get (aj s B (au B m).2::H++[O.cells (aC x)]++[.cells (aC y)]) (aj s B (au B m).2::H++[O.cells (aC x)]).length=W (aC y):=wJ;rw[show(aj s B (au B m).2::H++[O.cells (aC x)]).length=H.length+2 by simp]at this;rw[yo,this];exact xg (I:=[]) rfl Gn
  have hj:=λI=>Wnp x y (by unfold iy at D;omega) (by unfold iy at l;omega) I;have f1 n I l:fz n I fzD (ae ar (ak l))=W (ae ar (ak l)):=vC (vw λ_ _=>wR);have f2 n I l:fz n I fzD (vG ar 7 l)=W (vG ar 7 l):=vC (Qc3 λ_=>wR);have f3 I:fz (H.length+2) I fzD (.ptr 0 0)=W (.ptr 0 0):=vC (by simp[V.rb]);have f4 I:fz (H.length+1) I fzD (.ptr 0 0)=W (.ptr 0 0):=vC (by simp[V.rb]);have L:ve (H.length+2) (aj s B (au B m).2::H++[.cells (aC x)]++[.cells (aC y)])=W (aj s B (au B m).2::H++[.cells (aC x)]):=by
   have:=xd (H:=[.cells (aC y)]) (VS (p (au B m).2) yD:Wf (aj s B (au B m).2::H++[.cells (aC x)]))
   rwa[show(aj s B (au B m).2::H++[O.cells (aC x)]).length=H.length+2 by simp]at this
  have u:∀n:Ne,(ar n).ng=ar n:=λn=>rfl;have R:(ae ar (ak b)).ng=ae ar (ak b):=vz;rw[Is];unfold bY;rcases M7 (au B m).1 with j|j
  ·rw[j]at t;rw[A9a j];have S:=Wzk e a b x D F h v k M X r (q++[y]) (d++[KK x y]) (au B m).2 (by rw[o];simp) (ZE G) (by simp at J ⊢; omega) w;rw[show((q++[y]).length:Int)=q.length+1 by simp]at S;rw[<-S];have bf:wS true 7 1 (.agg [iI 0,iI 0,.str [],.str [],.ad,.ad,.str []]) [(0,ar (KK x y))]=W (.sl [ar (KK x y)] .fx):=UU rfl qf;have ap(I:hN)(c:bU):aT T true 7 112 I (vG ar 7 d) (.sl [ar (KK x y)] c)=W (vG ar 7 (d++[KK x y])):=UM (f:=ar) (λ_=>rfl) (λ_=>qf) (λ_=>rfl) (by unfold Qaq;simp at J;omega);generalize z:aj s B m::H++[O.cells (aC x)]++[.cells [iI 0,iI 0,.str [],.str [],.ad,.ad,.str []]]=Z1 at*;generalize aj s B m::H++[.cells (aC x)]=Z0,aj s B (au B m).2::H++[.cells (aC x)]=Z4,aj s B (au B m).2::H++[.cells (aC x)]++[.cells (aC y)]=Z3,aj s B m::H++[.cells (aC x)]++[.cells (aC y)]=Z2 at*;have A:=λn I=>f2 n I d;have C:=λn I=>f2 n I (d++[KK x y]);have fA:=λn I=>f1 n I a;have fB:=λn I=>f1 n I b;have nX:=u x;have nY:=u y;have nJ:=u (KK x y);generalize ar (KK x y)=a0,vG ar 7 d=O1,vG ar 7 (d++[KK x y])=O2 at*;simp only[ar]at*;generalize ae ar (ak a)=AV,ae ar (ak b)=BV,aC x=NX,aC y=NY at*;simp -implicitDefEqProofs(disch:=try exact wK)only[go_sem,B9,K,P,i,g,z,Q,t,lx,ly,hj,bf,ap,nX,nY,nJ,R,A,C,fA,fB,f3,f4,L]
  ·rw[j]at t;rw[O3 (by rw[j];simp)];have z:ve (H.length+1) (aj s B (au B m).2::H++[.cells (aC x)])=W (aj s B (au B m).2::H):=xd (p _);have he:nK (H.length+1) (aj s B (au B m).2::H) .ad=W (.ad,aj s B (au B m).2::H):=VU (KN s B (p _)) rfl;show _=W (V.ad,aj s B (au B m).2::H);generalize c:aj s B m::H++[O.cells (aC x)]++[.cells [iI 0,iI 0,.str [],.str [],.ad,.ad,.str []]]=Z1 at*;generalize aj s B m::H++[.cells (aC x)]=Z0,aj s B (au B m).2::H=Z5,aj s B (au B m).2::H++[.cells (aC x)]=Z4,aj s B (au B m).2::H++[.cells (aC x)]++[.cells (aC y)]=Z3,aj s B m::H++[.cells (aC x)]++[.cells (aC y)]=Z2 at*;have A:=λn I=>f1 n I a;have C:=λn I=>f1 n I b;have S:=u y;generalize vG ar 7 d=O1 at*;simp only[ar]at*;generalize ae ar (ak a)=AV,ae ar (ak b)=BV,aC x=NX,aC y=NY at*;simp -implicitDefEqProofs(disch:=try exact wK)only[go_sem,B9,K,P,i,g,c,Q,t,S,R,A,C,f3,f4,L,z,he]
end
def Qdg{e f:Type}(B:Int)(F:f->e->Ne)(b:List e):List f->wx->MK->Option wx×MK
 |[],c,m=>(some c,m)
 |x::a,c,m=>match bY B (F x) b c m with
  |(some o,d)=>Qdg B F b a o d
  |(none,d)=>(none,d)
abbrev AL(B:Int)(a b:List Ne)(c:List Ne)(m:MK):Option (List Ne)×MK:=Qdg B KK b a c m
theorem S1{c:Type}{B:Int}{f:c->Ne}:∀(l:List c) (a:wx) (m:MK) (o:wx) (b:MK),bY B f l a m=(W o,b)->o.length=a.length+l.length
 |[],a,m,o,b,h=>by have:(W a,m)=(W o,b):=h;cases this;simp
 |p::r,a,m,o,b,h=>by
  unfold bY at h;split at h
  ·have:=S1 r _ _ _ _ h;rw[this];simp;omega
  ·cases h
section
variable(s:Sl bq)(B:Int)
theorem Wzl{H:hN}{J:MK}(e:Wf (aj s B J::H))(a b:wx)(A:∀y∈a,iy y)(C:∀y∈b,iy y)(i:a.length<=1000000)(j:b.length<=1000000):∀(r q:wx) (d:wx) (m:MK),a=q++r->cF B m->d.length+r.length*b.length<=1000000->
  Ap QaT (H.length+1) (H.length+1) [.ptr 0 0,ae ar (ak b),vG ar 7 d,ae ar (ak a),iI a.length,iI q.length] (aj s B m::H)=W (bF (AL B r b d m).1,aj s B (AL B r b d m).2::H)
 |[],q,d,m,f,l,o=>by
  have g:¬(q.length:Int)<a.length:=by rw[f];simp
  have h:Wf (aj s B m::H):=pI s B e;have f2 n I:fz n I fzD (vG ar 7 d)=W (vG ar 7 d):=vC (Qc3 λ_=>wR);have c:=KN s B h;have one:oK T (vG ar 7 d)=W (ae ar (ak d)):=Qyd;have k:nK (H.length+1) (aj s B m::H) (ae ar (ak d))=W (ae ar (ak d),aj s B m::H):=VU c (vw λ_ _=>wR);rw[It];show _=W (ae ar (ak d),aj s B m::H);simp -implicitDefEqProofs(disch:=try exact wK)only[go_sem,Da,g,f2,c,one,k]
 |x::r,q,d,m,h,D,K=>by
  have E:a.length=q.length+r.length+1:=by rw[h];simp;omega
  have L:(q.length:Int)<a.length:=by omega
  have M:=A x (by rw[h];simp);have f:Wf (aj s B m::H):=pI s B e;have g:(x::r).length*b.length=b.length+r.length*b.length:=by rw[vT,GW];omega
  rw[g]at K;have N:=Wzk s B e a b x M C q.length Y (Ap QaT (H.length+1) (H.length+1)) 1000000 Y b [] d m rfl D Y Y;have k:C' QaT (H.length+1) (H.length+1) (Ap QaT (H.length+1) (H.length+1)) (H.length+2) [.ptr 0 0,ae ar (ak b),vG ar 7 d,.ptr (H.length+1) 0,ae ar (ak a),iI a.length,iI q.length,ae ar (ak b),iI b.length,iI 0] (aj s B m::H++[.cells (aC x)])=W (bF (AL B (x::r) b d m).1,aj s B (AL B (x::r) b d m).2::H):=by
   refine N.trans ?_;unfold AL Qdg;cases F:bY B (KK x) b d m with
   |mk o p=>
    cases o with
    |none=>rfl
    |some o=>
     have t:cF B p:=by have:=Tk (f:=KK x) b d m D;rw[F]at this;exact this
     have P:=S1 b d m o p F;have G:=Wzl e a b A C i j r (q++[x]) o p (by rw[h];simp) t Y;rw[show((q++[x]).length:Int)=q.length+1 by simp]at G;exact G
  have Q:eI 7 (iI q.length) (ae ar (ak a))=W (.ai (aC x) 0):=KZ (f:=ar) (by rw[CL];exact h) rfl rfl;have u I:eL I true 7 (.ai (aC x) 0)=W (ar x):=xg rfl Gn;have S:u5 (aj s B m::H++[.cells [iI 0,iI 0,.str [],.str [],.ad,.ad,.str []]]) 7 (.ptr (H.length+1) 0) (ar x) (ar x)=W (.undef,aj s B m::H++[.cells (aC x)]):=Ho (I:=aj s B m::H) rfl rfl qf Gn;have v:(aj s B m::H).length=H.length+1:=rfl;have w:(aj s B m::H++[O.cells (aC x)]).length=H.length+2:=u0;have f1 n I l:fz n I fzD (ae ar (ak l))=W (ae ar (ak l)):=vC (vw λ_ _=>wR);have f2 n I:fz n I fzD (vG ar 7 d)=W (vG ar 7 d):=vC (Qc3 λ_=>wR);have U:Qai (ae ar (ak b))=W (iI b.length):=by rw[ON,CL]
  have V:(ae ar (ak b)).ng=ae ar (ak b):=vz;have X:(ae ar (ak a)).ng=ae ar (ak a):=vz;have fA:=λn I=>f1 n I a;have fB:=λn I=>f1 n I b;rw[It];generalize z:aj s B m::H++[O.cells [iI 0,iI 0,.str [],.str [],.ad,.ad,.str []]]=Z1,aj s B (AL B (x::r) b d m).2::H=c,bF (AL B (x::r) b d m).1=R at*;generalize vG ar 7 d=O1,aj s B m::H=Z0,aj s B m::H++[.cells (aC x)]=Z2 at*;simp only[ar]at*;generalize ae ar (ak a)=AV,ae ar (ak b)=BV,aC x=NX at*;simp -implicitDefEqProofs(disch:=try exact wK)only[go_sem,Da,L,Q,u,X,V,v,z,S,w,U,fA,fB,f2,k]
def Wi1{H:hN}{m:MK}(i:Wf (aj s B m::H))(j:cF B m)(a b:wx)(k:∀y∈a,iy y)(o:∀y∈b,iy y)(d:a.length<=1000000)(e:b.length<=1000000)(f:a.length*b.length<=1000000):
  E cx 24 [.ptr 0 0,ae ar (ak a),ae ar (ak b)] (aj s B m::H)=W (bF (AL B a b [] m).1,aj s B (AL B a b [] m).2::H):=by
 have g:=Wzl s B i a b k o d e a [] [] m rfl j (by simpa using f);have c:Ap QaT (H.length+1) (H.length+1) [.ptr 0 0,ae ar (ak b),.ad,ae ar (ak a),iI a.length,iI 0] (aj s B m::H)=W (bF (AL B a b [] m).1,aj s B (AL B a b [] m).2::H):=g;have f1 n I l:fz n I fzD (ae ar (ak l))=W (ae ar (ak l)):=vC (vw λ_ _=>wR);have p:Qai (ae ar (ak a))=W (iI a.length):=by rw[ON,CL]
 have h:(aj s B m::H).length=H.length+1:=rfl;rw[K3 _ _ _ _ UW rfl];have q:=λn I=>f1 n I a;have r:=λn I=>f1 n I b;simp -implicitDefEqProofs(disch:=try exact wK)only[go_sem,QeF,p,q,r,h,c]
noncomputable def B1(B:Int)(c:List dQ)(m:MK):Sl fF×MK:=(if(iw c (max (B-m.1) 0)).1=true then .row (iw c (max (B-m.1) 0)).2.out else .nil,(m.1+(iw c (max (B-m.1) 0)).2.steps,if(iw c (max (B-m.1) 0)).1=true then m.2 else true))
theorem UR{ms:y8}{ls:u_}{bud:Int}:∀(f n:Nat) (S:aY) (p:Bool×aY),eJ ms ls bud f n S=W p->S.steps<=p.2.steps/\p.2.steps<=max bud S.steps
 |0,n,S,p,h=>by cases h
 |f+1,n,S,p,h=>by
  have b:∀(r:u_) (S:aY),S.steps<=(dA ms bud n r S).2.steps/\(dA ms bud n r S).2.steps<=max bud S.steps:=λr=>by
   induction r with
   |nil=>intro S;show S.steps<=S.steps/\S.steps<=_;omega
   |cons c r d=>
    intro S;unfold dA;split
    ·show S.steps<=S.steps/\S.steps<=_;omega
    ·have e:=d (bS ms (tick S) (Mj ms (b_ S n) c,(n:Int),c));rw[Qcy]at e;have:(tick S).steps=S.steps+1:=rfl;omega
  have a:=b ls S;unfold eJ at h;split at h
  ·split at h
   ·rename_i c e;rw[e]at a;cases h;exact a
   ·rename_i c e;rw[e]at a;have:=UR f _ _ _ h;simp only at a;omega
  ·cases h;simp only;omega
def U5(c:wZ)(h:fW c)(bud:Int):0<=(iw c bud).2.steps/\(iw c bud).2.steps<=max bud 0:=by have a:=UR _ _ _ _ (KL c h bud);rw[Qcy]at a;have:(iY c.length).steps=0:=rfl;omega
def Oh{c:wZ}(h:fW c){m:MK}(a:cF B m):cF B (B1 B c m).2:=by have:=U5 c h (max (B-m.1) 0);unfold cF B1 at*;simp only;omega
def Wzm{H:hN}{m:MK}(x:Wf (aj s B m::H))(y:cF B m)(J:-9223372036854775808<=B)(p:fX)(h:fW p.conds):
  E cx 61 [.ptr 0 0,aZ p] (aj s B m::H)=W (ae aK (B1 B p.conds m).1,aj s B (B1 B p.conds m).2::H):=by
 have j:bK (aj s B m::H) (.agg (cK p))=W (.ptr (H.length+1) 0,aj s B m::H++[.cells (cK p)]):=by rw[Qos,RH,Wnl,A9a rfl,Wnk];rfl
 have g b:hN.get (aj s B b::H++[.cells (cK p)]) (H.length+1)=W (cK p):=wJ (I:=aj s B b::H);have l:eL (aj s B m::H++[.cells (cK p)]) T 1 (.ptr (H.length+1) 2)=W (ae eS (ak p.conds)):=by rw[yo,g];show W (V.ng (ae eS (ak p.conds)))=_;rw[vz]
 have n:eL (aj s B m::H++[.cells (cK p)]) T 1 (.ptr 0 2)=W (iI B):=rfl;have o:eL (aj s B m::H++[.cells (cK p)]) T 1 (.ptr 0 1)=W (iI m.1):=rfl;have q:qC true [iI (B-m.1),iI 0]=W (iI (max (B-m.1) 0)):=by
  rw[ue];have:(if(0:Int)>B-m.1 then 0 else B-m.1)=max (B-m.1) 0:=by split<;>omega
  rw[this]
 have a:=λI=>Wtz (ak p.conds) (by rw[CL];exact h) (max (B-m.1) 0) I;rw[CL]at a;have z:=U5 p.conds h (max (B-m.1) 0);have A k:u5 (aj s B m::H++[.cells (cK p)]) 1 (.ptr 0 1) (iI k) (iI k)=W (.undef,aj s B (k,m.2)::H++[.cells (cK p)]):=Wiz (cs:=iO s B m) rfl (by simp[iO]);have C b:u5 (aj s B b::H++[.cells (cK p)]) 1 (.ptr 0 3) (.bool true) (.bool true)=W (.undef,aj s B (b.1,true)::H++[.cells (cK p)]):=Qte (cs:=iO s B b) rfl (by simp[iO]);have c:(aj s B m::H).length=H.length+1:=rfl;have r:(ae eS (ak p.conds)).ng=ae eS (ak p.conds):=vz;have t:∀b (v:Sl fF),nK (H.length+1) (aj s B b::H++[.cells (cK p)]) (ae aK v)=W (ae aK v,aj s B b::H):=λb v=>VU (xd (pI s B x)) (vw λ_ _=>OM _);have D:0<=m.1/\m.1<=max B 0/\B<9223372036854775808:=y;rw[Cq _ _ _ UW rfl];unfold B1;generalize iw p.conds (max (B-m.1) 0)=P at*;obtain⟨F,S⟩:=P;simp only at*;unfold k9 at a;simp only at a;have u:=A (m.1+S.steps);have d:-9223372036854775808<=B-m.1/\B-m.1<9223372036854775808:=by omega
 have e:-9223372036854775808<=m.1+S.steps/\m.1+S.steps<9223372036854775808:=by omega
 cases F with
 |true=>simp only[A9c]at a ⊢;have i:=t (m.1+S.steps,m.2) (.row S.out);have f:nK (H.length+1) (aj s B (m.1+S.steps,m.2)::H++[.cells (cK p)]) (.sl (S.out.map aK) .no)=W (.sl (S.out.map aK) .no,aj s B (m.1+S.steps,m.2)::H):=i;show _=W (V.sl (S.out.map aK) .no,aj s B (m.1+S.steps,m.2)::H);generalize ae eS (ak p.conds)=L,aj s B m::H=K,aj s B m::H++[.cells (cK p)]=G,aj s B (m.1+S.steps,m.2)::H=w at*;simp only[aZ];generalize cK p=M at*;simp -implicitDefEqProofs(disch:=try exact wK)only[go_sem,Kj,Do,r,j,l,n,o,q,a,u,d,e,c,f]
 |false=>simp only[vD,A9d]at a ⊢;have i:=t (m.1+S.steps,true) .nil;have f:nK (H.length+1) (aj s B (m.1+S.steps,true)::H++[.cells (cK p)]) .ad=W (.ad,aj s B (m.1+S.steps,true)::H):=i;have w:=C (m.1+S.steps,m.2);show _=W (V.ad,aj s B (m.1+S.steps,true)::H);unfold cR at a;simp only at w;generalize ae eS (ak p.conds)=M,aj s B m::H=L,aj s B m::H++[.cells (cK p)]=K,aj s B (m.1+S.steps,m.2)::H++[.cells (cK p)]=Q,aj s B (m.1+S.steps,true)::H=G,aj s B (m.1+S.steps,true)::H++[.cells (cK p)]=O at*;simp only[aZ];generalize cK p=N at*;simp -implicitDefEqProofs(disch:=try exact wK)only[go_sem,Kj,Do,r,j,l,n,o,q,a,u,w,d,e,c,f]
end
noncomputable def Hc(y n:V):Option Bool:=
 match E cx 26 [y,n] []with
 |some (.bool b,[])=>some b
 |_=>none
def uf{n:V}{t:Bool}(y:Hc h n=W t):E cx 26 [h,n] []=W (.bool t,[]):=by
 unfold Hc at y;split at y
 ·rename_i b a;cases y;exact a
 ·cases y
noncomputable def TL(f:FuncId):Option (List V->hN->Option (V×hN)):=
 if f=83 then some (lQ Hc)else Mx f
noncomputable def cy:Ctx:=⟨gv,Qw8,TL,ur⟩
noncomputable abbrev QaU:=Mi cy
def Gq{f:FuncId}{I:hN}{r:V×hN}(h:E cx f j I=W r):E cy f j I=some r:=
 Wvm (C:=cx) (Dww:=cy) rfl rfl rfl
  (λf h b=>by have a:Mx f=some h:=b;show TL f=W h;unfold TL;rw[O3 (by rintro rfl;cases a)];exact a)
  (λf b c=>by have a:Mx f=none:=b;show TL f=none;unfold TL;rw[O3 (by rintro rfl;exact c X0K)];exact a) h
def QdI(b:V):E cy 3 [C,b] []=(pK QaU C.ng b.ng []).bind (u1 []):=(vu X0K X0K X0K _).trans (A9e (Option.bind · (u1 [])) (QaD ..))
def zD(b:Nat)(f g c d:V)(I:hN):QdP QaU w b [f,g,c,d] I=nf QaU w b (QdP QaU w b) f g c d I:=
 Fk cy (ek QaU 118 [] [true,true,true,true,true,true,true,true,true,T,true] p6.body (gq p6 w)) b (B:=λrec e I=>nf QaU w b rec (e.getD 0 .undef) (e.getD 1 .undef) (e.getD 2 .undef) (e.getD 3 .undef) I) X0K X0K _ _
def QdJ:E cy 4 [] []=(z_ QaU []).bind (u1 []):=(vu X0K X0K X0K _).trans (A9e (Option.bind · (u1 [])) (QaQ ..))
def SX(b:V):E cy 8 [C,b] []=(FB QaU C.ng b.ng []).bind (u1 []):=(vu X0K X0K X0K _).trans (A9e (Option.bind · (u1 [])) (Mg ..))
def zE(b:Nat)(c:Nat)(d:Rk)(e:Nat)(n o p f g h i j k l m:V)(I:hN):nW QaU b c d e [n,o,p,f,g,h,i,j,k,l,m] I=nU QaU b c d e (nW QaU b c d e) n o p f g h i j k l m I:=
 Fk cy (ek QaU 94 [(c,d)] [true,true,true,true,true,true,T,true,true,true,T,true,true,T,true] Eh.body (gq Eh b)) e (B:=λrec a I=>nU QaU b c d e rec (a.getD 0 .undef) (a.getD 1 .undef) (a.getD 2 .undef) (a.getD 3 .undef) (a.getD 4 .undef) (a.getD 5 .undef) (a.getD 6 .undef) (a.getD 7 .undef) (a.getD 8 .undef) (a.getD 9 .undef) (a.getD 10 .undef) I) X0K X0K _ _
def zG(b:Nat)(c:Nat)(g h i d e f:V)(I:hN):mH QaU b c [g,h,i,d,e,f] I=nZ QaU b c (mH QaU b c) g h i d e f I:=
 Fk cy (ek QaU 94 [] [true,true,true,true,true,true,T,true] Eh.body (gq Eh b)) c (B:=λrec a I=>nZ QaU b c rec (a.getD 0 .undef) (a.getD 1 .undef) (a.getD 2 .undef) (a.getD 3 .undef) (a.getD 4 .undef) (a.getD 5 .undef) I) X0K X0K _ _
def Ga(b:Nat)(c:Nat)(g h i j d e f:V)(I:hN):BE QaU b c [g,h,i,j,d,e,f] I=zQ QaU b c (BE QaU b c) g h i j d e f I:=
 Fk cy (ek QaU 94 [] [true,true,true,true,true,T,true] Eh.body (gq Eh b)) c (B:=λrec a I=>zQ QaU b c rec (a.getD 0 .undef) (a.getD 1 .undef) (a.getD 2 .undef) (a.getD 3 .undef) (a.getD 4 .undef) (a.getD 5 .undef) (a.getD 6 .undef) I) X0K X0K _ _
def Gz(b:V)(I:hN)(h:V.aL 0 [C,b]=T)(c:I.isEmpty=T):E cy 25 [C,b] I=HL QaU C b I:=(cQ X0K X0K h c).trans (Zt ..)
def QH(b:V)(I:hN)(h:V.aL 0 [C,b]=T)(c:I.isEmpty=T):E cy 38 [C,b] I=Kf QaU C b I:=(cQ X0K X0K h c).trans (Zv ..)
def IU(b:Nat)(c:Nat)(d:Rk)(e:Nat)(l m n o p f g h i j k:V)(I:hN):B' QaU b c d e [l,m,n,o,p,f,g,h,i,j,k] I=Aq QaU b c d e (B' QaU b c d e) l m n o p f g h i j k I:=
 Fk cy (ek QaU 64 [(c,d)] [true,true,true,T,true,true,true,T,true,true] E6.body (gq E6 b)) e (B:=λrec a I=>Aq QaU b c d e rec (a.getD 0 .undef) (a.getD 1 .undef) (a.getD 2 .undef) (a.getD 3 .undef) (a.getD 4 .undef) (a.getD 5 .undef) (a.getD 6 .undef) (a.getD 7 .undef) (a.getD 8 .undef) (a.getD 9 .undef) (a.getD 10 .undef) I) X0K X0K _ _
def IV(b:Nat)(c:Nat)(g h i j d e f:V)(I:hN):zm QaU b c [g,h,i,j,d,e,f] I=Ca QaU b c (zm QaU b c) g h i j d e f I:=
 Fk cy (ek QaU 64 [] [true,true,true,T,true] E6.body (gq E6 b)) c (B:=λrec a I=>Ca QaU b c rec (a.getD 0 .undef) (a.getD 1 .undef) (a.getD 2 .undef) (a.getD 3 .undef) (a.getD 4 .undef) (a.getD 5 .undef) (a.getD 6 .undef) I) X0K X0K _ _
def Nw(b:V)(I:hN)(h:V.aL 0 [C,b]=T)(c:I.isEmpty=T):E cy 39 [C,b] I=Kg QaU C b I:=(cQ X0K X0K h c).trans (Zz ..)
def IW(b:Nat)(c:Nat)(d:Rk)(e:Nat)(f:Rk)(g:Nat)(r s z7 t u h i j k l m n o p q:V)(I:hN):As QaU b c d e f g [r,s,z7,t,u,h,i,j,k,l,m,n,o,p,q] I=Ar QaU b c d e f g (As QaU b c d e f g) r s z7 t u h i j k l m n o p q I:=by have v:G8 QaU b c d e f g=As QaU b c d e f g:=X0K;have w:CV QaU b c d e f g (G8 QaU b c d e f g) r s z7 t u h i j k l m n o p q I=Ar QaU b c d e f g (G8 QaU b c d e f g) r s z7 t u h i j k l m n o p q I:=X0K;rw[<-v,<-w];exact  Fk cy (ek QaU 64 [(c,d),(e,f)] [true,true,T,true,true,true,T,true,true,true,T,true,true,true,T,true,true] CI.body (gq CI b)) g (B:=λrec a I=>CV QaU b c d e f g rec (a.getD 0 .undef) (a.getD 1 .undef) (a.getD 2 .undef) (a.getD 3 .undef) (a.getD 4 .undef) (a.getD 5 .undef) (a.getD 6 .undef) (a.getD 7 .undef) (a.getD 8 .undef) (a.getD 9 .undef) (a.getD 10 .undef) (a.getD 11 .undef) (a.getD 12 .undef) (a.getD 13 .undef) (a.getD 14 .undef) I) X0K X0K _ _
def IX(b:Nat)(c:Rk)(d:Nat)(l m z7 n o f g h i j k:V)(I:hN):yu QaU w b c d [l,m,z7,n,o,f,g,h,i,j,k] I=Cb QaU w b c d (yu QaU w b c d) l m z7 n o f g h i j k I:=by have p:Qbx QaU w b c d=yu QaU w b c d:=X0K;have q:Fg QaU w b c d (Qbx QaU w b c d) l m z7 n o f g h i j k I=Cb QaU w b c d (Qbx QaU w b c d) l m z7 n o f g h i j k I:=X0K;rw[<-p,<-q];exact  Fk cy (ek QaU 64 [(b,c)] [true,true,T,true,true,true,T,true,true,true,T,true] CI.body (gq CI w)) d (B:=λrec e I=>Fg QaU w b c d rec (e.getD 0 .undef) (e.getD 1 .undef) (e.getD 2 .undef) (e.getD 3 .undef) (e.getD 4 .undef) (e.getD 5 .undef) (e.getD 6 .undef) (e.getD 7 .undef) (e.getD 8 .undef) (e.getD 9 .undef) (e.getD 10 .undef) I) X0K X0K _ _
def IY(b:Nat)(g h i c d e:V)(I:hN):yv QaU w b [g,h,i,c,d,e] I=Cc QaU w b (yv QaU w b) g h i c d e I:=by have j:PM QaU w b=yv QaU w b:=X0K;have k:yU QaU w b (PM QaU w b) g h i c d e I=Cc QaU w b (PM QaU w b) g h i c d e I:=X0K;rw[<-j,<-k];exact  Fk cy (ek QaU 64 [] [true,true,T,true] CI.body (gq CI w)) b (B:=λrec f I=>yU QaU w b rec (f.getD 0 .undef) (f.getD 1 .undef) (f.getD 2 .undef) (f.getD 3 .undef) (f.getD 4 .undef) (f.getD 5 .undef) I) X0K X0K _ _
def WW(b c:V)(I:hN)(h:V.aL 0 [C,b,c]=T)(d:I.isEmpty=T):E cy 59 [C,b,c] I=N8 QaU C b c I:=(cQ X0K X0K h d).trans (ZC ..)
def IZ(b:Nat)(c:Nat)(g h i z7 d e f:V)(I:hN):Cf QaU b c [g,h,i,z7,d,e,f] I=Ay QaU b c (Cf QaU b c) g h i z7 d e f I:=
 Fk cy (ek QaU 34 [] [true,true,T,true] H2.body (gq H2 b)) c (B:=λrec a I=>Ay QaU b c rec (a.getD 0 .undef) (a.getD 1 .undef) (a.getD 2 .undef) (a.getD 3 .undef) (a.getD 4 .undef) (a.getD 5 .undef) (a.getD 6 .undef) I) X0K X0K _ _
def Wpm{f:L->V}{s:Sl L}:nC (ae f s)=W (s.l.map f):=by cases s<;>rfl
def Wpn{f:L->V}{s:Sl L}:nz (ae f s):=by cases s<;>rfl
def Wzn:qD (ar r):=by show(nz (ae ay (ak r.attrs))&&nz (ae V.str (ak r.an)));rw[Wpn,Wpn];rfl
def eo(L:wD)(x:Ne):u_->u2
 |[]=>[]
 |i::r=>match L[i.toNat]? with|some a=>(if Xz a x.nd=true then 49 else 48)::eo L x r|none=>eo L x r
def ep(x:Ne):Prop:=iy x/\∀a∈x.attrs,a.value.length<=100000000
def zR(L:wD)(a:u_):wx->aO->wx->wx
 |[],seen,b=>b
 |x::r,seen,b=>if bu seen (eo L x a)=true then zR L a r seen b else zR L a r (seen++[eo L x a]) (b++[x])
def zt(L:wD)(a:u_)(l:wx):wx:=zR L a l [] []
def Wnr(x:Ne)(d:jh R)(c:ep x):Hc (af R) (ar x)=W (Xz R x.nd):=by
 have h:=PR R x.nd d (by
  obtain⟨⟨f,g⟩,_⟩:=c;show(ak x.attrs).l.length<=_/\(ak x.an).l.length<=_;rw[CL,CL];omega) (λy e=>by
  have b:y∈(ak x.attrs).l:=e;rw[CL]at b;exact c.2 y b) []
 unfold Hc;rw[h]
section
variable(s:Sl bq)(B:Int)(S:s.l.length<=1000)(N:∀a∈s.l,jh a)(u:u_)(Q:∀i∈u,0<=i/\i<s.l.length)(z:u.length<=1000)
include S N Q z
theorem U6(x:Ne)(d:ep x):∀r:u_,(∀i∈r,0<=i/\i<s.l.length)->WG Hc (s.l.map af) (ar x) (r.map (V.int .i64))=W (eo s.l x r)
 |[],_=>rfl
 |i::r,h=>by
  have e:=h i (wA ..);have f:=U6 x d r λj g=>h j (wh _ g);have b:s.l[i.toNat]?=W s.l[i.toNat]:=vO Y;have c:s.l[i.toNat]∈s.l:=Na _;generalize s.l[i.toNat]=a at b c;have k:(s.l.map af)[i.toNat]?=W (af a):=by rw[ym,b];rfl
  have l:qZ (af a):=rfl;rw[xc];simp only[WG,e.1,A9c,k,va,l,Wnr a x (N a c) d,f,A0,eo,b]
theorem Wzo(x:Ne)(c:ep x)(m:MK)(H:hN):E cy 83 [.ptr 0 0,ar x,ae Iv (ak u)] (aj s B m::H)=W (.str (eo s.l x u),aj s B m::H):=by
 rw[RN (C:=cy) (A9a rfl)];show(lP Hc (aj s B m::H) [.ptr 0 0,ar x,ae Iv (ak u)]).map _=_;have e:lP Hc (aj s B m::H) [.ptr 0 0,ar x,ae Iv (ak u)]=(nC (ae af s)).bind λa=>(nC (ae Iv (ak u))).bind λb=>if V.aL 0 a&&V.rb 0 (ar x)&&qD (ar x)&&decide (b.length<=1000)&&decide (a.length<=1000)then(WG Hc a (ar x) b).map V.str else none:=rfl
 rw[e,Wpm,Wpm,CL];simp only[va];have d:V.aL 0 (s.l.map af):=AM λ_=>rfl;have f:V.rb 0 (ar x):=wR;rw[A9a (by rw[d,f,Wzn,wq,wq,xG z,xG S];rfl)];have:=U6 s S N u Q z x c u Q;rw[this];rfl
theorem OL(m:MK){H:hN}(h:Wf (aj s B m::H))(l:wx)(p:∀x∈l,ep x)(i:l.length<=1000000):∀(r q:wx) (seen:aO) (b:wx),l=q++r->b.length+r.length<=1000000->
  Cf QaU (H.length+1) (H.length+2) [.ptr 0 0,ae Iv (ak u),vG ar 7 b,.mp (H.length+1),ae ar (ak l),iI l.length,iI q.length] (aj s B m::H++[.mp (cU seen)])=W (ae ar (ak (zR s.l u r seen b)),aj s B m::H)
 |[],q,seen,b,d,k=>by
  have e:¬(q.length:Int)<l.length:=by rw[d];simp
  have f2 n I:fz n I fzD (vG ar 7 b)=W (vG ar 7 b):=vC (Qc3 λ_=>wR);have c:Wf (aj s B m::H++[.mp (cU seen)]):=MS h λx f=>by obtain rfl:=vR.1 f;exact Qvf seen
  have g:ve (H.length+2) (aj s B m::H++[.mp (cU seen)])=W (aj s B m::H++[.mp (cU seen)]):=by
   have:=Kk c
   rwa[show(aj s B m::H++[O.mp (cU seen)]).length=H.length+2 by simp]at this
  have one:oK T (vG ar 7 b)=W (ae ar (ak b)):=Qyd;have j:nK (H.length+1) (aj s B m::H++[.mp (cU seen)]) (ae ar (ak b))=W (ae ar (ak b),aj s B m::H):=VU (xd h) (vw λ_ _=>wR);rw[IZ];show _=W (ae ar (ak b),aj s B m::H);generalize vG ar 7 b=o,ae ar (ak b)=R,aj s B m::H=a at*;simp -implicitDefEqProofs(disch:=try exact wK)only[go_sem,Ay,e,f2,g,one,j]
 |x::r,q,seen,b,j,t=>by
  have M:l.length=q.length+r.length+1:=by rw[j];simp;omega
  have K:(q.length:Int)<l.length:=by omega
  have w:ep x:=p x (by rw[j];simp);have v:=λseen=>MS h λx w=>by obtain rfl:=vR.1 w;exact Qvf seen
  have P:eI 7 (iI q.length) (ae ar (ak l))=W (.ai (aC x) 0):=KZ (f:=ar) (by rw[CL];exact j) rfl rfl;have k I:eL I true 7 (.ai (aC x) 0)=W (ar x):=xg rfl Gn;have d seen:(aj s B m::H++[O.mp (cU seen)]).length=H.length+2:=u0;have U:u5 (aj s B m::H++[.mp (cU seen)]++[.cells [iI 0,iI 0,.str [],.str [],.ad,.ad,.str []]]) 7 (.ptr (H.length+2) 0) (ar x) (ar x)=W (.undef,aj s B m::H++[.mp (cU seen)]++[.cells (aC x)]):=by rw[<-d seen];exact Ho rfl rfl qf Gn
  have y seen:eL (aj s B m::H++[.mp (cU seen)]++[.cells (aC x)]) true 7 (.ptr (H.length+2) 0)=W (ar x):=by have:hN.get (aj s B m::H++[O.mp (cU seen)]++[.cells (aC x)]) (aj s B m::H++[O.mp (cU seen)]).length=W (aC x):=wJ;rw[d]at this;rw[yo,this];exact xg (I:=[]) rfl Gn
  have X:E cy 83 [.ptr 0 0,ar x,ae Iv (ak u)] (aj s B m::H++[.mp (cU seen)]++[.cells (aC x)])=W (.str (eo s.l x u),aj s B m::H++[.mp (cU seen)]++[.cells (aC x)]):=Wzo s B S N u Q z x w m _;have e seen:(aj s B m::H++[O.mp (cU seen)]++[.cells (aC x)])[H.length+1]?=W (.mp (cU seen)):=by rw[wL,DQ u0];simp
  have o:Mo .s (aj s B m::H++[.mp (cU seen)]++[.cells (aC x)]) (.bool T) (.mp (H.length+1)) (.str (eo s.l x u)) T=W (.bool (bu seen (eo s.l x u))):=Xo (e seen);have nL:(ae ar (ak l)).ng=ae ar (ak l):=vz;have nA:(ae Iv (ak u)).ng=ae Iv (ak u):=vz;have f1 n I:fz n I fzD (ae ar (ak l))=W (ae ar (ak l)):=vC (vw λ_ _=>wR);have f2 n I l:fz n I fzD (vG ar 7 l)=W (vG ar 7 l):=vC (Qc3 λ_=>wR);have f4 I:fz (H.length+2) I fzD (.mp (H.length+1))=W (.mp (H.length+1)):=vC (by simp[V.rb]);have f5 n I:fz n I fzD (ae Iv (ak u))=W (ae Iv (ak u)):=vC (vw λ_ _=>rfl);have L seen:ve (H.length+2) (aj s B m::H++[.mp (cU seen)]++[.cells (aC x)])=W (aj s B m::H++[.mp (cU seen)]):=by
   have:=xd (H:=[.cells (aC x)]) (v seen)
   rwa[d]at this
  rw[IZ];unfold zR;have g:=d seen;cases A:bu seen (eo s.l x u)with
  |true=>rw[A]at o;have G:=OL m h l p i r (q++[x]) seen b (by rw[j];simp) (by simp at t;omega);rw[show((q++[x]).length:Int)=q.length+1 by simp]at G;have c:=y seen;have C:=L seen;have D:=λn I=>f2 n I b;simp only[A9c];generalize F:aj s B m::H++[O.mp (cU seen)]++[.cells [iI 0,iI 0,.str [],.str [],.ad,.ad,.str []]]=Z1,ae ar (ak (zR s.l u r seen b))=R at*;generalize vG ar 7 b=J,aj s B m::H=a,aj s B m::H++[.mp (cU seen)]=Z0,aj s B m::H++[.mp (cU seen)]++[.cells (aC x)]=Z2 at*;simp only[ar]at*;generalize ae (λn=>V.agg (aC n)) (ak l)=LV,ae Iv (ak u)=AV,aC x=NX at*;simp -implicitDefEqProofs(disch:=try exact wK)only[go_sem,Ay,Dj,K,P,k,nA,nL,g,F,U,c,X,o,f1,D,f4,f5,C,G]
  |false=>
   rw[A]at o;have ih:=OL m h l p i r (q++[x]) (seen++[eo s.l x u]) (b++[x]) (by rw[j];simp) (by simp at t ⊢; omega);rw[show((q++[x]).length:Int)=q.length+1 by simp]at ih;have ms:JW .s (aj s B m::H++[.mp (cU seen)]++[.cells (aC x)]) (.mp (H.length+1)) (.str (eo s.l x u)) (.bool true)=W (.undef,aj s B m::H++[.mp (cU (seen++[eo s.l x u]))]++[.cells (aC x)]):=by rw[Xp (e seen) A];rw[wL,Hh _ _ u0];simp
   have bf:wS true 7 1 (.agg [iI 0,iI 0,.str [],.str [],.ad,.ad,.str []]) [(0,ar x)]=W (.sl [ar x] .fx):=UU rfl qf;have ap(I:hN)(c:bU):aT T true 7 112 I (vG ar 7 b) (.sl [ar x] c)=W (vG ar 7 (b++[x])):=UM (f:=ar) (λ_=>rfl) (λ_=>qf) (λ_=>rfl) (by unfold Qaq;simp at t;omega);have C:=y seen;have J:=y (seen++[eo s.l x u]);have D:=L (seen++[eo s.l x u]);have F:=λn I=>f2 n I (b++[x]);simp only[vD,A9d];generalize G:aj s B m::H++[O.mp (cU seen)]++[.cells [iI 0,iI 0,.str [],.str [],.ad,.ad,.str []]]=Z1,aj s B m::H++[.mp (cU (seen++[eo s.l x u]))]=Z4,aj s B m::H++[.mp (cU (seen++[eo s.l x u]))]++[.cells (aC x)]=Z3,ae ar (ak (zR s.l u r (seen++[eo s.l x u]) (b++[x])))=R at*;generalize vG ar 7 b=O1,vG ar 7 (b++[x])=O2,aj s B m::H=a,aj s B m::H++[.mp (cU seen)]=Z0,aj s B m::H++[.mp (cU seen)]++[.cells (aC x)]=Z2 at*;simp only[ar]at*;generalize ae (λn=>V.agg (aC n)) (ak l)=LV,ae Iv (ak u)=AV,aC x=NX at*;simp -implicitDefEqProofs(disch:=try exact wK)only[go_sem,Ay,Dj,K,P,k,nA,nL,g,G,U,C,X,o,ms,J,bf,ap,f1,F,f4,f5,D,ih]
theorem Wpo(m:MK){H:hN}(g:Wf (aj s B m::H))(l:wx)(h:∀x∈l,ep x)(a:l.length<=1000000):
  E cy 59 [.ptr 0 0,ae ar (ak l),ae Iv (ak u)] (aj s B m::H)=W (ae ar (ak (zt s.l u l)),aj s B m::H):=by
 have c:=OL s B S N u Q z m g l h a l [] [] [] rfl (by simpa using a);have b:Cf QaU (H.length+1) (H.length+2) [.ptr 0 0,ae Iv (ak u),.ad,.mp (H.length+1),ae ar (ak l),iI l.length,iI 0] (aj s B m::H++[.mp []])=W (ae ar (ak (zt s.l u l)),aj s B m::H):=c;have f1 n I:fz n I fzD (ae ar (ak l))=W (ae ar (ak l)):=vC (vw λ_ _=>wR);have f4 I:fz (H.length+2) I fzD (.mp (H.length+1))=W (.mp (H.length+1)):=vC (by simp[V.rb]);have f5 n I:fz n I fzD (ae Iv (ak u))=W (ae Iv (ak u)):=vC (vw λ_ _=>rfl);have i:Qai (ae ar (ak l))=W (iI l.length):=by rw[ON,CL]
 have j:(ae ar (ak l)).ng=ae ar (ak l):=vz;have d:(aj s B m::H).length=H.length+1:=rfl;have e:(aj s B m::H++[O.mp []]).length=H.length+2:=u0;rw[WW _ _ _ _ UW rfl];generalize f:aj s B m::H++[O.mp []]=k,ae ar (ak (zt s.l u l))=R at*;generalize ae Iv (ak u)=AV,ae ar (ak l)=p,aj s B m::H=o at*;simp -implicitDefEqProofs(disch:=try exact wK)only[go_sem,N8,f,d,e,i,j,f1,f4,f5,b]
end
theorem US:∀(r p z:List u2),vk T 1 ((p++(r++z)).map V.str) r.length p.length=W (r.map V.str)
 |[],p,z=>rfl
 |b::r,p,z=>by
  have h:=US r (p++[b]) z;rw[wL]at h;simp only[vW,vT,xJ,AJ,xQ,xr]at h;have a:Ev.part T 1 ((p++(b::(r++z))).map V.str) p.length=W (V.str b):=by unfold Ev.part;simp;rfl
  rw[vT];simp only[AJ,vk,a,h,u7,va,AK];rfl
def Wns{I:hN}{l:aO}(w:Gv I h l)(c:Wf I)(q:l.length<=1000000):E cx 56 [h.ng] I=W (vG V.str 1 l,I):=by
 cases w with
 |nil=>exact Wbn [] u0 I
 |hg o l hg a=>
  have d:aT T T 1 16 I (.sl [] .fx) (.hs o 0 l.length 1 T)=W (.sl (l.map V.str) (.gr 1)):=by
   have g:vk T 1 (l.map V.str) l.length 0=W (l.map V.str):=by have:=US l [] [];simpa using this
   have e:aT T T 1 16 I (.sl [] .fx) (.hs o 0 l.length 1 T)=((hN.get I o).bind λi=>vk T 1 i l.length 0).bind λj=>RE T 1 16 (.sl [] .fx) j:=rfl;rw[e,hg,va,g,va];have k:=yC (ag:=T) (bytes:=16) (I:=I) (l:=[]) (f:=V.str) (c':=.no) (λ_=>rfl) (λ_=>rfl) (λ_=>rfl) (.inl rfl) a (by unfold Qaq;simp;omega);exact k
  have m:nK I.length I (V.sl (l.map V.str) (.gr 1))=W (.sl (l.map V.str) (.gr 1),I):=VU (Kk c) (AM λ_=>rfl);have n:eB .eql .row (.hs o 0 l.length 1 T) .ad=W (.bool T):=rfl;have b:V.aL 0 [.hs o 0 l.length 1 T]=T:=by simp[V.aL,V.rb]
  have p:vG V.str 1 l=.sl (l.map V.str) (.gr 1):=by
   cases l with
   |nil=>exact absurd rfl a
   |cons x r=>rfl
  rw[p];refine((cQ X0K X0K b (JA hg)).trans (QaR ..)).trans ?_;simp only[go_sem,Lw,n,d,m]
def dd(sp nm:u2):Ne:={dY with space:=sp,name:=nm}
def iQ(sp:aO):aO:=if sp=[]then[[]]else sp++[PQ sp]
def QL(L:wD)(B:Int)(g:bH)(m:MK):Option wx×MK:=
 match Qdg B dd ((Qan L g).1++[PQ (Qan L g).1]) (iQ (Qan L g).2.1) [] m with
 |(some o,a)=>(some (zt L g.atoms o),a)
 |(none,a)=>(none,a)
section
variable(s:Sl bq)(B:Int)
theorem Wzp{H H3:hN}{z:MK}(e:Wf (aj s B z::(H++H3)))(d:Wf (aj s B z::H))(t:H.length+1<(H++H3).length+1)(NV b:V)(g:V.rb ((H++H3).length+1) NV)(h:V.rb ((H++H3).length+1) b)(sp:u2)(nm:aO)(N i:Int)(u:0<=i/\i<=1000000)(p:Rk):∀(r q:List u2) (a:wx) (m:MK),nm=q++r->cF B m->a.length+r.length<=1000000->nm.length<=1000000->
  B' QaU (H.length+1) ((H++H3).length+1) p ((H++H3).length+1) [.ptr 0 0,.ptr (H.length+1) 0,vG ar 7 a,NV,.str sp,b,iI N,iI i,vG V.str 1 nm,iI nm.length,iI q.length] (aj s B m::(H++H3))
  = match bY B (dd sp) r a m with
   |(some o,c)=>p [.ptr 0 0,.ptr (H.length+1) 0,vG ar 7 o,NV,b,iI N,iI (i+1)] (aj s B c::(H++H3))
   |(none,c)=>W (.ad,aj s B c::H)
 |[],q,a,m,c,o,v,f=>by
  have j:¬(q.length:Int)<nm.length:=by rw[c];simp
  have k:Wf (aj s B m::(H++H3)):=pI s B e;have f2 n I:fz n I fzD (vG ar 7 a)=W (vG ar 7 a):=vC (Qc3 λ_=>wR);have f3 I:fz ((H++H3).length+1) I fzD (.ptr 0 0)=W (.ptr 0 0):=vC (by simp[V.rb]);have f4 I:fz ((H++H3).length+1) I fzD (.ptr (H.length+1) 0)=W (.ptr (H.length+1) 0):=vC (by simpa[V.rb]using t);have f5 I:fz ((H++H3).length+1) I fzD NV=some NV:=vC g;have f6 I:fz ((H++H3).length+1) I fzD b=some b:=vC h;have l:ve ((H++H3).length+1) (aj s B m::(H++H3))=W (aj s B m::(H++H3)):=KN s B k;rw[IU];show _=p [.ptr 0 0,.ptr (H.length+1) 0,vG ar 7 a,NV,b,iI N,iI (i+1)] (aj s B m::(H++H3));generalize(H++H3).length+1=K at*;simp -implicitDefEqProofs(disch:=try exact wK)only[go_sem,Aq,j,f2,f3,f4,f5,f6,l]
 |y::r,q,a,m,v,A,C,w=>by
  have J:nm.length=q.length+r.length+1:=by rw[v];simp;omega
  have D:(q.length:Int)<nm.length:=by omega
  have F m:Wf (aj s B m::(H++H3)):=pI s B e;have L:eI 1 (iI q.length) (ae V.str (ak nm))=W (.ai [.str y] 0):=KZ (f:=V.str) (by rw[CL];exact v) rfl rfl;have j I:eL I T 1 (.ai [.str y] 0)=W (.str y):=rfl;have o:E cy 21 [.ptr 0 0] (aj s B m::(H++H3))=W (.bool (au B m).1,aj s B (au B m).2::(H++H3)):=Gq (UP s B m A (F m));have f2 n I l:fz n I fzD (vG ar 7 l)=W (vG ar 7 l):=vC (Qc3 λ_=>wR);have f3 I:fz ((H++H3).length+1) I fzD (.ptr 0 0)=W (.ptr 0 0):=vC (by simp[V.rb]);have f4 I:fz ((H++H3).length+1) I fzD (.ptr (H.length+1) 0)=W (.ptr (H.length+1) 0):=vC (by simpa[V.rb]using t);have f5 I:fz ((H++H3).length+1) I fzD NV=some NV:=vC g;have f6 I:fz ((H++H3).length+1) I fzD b=some b:=vC h;have f7 n I:fz n I fzD (vG V.str 1 nm)=W (vG V.str 1 nm):=vC (Qc3 λ_=>rfl);have G:ve ((H++H3).length+1) (aj s B (au B m).2::(H++H3))=W (aj s B (au B m).2::(H++H3)):=KN s B (F _);have M:(vG V.str 1 nm).ng=ae V.str (ak nm):=h7;rw[IU];unfold bY;rcases M7 (au B m).1 with k|k
  ·rw[k]at o;rw[A9a k];have O:=Wzp e d t NV b g h sp nm N i u p r (q++[y]) (a++[dd sp y]) (au B m).2 (by rw[v];simp) (ZE A) (by simp at C ⊢; omega) w;rw[show((q++[y]).length:Int)=q.length+1 by simp]at O;rw[<-O];have P:mz [iI 0,iI 0,.str [],.str [],.ad,.ad,.str []] [(2,1,.str sp),(3,1,.str y)]=W (ar (dd sp y)):=rfl;have Q:wS true 7 1 (.agg [iI 0,iI 0,.str [],.str [],.ad,.ad,.str []]) [(0,ar (dd sp y))]=W (.sl [ar (dd sp y)] .fx):=rfl;have R(I:hN)(c:bU):aT T true 7 112 I (vG ar 7 a) (.sl [ar (dd sp y)] c)=W (vG ar 7 (a++[dd sp y])):=UM (f:=ar) (λ_=>rfl) (λ_=>qf) (λ_=>rfl) (by unfold Qaq;simp at C;omega);have S:(ar (dd sp y)).ng=ar (dd sp y):=rfl;have x:=λn I=>f2 n I (a++[dd sp y]);generalize(H++H3).length+1=K,ae V.str (ak nm)=X,vG V.str 1 nm=NM,ar (dd sp y)=U,vG ar 7 a=O1,vG ar 7 (a++[dd sp y])=O2,aj s B (au B m).2::(H++H3)=Z2,aj s B m::(H++H3)=Z1 at*;simp -implicitDefEqProofs(disch:=try exact wK)only[go_sem,Aq,D,M,L,j,o,P,S,Q,R,x,f3,f4,f5,f6,f7,G]
  ·rw[k]at o;rw[O3 (by rw[k];simp)];have x:nK (H.length+1) (aj s B (au B m).2::(H++H3)) .ad=W (.ad,aj s B (au B m).2::H):=VU (xd (I:=aj s B (au B m).2::H) (pI s B d)) rfl;show _=W (V.ad,aj s B (au B m).2::H);generalize(H++H3).length+1=K,ae V.str (ak nm)=c,vG V.str 1 nm=R,vG ar 7 a=Q,aj s B (au B m).2::H=S,aj s B (au B m).2::(H++H3)=P,aj s B m::(H++H3)=O at*;simp -implicitDefEqProofs(disch:=try exact wK)only[go_sem,Aq,D,M,L,j,o,f3,f4,f5,f6,G,x]
end
theorem MR{e f:Type}{B:Int}{F:f->e->Ne}{b:List e}:∀(a:List f) (c:wx) (m:MK) (o:wx) (d:MK),Qdg B F b a c m=(W o,d)->o.length=c.length+a.length*b.length
 |[],c,m,o,d,h=>by have:(W c,m)=(W o,d):=h;cases this;simp
 |x::a,c,m,o,d,h=>by
  unfold Qdg at h;cases g:bY B (F x) b c m with
  |mk p i=>
   rw[g]at h;cases p with
   |none=>cases h
   |some p=>have j:=S1 b c m p i g;have k:=MR a p i o d h;rw[k,j,vT,GW];omega
theorem Qlo{e g:Type}{B:Int}{F:g->e->Ne}{b:List e}:∀(a:List g) (c:wx) (m:MK),cF B m->cF B (Qdg B F b a c m).2
 |[],c,m,h=>h
 |x::a,c,m,h=>by
  have d:=Tk (f:=F x) b c m h;unfold Qdg;cases i:bY B (F x) b c m with
  |mk p j=>
   rw[i]at d;cases p with
   |none=>exact d
   |some p=>exact Qlo a p j d
theorem Qlp{d:Type}{B:Int}{f:d->Ne}{P:Ne->Prop}:∀(l:List d) (a:wx) (m:MK) (o:wx) (b:MK),bY B f l a m=(W o,b)->(∀x∈a,P x)->(∀y∈l,P (f y))->∀x∈o,P x
 |[],a,m,o,b,h,c,e=>by have:(W a,m)=(W o,b):=h;cases this;exact c
 |p::r,a,m,o,b,h,g,e=>by
  unfold bY at h;split at h
  ·refine Qlp r _ _ o b h (λx i => ?_) (λy j=>e y (wh _ j));rcases xf.1 i with c|c
   ·exact g x c
   ·rw[vR.1 c];exact e p (wA ..)
  ·cases h
theorem MZ{e f:Type}{B:Int}{F:f->e->Ne}{b:List e}{P:Ne->Prop}:∀(a:List f) (c:wx) (m:MK) (o:wx) (d:MK),Qdg B F b a c m=(W o,d)->(∀x∈c,P x)->(∀x∈a,∀y∈b,P (F x y))->∀x∈o,P x
 |[],c,m,o,d,h,g,i=>by have:(W c,m)=(W o,d):=h;cases this;exact g
 |x::a,c,m,o,d,h,k,g=>by
  unfold Qdg at h;cases i:bY B (F x) b c m with
  |mk p j=>
   rw[i]at h;cases p with
   |none=>cases h
   |some p=>exact MZ a p j o d h (Qlp b c m p j i k (g x (wA ..))) (λz l=>g z (wh _ l))
section
variable(s:Sl bq)(B:Int)(Q:s.l.length<=1000)(u:∀a∈s.l,jh a)(g:bH)(z:∀i∈g.atoms,0<=i/\i<s.l.length)(N:g.atoms.length<=1000)
include Q u z N
theorem Wzq{H H3:hN}{m0:MK}(k:Wf (aj s B m0::(H++H3)))(i:Wf (aj s B m0::H))(A:H.length+1<(H++H3).length+1)(hG:∀m,hN.get (aj s B m::(H++H3)) (H.length+1)=W (az g))(NV p:V)(nm e:aO)(j:∀m,Gv (aj s B m::(H++H3)) NV nm)(t:V.rb ((H++H3).length+1) p)(hR:∀m,jO V.str (aj s B m::(H++H3)) p.ng e)(D:nm.length<=1000)(F:e.length<=1000000):∀(r q:List u2) (d:wx) (m:MK),e=q++r->cF B m->d.length+r.length*(nm.length+1)<=1000000->(∀x∈d,ep x)->
  zm QaU (H.length+1) ((H++H3).length+1) [.ptr 0 0,.ptr (H.length+1) 0,vG ar 7 d,NV,p,iI e.length,iI q.length] (aj s B m::(H++H3))
  = match Qdg B dd (nm++[PQ nm]) r d m with
   |(some o,h)=>W (ae ar (ak (zt s.l g.atoms o)),aj s B h::H)
   |(none,h)=>W (.ad,aj s B h::H)
 |[],q,d,m,f,M,l,v=>by
  have w:¬(q.length:Int)<e.length:=by rw[f];simp
  have c:Wf (aj s B m::(H++H3)):=pI s B k;have f2 n I:fz n I fzD (vG ar 7 d)=W (vG ar 7 d):=vC (Qc3 λ_=>wR);have f3 I:fz ((H++H3).length+1) I fzD (.ptr 0 0)=W (.ptr 0 0):=vC (by simp[V.rb]);have f4 I:fz ((H++H3).length+1) I fzD (.ptr (H.length+1) 0)=W (.ptr (H.length+1) 0):=vC (by simpa[V.rb]using A);have y:ve ((H++H3).length+1) (aj s B m::(H++H3))=W (aj s B m::(H++H3)):=KN s B c;have C:eL (aj s B m::(H++H3)) T 1 (.ptr (H.length+1) 2)=W (ae Iv (ak g.atoms)):=by rw[yo,hG];show W (V.ng (ae Iv (ak g.atoms)))=_;rw[vz]
  have b:=Wpo s B Q u g.atoms z N m c d v (by simp at l;omega);have G:(vG ar 7 d).ng=ae ar (ak d):=h7;have J:(ae Iv (ak g.atoms)).ng=ae Iv (ak g.atoms):=vz;have one:oK T (ae ar (ak (zt s.l g.atoms d)))=W (ae ar (ak (zt s.l g.atoms d))):=Qyf;have L:nK (H.length+1) (aj s B m::(H++H3)) (ae ar (ak (zt s.l g.atoms d)))=W (ae ar (ak (zt s.l g.atoms d)),aj s B m::H):=VU (xd (I:=aj s B m::H) (pI s B i)) (vw λ_ _=>wR);rw[IV];show _=W (ae ar (ak (zt s.l g.atoms d)),aj s B m::H);generalize(H++H3).length+1=K,ae Iv (ak g.atoms)=AV,vG ar 7 d=P,ae ar (ak d)=O at*;simp -implicitDefEqProofs(disch:=try exact wK)only[go_sem,Ca,w,f2,f3,f4,y,C,G,J,b,one,L]
 |sp::r,q,d,m,G,hm,hl,ho=>by
  have w:e.length=q.length+r.length+1:=by rw[G];simp;omega
  have e1:(q.length:Int)<e.length:=by omega
  have hw m:Wf (aj s B m::(H++H3)):=pI s B k;have⟨w,i1,i2,C⟩:=(hR m).rd q r sp G;have C:=C [];rw[wt]at C;have v:V.rb ((H++H3).length+1) NV:=(j m).rb;have w:(sp::r).length*(nm.length+1)=(nm.length+1)+r.length*(nm.length+1):=by rw[vT,GW];omega
  rw[w]at hl;have J:E cy 56 [NV.ng] (aj s B m::(H++H3))=W (vG V.str 1 nm,aj s B m::(H++H3)):=Gq (Wns (j m) (hw m) Y);have L:E cy 58 [NV.ng] (aj s B m::(H++H3))=W (.str (PQ nm),aj s B m::(H++H3)):=Gq (Qyb (j m).tv (hw m) Y);have ap(I:hN)(c:bU):aT T T 1 16 I (vG V.str 1 nm) (.sl [.str (PQ nm)] c)=W (vG V.str 1 (nm++[PQ nm])):=UM (f:=V.str) (λ_=>rfl) (λ_=>rfl) (λ_=>rfl) (by unfold Qaq;omega);have h1:=Wzp s B k i A NV p v t sp (nm++[PQ nm]) e.length q.length Y (zm QaU (H.length+1) ((H++H3).length+1)) (nm++[PQ nm]) [] d m rfl hm yZ yZ;have M:B' QaU (H.length+1) ((H++H3).length+1) (zm QaU (H.length+1) ((H++H3).length+1)) ((H++H3).length+1) [.ptr 0 0,.ptr (H.length+1) 0,vG ar 7 d,NV,.str sp,p,iI e.length,iI q.length,vG V.str 1 (nm++[PQ nm]),iI (nm.length+1:Nat),iI 0] (aj s B m::(H++H3))
    = match Qdg B dd (nm++[PQ nm]) (sp::r) d m with
     |(some o,h)=>W (ae ar (ak (zt s.l g.atoms o)),aj s B h::H)
     |(none,h)=>W (.ad,aj s B h::H):=by
   rw[show(nm++[PQ nm]).length=nm.length+1 by simp]at h1;refine h1.trans ?_;unfold Qdg;cases O:bY B (dd sp) (nm++[PQ nm]) d m with
   |mk o h=>
    cases o with
    |none=>rfl
    |some o=>
     have P:cF B h:=by have:=Tk (f:=dd sp) (nm++[PQ nm]) d m hm;rw[O]at this;exact this
     have R:=S1 _ d m o h O;have S:∀x∈o,ep x:=Qlp _ d m o h O ho λy _=>⟨⟨by simp[dd,dY],by simp[dd,dY]⟩,λa ha=>by cases ha⟩
     have c:=Wzq k i A hG NV p nm e j t hR D F r (q++[sp]) o h (by rw[G];simp) P (by simp at R;omega) S;rw[show((q++[sp]).length:Int)=q.length+1 by simp]at c;exact c
  have U:(aj s B m::(H++H3)).length=(H++H3).length+1:=rfl;have f2 n I:fz n I fzD (vG ar 7 d)=W (vG ar 7 d):=vC (Qc3 λ_=>wR);have f3 I:fz ((H++H3).length+1) I fzD (.ptr 0 0)=W (.ptr 0 0):=vC (by simp[V.rb]);have f4 I:fz ((H++H3).length+1) I fzD (.ptr (H.length+1) 0)=W (.ptr (H.length+1) 0):=vC (by simpa[V.rb]using A);have f5 I:fz ((H++H3).length+1) I fzD NV=some NV:=vC v;have f6 I:fz ((H++H3).length+1) I fzD p=some p:=vC t;have f7 n I l:fz n I fzD (vG V.str 1 l)=W (vG V.str 1 l):=vC (Qc3 λ_=>rfl);have nn:=(j m).nn;have nN:(vG V.str 1 (nm++[PQ nm])).ng=ae V.str (ak (nm++[PQ nm])):=h7;have lN:Qai (ae V.str (ak (nm++[PQ nm])))=W (iI (nm.length+1:Nat)):=by rw[ON,CL,vW];rfl
  rw[IV];refine Eq.trans ?_ M;have X:=λn I=>f7 n I (nm++[PQ nm]);generalize a0:p.ng=SN,vG V.str 1 nm=N1,ae V.str (ak (nm++[PQ nm]))=N3,vG V.str 1 (nm++[PQ nm])=N2,vG ar 7 d=O1,aj s B m::(H++H3)=b at*;generalize a1:NV.ng=NN at*;generalize(H++H3).length+1=K at*;simp -implicitDefEqProofs(disch:=try exact wK)only[go_sem,Ca,e1,a0,i1,i2,C,a1,nn,J,L,ap,nN,lN,U,f2,f3,f4,f5,f6,X]
end
section
variable(s:Sl bq)(B:Int)(N:s.l.length<=1000)(q:∀a∈s.l,jh a)(g:bH)(u:∀i∈g.atoms,0<=i/\i<s.l.length)(z:g.atoms.length<=1000)
include N q u z
theorem Wzr{H H3:hN}{m:MK}(r:cF B m)(h:Wf (aj s B m::(H++H3)))(c:Wf (aj s B m::H))(t:H.length+1<(H++H3).length+1)(v:∀m,hN.get (aj s B m::(H++H3)) (H.length+1)=W (az g))(NV b:V)(nm a:aO)(d:∀m,Gv (aj s B m::(H++H3)) NV nm)(i:V.rb ((H++H3).length+1) b)(p:∀m,jO V.str (aj s B m::(H++H3)) b.ng a)(j:nm.length<=1000)(e:a.length*(nm.length+1)<=1000000):
  Dc QaU (H.length+1) (.ptr 0 0) (.ptr (H.length+1) 0) .ad NV b (aj s B m::(H++H3))
  = match Qdg B dd (nm++[PQ nm]) a [] m with
   |(some o,w)=>W (ae ar (ak (zt s.l g.atoms o)),aj s B w::H)
   |(none,o)=>W (.ad,aj s B o::H):=by
 have f:=zr (BG _ Y) e;have k:=Wzq s B N q g u z h c t v NV b nm a d i p j f a [] [] m rfl r (by simpa using e) (λx y=>by cases y);refine Eq.trans ?_ k;have A:=(p m).len;have l:(aj s B m::(H++H3)).length=(H++H3).length+1:=rfl;have f5 I:fz ((H++H3).length+1) I fzD NV=some NV:=vC (d m).rb;show _=zm QaU (H.length+1) ((H++H3).length+1) [.ptr 0 0,.ptr (H.length+1) 0,.ad,NV,b,iI a.length,iI 0] (aj s B m::(H++H3));generalize n:b.ng=C at*;generalize(H++H3).length+1=K at*;simp -implicitDefEqProofs(disch:=try exact wK)only[go_sem,Dc,n,A,l,f5]
theorem Wt7{H:hN}{m:MK}(F:Wf (aj s B m::H))(X:cF B m)(hb:(iQ (Qan s.l g).2.1).length*((Qan s.l g).1.length+1)<=1000000):
  E cy 38 [.ptr 0 0,bj g] (aj s B m::H)=W (bF (QL s.l B g m).1,aj s B (QL s.l B g m).2::H):=by
 have G:iM s.l g.atoms ([],[],0)=Qan s.l g:=rfl;have k:=IJ s.l g.atoms ([],[],0);rw[G]at k;have n:(match Qdg B dd ((Qan s.l g).1++[PQ (Qan s.l g).1]) (iQ (Qan s.l g).2.1) [] m with
   |(some o,b)=>W (ae ar (ak (zt s.l g.atoms o)),aj s B b::H)
   |(none,b)=>W (V.ad,aj s B b::H):Ro)=W (bF (QL s.l B g m).1,aj s B (QL s.l B g m).2::H):=by
  unfold QL;cases Qdg B dd ((Qan s.l g).1++[PQ (Qan s.l g).1]) (iQ (Qan s.l g).2.1) [] m with
  |mk o b=>cases o<;>rfl
 refine Eq.trans ?_ n;have bx:bK (aj s B m::H) (.agg (az g))=W (.ptr (H.length+1) 0,aj s B m::H++[O.cells (az g)]):=KM;have p b:Wf (aj s B b::H++[O.cells (az g)]):=VS (pI s B F) O6;have t:eL (aj s B m::H++[O.cells (az g)]) true 3 (.ptr (H.length+1) 0)=W (.agg (az g)):=by have:hN.get (aj s B m::H++[O.cells (az g)]) (H.length+1)=W (az g):=wJ (I:=aj s B m::H);rw[yo,this,va,Ai (by simp[az])];show W (V.agg ((az g).map V.ng))=_;rw[BQ]
 have v:eL (aj s B m::H++[O.cells (az g)]) T 1 (.ptr 0 0)=W (ae af s):=by show W (ae af s).ng=_;rw[vz]
 have f b:(aj s B b::H++[O.cells (az g)]).length=H.length+2:=u0;have h:=Gq (Wir s Y g u Y (p m));rw[f]at h;have nS:(ae af s).ng=ae af s:=vz;have w:(aj s B m::H).length=H.length+1:=rfl;unfold l_ ma at h;generalize e:Qan s.l g=y at*;obtain⟨a,P,op⟩:=y;simp only at*;have m1:(bD (H.length+2) (RS a)).aI=bD (H.length+2) (RS a):=by cases a<;>rfl
 have A:∀b (e:hN),Gv (aj s B b::H++[O.cells (az g)]++ax (RS a)++e) (bD (H.length+2) (RS a)) a:=λb e=>by
  have:=Rq (I0:=aj s B b::H++[O.cells (az g)]) (H:=e) a
  rwa[f]at this
 have i:=λb=>XD (p b) a;have d:∀b (e:hN),aj s B b::H++[O.cells (az g)]++ax (RS a)++e=aj s B b::(H++([O.cells (az g)]++ax (RS a)++e)):=λb e=>by simp only[AJ,wL]
 have hG:∀b (e:hN),hN.get (aj s B b::(H++([O.cells (az g)]++ax (RS a)++e))) (H.length+1)=W (az g):=λb e=>by rw[<-d,wL];exact Yd (φ:=aj s B b::H)
 have hT:∀e:hN,H.length+1<(H++([O.cells (az g)]++ax (RS a)++e)).length+1:=λe=>by simp
 rw[QH _ _ _ UW rfl];cases P with
 |nil=>
  have o:Wf (aj s B m::H++[O.cells (az g)]++ax (RS a)++[]):=by rw[wt];exact i m
  have x:=Wzr s B N q g u z (H:=H) (H3:=[O.cells (az g)]++ax (RS a)++[]) (m:=m) X (by rw[<-d];exact o) F (hT []) (λb=>hG b []) (bD (H.length+2) (RS a)) (.sl [.str []] .fx) a [[]]
   (λb=>by rw[<-d];exact A b []) rfl (λb=>by
    have c:Wf (aj s B b::H++[O.cells (az g)]++ax (RS a)++[]):=by rw[wt];exact i b
    rw[d]at c;exact Qve (l:=[[]]) (λ_=>rfl) (λ_=>rfl) (λ_ _=>rfl) c) (by simp at k;omega) (by simp at k ⊢; omega)
  rw[<-d]at x;have r:iQ ([]:aO)=[[]]:=rfl;rw[r];refine Eq.trans ?_ x;have j:E cy 57 [.agg (az g),ae af s] (aj s B m::H++[O.cells (az g)])=W (.aR [bD (H.length+2) (RS a),.ad,iI op],aj s B m::H++[O.cells (az g)]++ax (RS a)++[]):=h;have C:wS T 1 1 (.str []) [(0,.str [])]=W (.sl [.str []] .fx):=rfl;have D:(bD (H.length+2) (RS a)).ng.ng=(bD (H.length+2) (RS a)).ng:=by cases a<;>rfl
  have y:=f m;simp only[bj];generalize az g=M,ae af s=L,bD (H.length+2) (RS a)=NV,aj s B m::H=K,aj s B m::H++[O.cells (az g)]=J,aj s B m::H++[O.cells (az g)]++ax (RS a)++[]=I at*;simp -implicitDefEqProofs(disch:=try exact wK)only[go_sem,Kf,bx,t,v,nS,j,m1,w,C]
 |cons x r=>
  have D:(aj s B m::H++[O.cells (az g)]++ax (RS a)).length=H.length+2+(ax (RS a)).length:=yZ;have K:Gv (aj s B m::H++[O.cells (az g)]++ax (RS a)++ax (RS (x::r))) (.hg (H.length+2+(ax (RS a)).length) (x::r).length 1 T) (x::r):=by have:=Rq (I0:=aj s B m::H++[O.cells (az g)]++ax (RS a)) (H:=[]) (x::r);rw[D,wt]at this;exact this
  have I:Wf (aj s B m::H++[O.cells (az g)]++ax (RS a)++ax (RS (x::r))):=XD (i m) _;have L:E cy 58 [.hs (H.length+2+(ax (RS a)).length) 0 (x::r).length 1 T] (aj s B m::H++[O.cells (az g)]++ax (RS a)++ax (RS (x::r)))=W (.str (PQ (x::r)),aj s B m::H++[O.cells (az g)]++ax (RS a)++ax (RS (x::r))):=Gq (Qyb K.tv I (by simp at k ⊢; omega));have M:hN.get (aj s B m::H++[O.cells (az g)]++ax (RS a)++ax (RS (x::r))) (H.length+2+(ax (RS a)).length)=W ((x::r).map V.str):=by rw[<-D];exact wJ
  have C:(aj s B m::H++[O.cells (az g)]++ax (RS a)++ax (RS (x::r))).set (H.length+2+(ax (RS a)).length) O.gone=aj s B m::H++[O.cells (az g)]++ax (RS a)++[O.gone]:=by rw[<-D,Hh _ _ (vE _),EU];rfl
  have P:(aj s B m::H++[O.cells (az g)]++ax (RS a)++ax (RS (x::r))).length=H.length+3+(ax (RS a)).length:=by rw[vW,D];show _+1=_;omega
  have ap:∀c,G' T T 1 16 (aj s B m::H++[O.cells (az g)]++ax (RS a)++ax (RS (x::r))) (.hg (H.length+2+(ax (RS a)).length) (x::r).length 1 T) (.sl [.str (PQ (x::r))] c)
    = W (.hg (H.length+3+(ax (RS a)).length) (x::r++[PQ (x::r)]).length 1 T,aj s B m::H++[O.cells (az g)]++ax (RS a)++[O.gone,O.cells ((x::r++[PQ (x::r)]).map V.str)]):=λc=>by
   rw[Tr M (by unfold Qaq;simp at k ⊢; omega),C,P,wL];rfl
  have j b:hN.get (aj s B b::H++[O.cells (az g)]++ax (RS a)++[O.gone,O.cells ((x::r++[PQ (x::r)]).map V.str)]) (H.length+3+(ax (RS a)).length)=W ((x::r++[PQ (x::r)]).map V.str):=by
   have c:(aj s B b::H++[O.cells (az g)]++ax (RS a)++[O.gone]).length=H.length+3+(ax (RS a)).length:=yZ;have e:aj s B b::H++[O.cells (az g)]++ax (RS a)++[O.gone,O.cells ((x::r++[PQ (x::r)]).map V.str)]=aj s B b::H++[O.cells (az g)]++ax (RS a)++[O.gone]++[O.cells ((x::r++[PQ (x::r)]).map V.str)]:=by simp only[wL];rfl
   rw[e,<-c];exact wJ
  have l b:Wf (aj s B b::H++[O.cells (az g)]++ax (RS a)++[O.gone,O.cells ((x::r++[PQ (x::r)]).map V.str)]):=MS (i b) λy c=>by
   simp only[vZ,AS,R7]at c;rcases c with rfl|rfl
   ·rfl
   ·exact VM _
  have Q:(H++([O.cells (az g)]++ax (RS a)++[O.gone,O.cells ((x::r++[PQ (x::r)]).map V.str)])).length+1=H.length+4+(ax (RS a)).length:=yZ;have hj:=Wzr s B N q g u z (H:=H) (H3:=[O.cells (az g)]++ax (RS a)++[O.gone,O.cells ((x::r++[PQ (x::r)]).map V.str)]) (m:=m) X (by rw[<-d];exact l m) F (hT _) (λb=>hG b _) (bD (H.length+2) (RS a)) (.hg (H.length+3+(ax (RS a)).length) (x::r++[PQ (x::r)]).length 1 T) a (x::r++[PQ (x::r)])
   (λb=>by rw[<-d];exact A b _) (by rw[Q];simp only[V.rb,A9f];omega) (λb=>by
    rw[<-d];exact KJ (λ_=>rfl) (l b) (j b)) (by simp at k;omega) (by
    have:iQ (x::r)=x::r++[PQ (x::r)]:=rfl;rw[this]at hb;exact hb)
  rw[<-d]at hj;have J:iQ (x::r)=x::r++[PQ (x::r)]:=rfl;rw[J];refine Eq.trans ?_ hj;have o:E cy 57 [.agg (az g),ae af s] (aj s B m::H++[O.cells (az g)])=W (.aR [bD (H.length+2) (RS a),.hg (H.length+2+(ax (RS a)).length) (x::r).length 1 T,iI op],aj s B m::H++[O.cells (az g)]++ax (RS a)++ax (RS (x::r))):=h;have bf:wS T 1 1 (.str []) [(0,.str (PQ (x::r)))]=W (.sl [.str (PQ (x::r))] .fx):=rfl;have nG:(bD (H.length+2) (RS a)).ng.ng=(bD (H.length+2) (RS a)).ng:=by cases a<;>rfl
  have R:¬(((x::r).length:Nat):Int)=0:=yZ;have nH:(V.hg (H.length+2+(ax (RS a)).length) (x::r).length 1 T).ng=.hs (H.length+2+(ax (RS a)).length) 0 (x::r).length 1 T:=rfl;have S:(V.hs (H.length+2+(ax (RS a)).length) 0 (x::r).length 1 T).ng=.hs (H.length+2+(ax (RS a)).length) 0 (x::r).length 1 T:=rfl;have U:(V.hg (H.length+2+(ax (RS a)).length) (x::r).length 1 T).aI=.hg (H.length+2+(ax (RS a)).length) (x::r).length 1 T:=rfl;have lH:Qai (.hs (H.length+2+(ax (RS a)).length) 0 (x::r).length 1 T)=W (iI (x::r).length):=rfl;have b:=f m;simp only[bj];generalize((x::r).length:Nat)=XL,az g=GC,ae af s=SV,bD (H.length+2) (RS a)=NV,V.hs (H.length+2+(ax (RS a)).length) 0 (x::r).length 1 T=a2,V.hg (H.length+2+(ax (RS a)).length) (x::r).length 1 T=a1,V.hg (H.length+3+(ax (RS a)).length) (x::r++[PQ (x::r)]).length 1 T=a0,aj s B m::H=Z0,aj s B m::H++[O.cells (az g)]=Z1,aj s B m::H++[O.cells (az g)]++ax (RS a)++ax (RS (x::r))=Z2,aj s B m::H++[O.cells (az g)]++ax (RS a)++[O.gone,O.cells ((x::r++[PQ (x::r)]).map V.str)]=Z3 at*;simp -implicitDefEqProofs(disch:=try exact wK)only[go_sem,Kf,bx,t,v,nS,o,m1,nH,S,U,lH,R,w,L,bf,ap]
end
def Qyg{φ ψ:hN}(h:c=φ++O.cells j::ψ)(a:φ.length=d):hN.get c d=some j:=by rw[h];exact Ds a
def Wt8:(dZ X).map V.ng=dZ X:=rfl
def sI:yd (dZ X):=rfl
def Wzs:V.aL d (dZ X):=OM X
abbrev aG(s:Sl bq)(B:Int)(m:MK)(H:hN)(g:bH):hN:=aj s B m::H++[O.cells (az g)]
abbrev aP(s:Sl bq)(B:Int)(m:MK)(H:hN)(g:bH)(p:fX):hN:=aG s B m H g++[O.cells (cK p)]
abbrev aX(s:Sl bq)(B:Int)(m:MK)(H:hN)(g:bH)(p:fX)(x:Ne):hN:=aP s B m H g p++[O.cells (aC x)]
section
variable{s:Sl bq}{B:Int}{m:MK}{H:hN}{g:bH}{p:fX}{x:Ne}
def UZ:(aG s B m H g).length=H.length+2:=u0
def VX:(aP s B m H g p).length=H.length+3:=u0
def V1:(aX s B m H g p x).length=H.length+4:=u0
def Wi2(h:Wf (aj s B m::H)):Wf (aG s B m H g):=VS h O6
def S6(h:Wf (aj s B m::H)):Wf (aP s B m H g p):=VS (Wi2 h) ZK
def Wt9(h:Wf (aj s B m::H)):Wf (aX s B m H g p x):=VS (S6 h) yD
def Wi3{ψ:hN}:hN.get (aG s B m H g++ψ) (H.length+1)=W (az g):=Qyg (φ:=aj s B m::H) (ψ:=ψ) u0 u0
def Wi4{ψ:hN}:hN.get (aP s B m H g p++ψ) (H.length+2)=W (cK p):=Qyg (φ:=aG s B m H g) (ψ:=ψ) u0 u0
def Wua{ψ:hN}:hN.get (aX s B m H g p x++ψ) (H.length+3)=W (aC x):=Qyg (φ:=aP s B m H g p) (ψ:=ψ) u0 u0
end
section
variable(s:Sl bq)(B:Int)(g:bH)(p:fX)
theorem Wzt{H:hN}{h:MK}(e:Wf (aj s B h::H))(x:Ne)(N:x.attrs.length<=100000)(rows:Sl fF)(G:rows.l.length<=1000000)(b d:V)(i:V.rb 0 b)(t:V.rb 0 d)(z A C io:Int)(J:0<=io/\io<=10000000)(P D:Rk):∀(r q:List fF) (a:wx) (m:MK),rows.l=q++r->cF B m->a.length+r.length<=1000000->
  As QaU (H.length+1) (H.length+2) P (H.length+3) D (H.length+4) [.ptr 0 0,.ptr (H.length+1) 0,.ptr (H.length+2) 0,vG ar 7 a,ae aK rows,.ptr (H.length+3) 0,b,iI z,iI A,d,iI C,iI io,ae aK rows,iI rows.l.length,iI q.length] (aX s B m H g p x)
  = match bY B (Zw x p.space g.name) r a m with
   |(some o,c)=>D [.ptr 0 0,.ptr (H.length+1) 0,.ptr (H.length+2) 0,vG ar 7 o,ae aK rows,b,iI z,iI A,d,iI C,iI (io+1)] (aP s B c H g p)
   |(none,c)=>W (.ad,aj s B c::H)
 |[],q,a,m,f,v,w=>by
  have l:¬(q.length:Int)<rows.l.length:=by rw[f];simp
  have c:Wf (aj s B m::H):=pI s B e;have f1 n I:fz n I fzD (ae aK rows)=W (ae aK rows):=vC (vw λ_ _=>OM _);have f2 n I:fz n I fzD (vG ar 7 a)=W (vG ar 7 a):=vC (Qc3 λ_=>wR);have f3 n I:fz n I fzD b=some b:=vC (xI (wV _) i);have f4 n I:fz n I fzD d=some d:=vC (xI (wV _) t);have f5:∀k j n I,k<n->fz n I fzD (.ptr k j)=W (.ptr k j):=λk j n I h=>vC (by simpa[V.rb]using h);have o:ve (H.length+4) (aX s B m H g p x)=W (aX s B m H g p x):=by
   have:=Kk (Wt9 (g:=g) (p:=p) (x:=x) c)
   rwa[V1]at this
  have u:ve (H.length+3) (aX s B m H g p x)=W (aP s B m H g p):=by
   have:=xd (H:=[O.cells (aC x)]) (S6 (g:=g) (p:=p) c)
   rwa[VX]at this
  have f50:=λI=>f5 0 0 (H.length+4) I Y;have f51:=λI=>f5 0 0 (H.length+3) I Y;have f52:=λI=>f5 (H.length+1) 0 (H.length+4) I Y;have f53:=λI=>f5 (H.length+1) 0 (H.length+3) I Y;have f54:=λI=>f5 (H.length+2) 0 (H.length+4) I Y;have f55:=λI=>f5 (H.length+2) 0 (H.length+3) I Y;rw[IW];show _=D [.ptr 0 0,.ptr (H.length+1) 0,.ptr (H.length+2) 0,vG ar 7 a,ae aK rows,b,iI z,iI A,d,iI C,iI (io+1)] (aP s B m H g p);simp -implicitDefEqProofs(disch:=try exact wK)only[go_sem,Ar,l,f1,f2,f3,f4,f50,f51,f52,f53,f54,f55,o,u]
 |v::r,q,a,m,K,Q,R=>by
  have X:rows.l.length=q.length+r.length+1:=by rw[K];simp;omega
  have S:(q.length:Int)<rows.l.length:=by omega
  have o m:Wf (aj s B m::H):=pI s B e;have i1:eI 3 (iI q.length) (ae aK rows)=W (.ai (dZ v) 0):=KZ (f:=aK) K rfl rfl;have u I:eL I true 3 (.ai (dZ v) 0)=W (aK v):=xg rfl Wt8;have s7:u5 (aX s B m H g p x++[.cells [.ad,.str [],.bool T]]) 3 (.ptr (H.length+4) 0) (aK v) (aK v)=W (.undef,aX s B m H g p x++[.cells (dZ v)]):=by rw[<-V1 (s:=s) (B:=B) (m:=m) (g:=g) (p:=p) (x:=x)];exact Ho rfl rfl sI Wt8
  have F:E cy 21 [.ptr 0 0] (aX s B m H g p x++[.cells (dZ v)])=W (.bool (au B m).1,aX s B (au B m).2 H g p x++[.cells (dZ v)]):=Gq (UP s B m Q (VS (Wt9 (o m)) Wzs));have lx:eL (aX s B (au B m).2 H g p x++[.cells (dZ v)]) true 7 (.ptr (H.length+3) 0)=W (ar x):=by rw[yo,Wua];exact xg (I:=[]) rfl Gn
  have lp:eL (aX s B (au B m).2 H g p x++[.cells (dZ v)]) T 1 (.ptr (H.length+2) 0)=W (.str p.space):=by rw[yo,wL,Wi4];rfl
  have lg:eL (aX s B (au B m).2 H g p x++[.cells (dZ v)]) T 1 (.ptr (H.length+1) 1)=W (.str g.name):=by rw[yo,wL,wL,Wi3];rfl
  have lv:eL (aX s B (au B m).2 H g p x++[.cells (dZ v)]) true 3 (.ptr (H.length+4) 0)=W (aK v):=by
   have:hN.get (aX s B (au B m).2 H g p x++[O.cells (dZ v)]) (H.length+4)=W (dZ v):=by rw[<-V1 (s:=s) (B:=B) (m:=(au B m).2) (g:=g) (p:=p) (x:=x)];exact wJ
   rw[yo,this];exact xg (I:=[]) rfl Wt8
  have hj:=λI=>Gq (Wzj x p.space g.name v N I);have f1 n I:fz n I fzD (ae aK rows)=W (ae aK rows):=vC (vw λ_ _=>OM _);have f2 n I l:fz n I fzD (vG ar 7 l)=W (vG ar 7 l):=vC (Qc3 λ_=>wR);have f3 n I:fz n I fzD b=some b:=vC (xI (wV _) i);have f4 n I:fz n I fzD d=some d:=vC (xI (wV _) t);have f5:∀k j n I,k<n->fz n I fzD (.ptr k j)=W (.ptr k j):=λk j n I h=>vC (by simpa[V.rb]using h);have U:ve (H.length+4) (aX s B (au B m).2 H g p x++[.cells (dZ v)])=W (aX s B (au B m).2 H g p x):=by
   have:=xd (H:=[O.cells (dZ v)]) (Wt9 (g:=g) (p:=p) (x:=x) (o (au B m).2))
   rwa[V1]at this
  have f50:=λI=>f5 0 0 (H.length+4) I Y;have f52:=λI=>f5 (H.length+1) 0 (H.length+4) I Y;have f54:=λI=>f5 (H.length+2) 0 (H.length+4) I Y;have f56:=λI=>f5 (H.length+3) 0 (H.length+4) I Y;have nV:(aK v).ng=aK v:=rfl;have nX:(ar x).ng=ar x:=rfl;have nR:(ae aK rows).ng=ae aK rows:=vz;have w:(aX s B m H g p x).length=H.length+4:=V1;rw[IW];unfold bY;rcases M7 (au B m).1 with y|y
  ·rw[y]at F;rw[A9a y];have h:=Wzt e x N rows G b d i t z A C io J P D r (q++[v]) (a++[Zw x p.space g.name v]) (au B m).2 (by rw[K];simp) (ZE Q) (by simp at R ⊢; omega);rw[show((q++[v]).length:Int)=q.length+1 by simp]at h;refine Eq.trans ?_ h;have bf:wS true 7 1 (.agg [iI 0,iI 0,.str [],.str [],.ad,.ad,.str []]) [(0,ar (Zw x p.space g.name v))]=W (.sl [ar (Zw x p.space g.name v)] .fx):=UU rfl qf;have ap(I:hN)(c:bU):aT T true 7 112 I (vG ar 7 a) (.sl [ar (Zw x p.space g.name v)] c)=W (vG ar 7 (a++[Zw x p.space g.name v])):=UM (f:=ar) (λ_=>rfl) (λ_=>qf) (λ_=>rfl) (by unfold Qaq;simp at R;omega);have nJ:(ar (Zw x p.space g.name v)).ng=ar (Zw x p.space g.name v):=rfl;have L:=λn I=>f2 n I (a++[Zw x p.space g.name v]);generalize M:aX s B m H g p x++[O.cells [.ad,.str [],.bool T]]=Z1,aX s B (au B m).2 H g p x=Z4,aX s B (au B m).2 H g p x++[.cells (dZ v)]=Z3 at*;generalize ae aK rows=RV,aK v=VV,ar x=XV,ar (Zw x p.space g.name v)=a0,vG ar 7 a=O1,vG ar 7 (a++[Zw x p.space g.name v])=O2,aX s B m H g p x=Z0,aX s B m H g p x++[.cells (dZ v)]=Z2 at*;simp -implicitDefEqProofs(disch:=try exact wK)only[go_sem,Ar,S,nR,i1,u,nV,w,M,s7,F,lx,lp,lg,lv,nX,hj,nJ,bf,ap,f1,L,f3,f4,f50,f52,f54,f56,U]
  ·rw[y]at F;rw[O3 (by rw[y];simp)];have M:ve (H.length+3) (aX s B (au B m).2 H g p x)=W (aP s B (au B m).2 H g p):=by
    have:=xd (H:=[O.cells (aC x)]) (S6 (g:=g) (p:=p) (o (au B m).2))
    rwa[VX]at this
   have c1:ve (H.length+2) (aP s B (au B m).2 H g p)=W (aG s B (au B m).2 H g):=by
    have:=xd (H:=[O.cells (cK p)]) (Wi2 (g:=g) (o (au B m).2))
    rwa[UZ]at this
   have he:nK (H.length+1) (aG s B (au B m).2 H g) .ad=W (.ad,aj s B (au B m).2::H):=VU (xd (I:=aj s B (au B m).2::H) (o _)) rfl;have f51:=λI=>f5 0 0 (H.length+3) I Y;have f53:=λI=>f5 (H.length+1) 0 (H.length+3) I Y;have L:=λn I=>f2 n I a;generalize c:aX s B m H g p x++[O.cells [.ad,.str [],.bool T]]=Z1,aG s B (au B m).2 H g=Z6,aP s B (au B m).2 H g p=Z5,aX s B (au B m).2 H g p x=Z4,aX s B (au B m).2 H g p x++[.cells (dZ v)]=Z3 at*;generalize ae aK rows=RV,aK v=VV,aX s B m H g p x=Z0,aX s B m H g p x++[.cells (dZ v)]=Z2 at*;simp -implicitDefEqProofs(disch:=try exact wK)only[go_sem,Ar,S,nR,i1,u,nV,w,c,s7,F,f1,L,f3,f4,f50,f51,f52,f53,f54,f56,U,M,c1,he]
end
section
variable(s:Sl bq)(B:Int)(Q:s.l.length<=1000)(u:∀a∈s.l,jh a)(g:bH)(z:∀i∈g.atoms,0<=i/\i<s.l.length)(N:g.atoms.length<=1000)(p:fX)
include Q u z N
theorem Wzu{H:hN}{f:MK}(l:Wf (aj s B f::H))(rows:Sl fF)(F:rows.l.length<=1000000)(c:wx)(M:c.length<=1000000)(e A:V)(t:V.rb 0 e)(C:V.rb 0 A)(G:A.ng=ae ar (ak c))(D w:Int)(P:0<=w/\w<=10000000)(y:Rk)(J:∀x∈c,ep x)(K:∀x∈c,∀v∈rows.l,ep (Zw x p.space g.name v)):∀(r q:wx) (d:wx) (m:MK),c=q++r->cF B m->d.length+r.length*rows.l.length<=1000000->(∀x∈d,ep x)->
  yu QaU (H.length+1) (H.length+2) y (H.length+3) [.ptr 0 0,.ptr (H.length+1) 0,.ptr (H.length+2) 0,vG ar 7 d,ae aK rows,e,iI D,iI w,A,iI c.length,iI q.length] (aP s B m H g p)
  = match Qdg B (λx v=>Zw x p.space g.name v) rows.l r d m with
   |(some o,i)=>y [.ptr 0 0,.ptr (H.length+1) 0,ae ar (ak (zt s.l g.atoms o)),e,iI D,iI (w+1)] (aG s B i H g)
   |(none,i)=>W (.ad,aj s B i::H)
 |[],q,d,m,U,h,X,f=>by
  have e1:¬(q.length:Int)<c.length:=by rw[U];simp
  have L:Wf (aj s B m::H):=pI s B l;have f2 n I:fz n I fzD (vG ar 7 d)=W (vG ar 7 d):=vC (Qc3 λ_=>wR);have f3 n I:fz n I fzD e=some e:=vC (xI (wV _) t);have f5:∀k j n I,k<n->fz n I fzD (.ptr k j)=W (.ptr k j):=λk j n I h=>vC (by simpa[V.rb]using h);have f6 n I:fz n I fzD (ae ar (ak (zt s.l g.atoms d)))=W (ae ar (ak (zt s.l g.atoms d))):=vC (vw λ_ _=>wR);have c2:ve (H.length+3) (aP s B m H g p)=W (aP s B m H g p):=by
   have:=Kk (S6 (g:=g) (p:=p) L)
   rwa[VX]at this
  have c1:ve (H.length+2) (aP s B m H g p)=W (aG s B m H g):=by
   have:=xd (H:=[O.cells (cK p)]) (Wi2 (g:=g) L)
   rwa[UZ]at this
  have la:eL (aP s B m H g p) T 1 (.ptr (H.length+1) 2)=W (ae Iv (ak g.atoms)):=by rw[yo,Wi3];show W (V.ng (ae Iv (ak g.atoms)))=_;rw[vz]
  have S:E cy 59 [.ptr 0 0,ae ar (ak d),ae Iv (ak g.atoms)] (aP s B m H g p)=W (ae ar (ak (zt s.l g.atoms d)),aP s B m H g p):=Wpo s B Q u g.atoms z N m (S6 (g:=g) (p:=p) L) d f (by simp at X;omega);have nN:(vG ar 7 d).ng=ae ar (ak d):=h7;have nA:(ae Iv (ak g.atoms)).ng=ae Iv (ak g.atoms):=vz;have f50:=λI=>f5 0 0 (H.length+3) I Y;have f51:=λI=>f5 0 0 (H.length+2) I Y;have f52:=λI=>f5 (H.length+1) 0 (H.length+3) I Y;have f53:=λI=>f5 (H.length+1) 0 (H.length+2) I Y;rw[IX];show _=y [.ptr 0 0,.ptr (H.length+1) 0,ae ar (ak (zt s.l g.atoms d)),e,iI D,iI (w+1)] (aG s B m H g);generalize ae Iv (ak g.atoms)=AV,vG ar 7 d=O1,ae ar (ak d)=O2,ae ar (ak (zt s.l g.atoms d))=R,aG s B m H g=b,aP s B m H g p=a at*;simp -implicitDefEqProofs(disch:=try exact wK)only[go_sem,Cb,e1,f2,f3,f50,f51,f52,f53,f6,c2,c1,la,nN,nA,S]
 |x::r,q,d,m,L,h,f,R=>by
  have b:c.length=q.length+r.length+1:=by rw[L];simp;omega
  have e1:(q.length:Int)<c.length:=by omega
  have a:x∈c:=by rw[L];simp
  have b:Wf (aj s B m::H):=pI s B l;have b:(x::r).length*rows.l.length=rows.l.length+r.length*rows.l.length:=by rw[vT,GW];omega
  rw[b]at f;have j:=Wzt s B g p l x (by have:=(J x a).1.1;omega) rows F e A t C D w c.length q.length Y y (yu QaU (H.length+1) (H.length+2) y (H.length+3)) rows.l [] d m rfl h Y;have S:As QaU (H.length+1) (H.length+2) y (H.length+3) (yu QaU (H.length+1) (H.length+2) y (H.length+3)) (H.length+4) [.ptr 0 0,.ptr (H.length+1) 0,.ptr (H.length+2) 0,vG ar 7 d,ae aK rows,.ptr (H.length+3) 0,e,iI D,iI w,A,iI c.length,iI q.length,ae aK rows,iI rows.l.length,iI 0] (aX s B m H g p x)
    = match Qdg B (λx v=>Zw x p.space g.name v) rows.l (x::r) d m with
     |(some o,i)=>y [.ptr 0 0,.ptr (H.length+1) 0,ae ar (ak (zt s.l g.atoms o)),e,iI D,iI (w+1)] (aG s B i H g)
     |(none,i)=>W (.ad,aj s B i::H):=by
   refine j.trans ?_;unfold Qdg;cases U:bY B (Zw x p.space g.name) rows.l d m with
   |mk o i=>
    cases o with
    |none=>rfl
    |some o=>
     have X:cF B i:=by have:=Tk (f:=Zw x p.space g.name) rows.l d m h;rw[U]at this;exact this
     have b:=S1 rows.l d m o i U;have b:∀x∈o,ep x:=Qlp rows.l d m o i U R (K x a);have a:=Wzu l rows F c M e A t C G D w P y J K r (q++[x]) o i (by rw[L];simp) X Y b;rw[show((q++[x]).length:Int)=q.length+1 by simp]at a;exact a
  have i1:eI 7 (iI q.length) (ae ar (ak c))=W (.ai (aC x) 0):=KZ (f:=ar) (by rw[CL];exact L) rfl rfl;have a0 I:eL I true 7 (.ai (aC x) 0)=W (ar x):=xg rfl Gn;have s7:u5 (aP s B m H g p++[.cells [iI 0,iI 0,.str [],.str [],.ad,.ad,.str []]]) 7 (.ptr (H.length+3) 0) (ar x) (ar x)=W (.undef,aX s B m H g p x):=by rw[<-VX (s:=s) (B:=B) (m:=m) (g:=g) (p:=p)];exact Ho rfl rfl qf Gn
  have a1:(aP s B m H g p).length=H.length+3:=VX;have a2:(aX s B m H g p x).length=H.length+4:=V1;have f1 n I:fz n I fzD (ae aK rows)=W (ae aK rows):=vC (vw λ_ _=>OM _);have f2 n I:fz n I fzD (vG ar 7 d)=W (vG ar 7 d):=vC (Qc3 λ_=>wR);have f3 n I:fz n I fzD e=some e:=vC (xI (wV _) t);have f4 n I:fz n I fzD A=some A:=vC (xI (wV _) C);have f5:∀k j n I,k<n->fz n I fzD (.ptr k j)=W (.ptr k j):=λk j n I h=>vC (by simpa[V.rb]using h);have f50:=λI=>f5 0 0 (H.length+4) I Y;have f52:=λI=>f5 (H.length+1) 0 (H.length+4) I Y;have f54:=λI=>f5 (H.length+2) 0 (H.length+4) I Y;have f56:=λI=>f5 (H.length+3) 0 (H.length+4) I Y;have nX:(ar x).ng=ar x:=rfl;have nR:(ae aK rows).ng=ae aK rows:=vz;have lR:Qai (ae aK rows)=W (iI rows.l.length):=ON;rw[IX];refine Eq.trans ?_ S;generalize a3:aP s B m H g p++[O.cells [iI 0,iI 0,.str [],.str [],.ad,.ad,.str []]]=Z1,aX s B m H g p x=Z2 at*;generalize ae ar (ak c)=OS,ae aK rows=RV,ar x=XV,vG ar 7 d=O1,aP s B m H g p=Z0 at*;simp -implicitDefEqProofs(disch:=try exact wK)only[go_sem,Cb,e1,G,i1,a0,nX,a1,a3,s7,a2,nR,lR,f1,f2,f3,f4,f50,f52,f54,f56]
end
noncomputable def er(L:List bq)(B:Int)(g:bH):List fX->List Ne->MK->Option (List Ne)×MK
 |[],a,m=>(some a,m)
 |p::r,a,m=>match Qdg B (λx v=>Zw x p.space g.name v) (B1 B p.conds m).1.l a [] (B1 B p.conds m).2 with
  |(some o,b)=>er L B g r (zt L g.atoms o) b
  |(none,b)=>(none,b)
noncomputable def qg(L:List bq)(B:Int)(g:bH)(m:MK):Option (List Ne)×MK:=er L B g (Qbj L g) [dY] m
theorem Qpm(L:wD)(a:u_):∀(l:wx) (seen:aO) (b:wx),(zR L a l seen b).length<=b.length+l.length
 |[],seen,b=>by simp[zR]
 |x::r,seen,b=>by
  unfold zR;split
  ·have:=Qpm L a r seen b;simp;omega
  ·have:=Qpm L a r (seen++[eo L x a]) (b++[x]);simp at this ⊢; omega
theorem TT(L:wD)(a:u_):∀(l:wx) (seen:aO) (b:wx),∀x∈zR L a l seen b,x∈b\/x∈l
 |[],seen,b,x,h=>.inl h
 |y::r,seen,b,x,h=>by
  unfold zR at h;split at h
  ·rcases TT L a r _ _ x h with c|c
   ·exact .inl c
   ·exact .inr (wh _ c)
  ·rcases TT L a r _ _ x h with c|c
   ·rcases xf.1 c with d|d
    ·exact .inl d
    ·exact .inr (by rw[vR.1 d];exact wA ..)
   ·exact .inr (wh _ c)
def Es(l:wx):(zt P y l).length<=l.length:=by have:=Qpm P y l [] [];simpa[zt]using this
def Qpo(l:wx):∀x∈zt P y l,x∈l:=λx h=>by
 rcases TT P y l [] [] x h with b|b
 ·cases b
 ·exact b
def Qkn:List fX->Nat
 |[]=>1
 |p::r=>2^p.conds.length*Qkn r
theorem M5:∀l:List fX,0<Qkn l
 |[]=>Nat.one_pos
 |p::r=>JO (Nat.two_pow_pos _) (M5 r)
def jl:Nat->List (List Bool)
 |0=>[[]]
 |n+1=>(jl n).map (false :: ·)++(jl n).map (true :: ·)
theorem Wbp:∀n,(jl n).length=2^n
 |0=>rfl
 |n+1=>by unfold jl;rw[vW,wq,wq,Wbp n,Nat.pow_succ];omega
theorem Qtg:∀(l:List Bool),l∈jl l.length
 |[]=>by simp[jl]
 |false::l=>by show _∈(jl l.length).map (T :: ·)++_;exact ET _ (wa.2 ⟨l,Qtg l,rfl⟩)
 |true::l=>by show _∈_++(jl l.length).map (true :: ·);exact JG _ (wa.2 ⟨l,Qtg l,rfl⟩)
structure RI (ms:List Mc) (S:aY):Prop where
 ho:∀v∈S.out,v.holds.length=ms.length/\v.value.length<=4*(Qcc ms+1)
 nd:(Qa9 S).Nodup
def Wub:(bo U).length<=4:=by
 unfold bo
 repeat' split
 all_goals simp
theorem Oi:∀l:u_,(pH l).length<=4*l.length
 |[]=>by simp[pH]
 |c::l=>by have a:=Oi l;have b:=Wub c;unfold pH at a ⊢;rw[AR,vW,vT];omega
theorem Qyh(ts:List (V×Int×Int)):∀(f n:Nat),(eH ts f n).length<=f
 |0,n=>by simp[eH]
 |f+1,n=>by
  unfold eH;split
  ·split
   ·rw[vT];have:=Qyh ts f (Int.toNat (by assumption:V×Int×Int).2.1);rename_i t _ _;have:=Qyh ts f t.2.1.toNat;omega
   ·simp
  ·simp
def RI.put{ms:y8}{S:aY}(h:RI ms S)(c:Invq9 ms S){x:fq}(d:sx ms S x):RI ms (bS ms S x):=by
 unfold bS;split
 ·exact h
 ·unfold ed;rename_i k;cases f:bu (Qa9 S) (aQ (aF ms x.1))with
  |true=>simp only[A9c];exact⟨h.ho,h.nd⟩
  |false=>
   simp only[vD,A9d];refine⟨λv g => ?_,?_⟩
   ·rcases xf.1 g with a|a
    ·exact h.ho v a
    ·rw[vR.1 a];refine⟨?_,?_⟩
     ·show(aF ms x.1).length=_;unfold aF;rw[Uf,Qhd d.ok];omega
     ·show(pH _).length<=_;have b:=Oi (eH ((S.aM++[x]).map lj) (S.aM.length+1) S.aM.length).reverse;have e:=Qyh ((S.aM++[x]).map lj) (S.aM.length+1) S.aM.length;have i:=c.len;rw[Xi]at b;omega
   ·show((S.out++[cM ms S.aM x]).map λv=>aQ v.holds).Nodup;rw[yW];refine Ui.2 ⟨h.nd,u0,λa i b j => ?_⟩;rw[vR.1 j];intro e;subst e;have:bu (Qa9 S) (aQ (aF ms x.1)):=SE.2 i;rw[f]at this;cases this
theorem RI.let{ms:y8}{bud:Int}{n:Nat}:∀(ls:u_) (S:aY),RI ms S->Invq9 ms S->n<S.aM.length->(∀c∈ls,Qbn c)->RI ms (dA ms bud n ls S).2
 |[],S,h,a,b,d=>h
 |c::r,S,h,a,f,b=>by
  unfold dA;split
  ·exact h
  ·have e:=XN a.tick f (b c (wA ..));have g:RI ms (tick S):=⟨h.ho,h.nd⟩
   have i:=g.put a.tick e;have j:=a.tick.put e;have k:=Qs6 ms (tick S) (Mj ms (b_ S n) c,(n:Int),c);have m:S.aM.length<=(bS ms (tick S) (Mj ms (b_ S n) c,n,c)).aM.length:=k;exact RI.let r _ i j Y λd l=>b d (wh _ l)
theorem RI.run{ms:y8}{ls:u_}{bud:Int}(b:∀c∈ls,Qbn c):∀(f n:Nat) (S:aY) (p:Bool×aY),eJ ms ls bud f n S=W p->RI ms S->Invq9 ms S->RI ms p.2
 |0,n,S,p,h,_,_=>by cases h
 |f+1,n,S,p,h,d,g=>by
  unfold eJ at h;split at h
  ·rename_i i;have a:=RI.let (bud:=bud) ls S d g i b;have j:=(SM (bud:=bud) ls S g i b).1;split at h
   ·rename_i k e;rw[e]at a;cases h;exact a
   ·rename_i k e;rw[e]at a j;exact RI.run b f _ _ p h a j
  ·cases h;exact d
def Wpp(h:fW v)(bud:Int):RI (v.map bg) (iw v bud).2:=by
 have b:RI (v.map bg) (iY v.length):=⟨λc d=>by
  have:=vR.1 d;rw[this];refine⟨?_,?_⟩
  ·show(List.replicate v.length T).length=_;rw[KR,wq]
  ·show(0:Nat)<=_;omega,by
  show([aQ (List.replicate v.length T)]:List u2).Nodup;simp⟩
 have a:=Wim (v.map bg) (cJ v) h.m (iY v.length);exact RI.run h.m.ch _ _ _ _ (KL v h bud) (b.put (Wdk _ _) a) ((Wdk _ _).put a)
def Wbr(h:fW v)(bud:Int):(iw v bud).2.out.length<=2^v.length:=by
 have a:=Wpp v h bud;have:=EN (Qa9 (iw v bud).2) ((jl v.length).map aQ) a.nd (λk d=>by obtain⟨c,f,rfl⟩:=wa.1 d;have b:=(a.ho c f).1;rw[wq]at b;rw[<-b];exact wa.2 ⟨c.holds,Qtg _,rfl⟩)
 rw[wq,Wbp]at this;have e:(Qa9 (iw v bud).2).length=(iw v bud).2.out.length:=by unfold Qa9 zP;rw[wq]
 omega
def Wnt(h:fW v)(bud:Int):∀c∈(iw v bud).2.out,c.value.length<=100000000:=λc a=>by have:=((Wpp v h bud).ho c a).2;have:=h.ns;omega
def V2{B:Int}(h:fW v)(m:MK):(B1 B v m).1.l.length<=2^v.length:=by
 unfold B1;simp only;split
 ·exact Wbr v h _
 ·exact wV _
def V8{B:Int}(h:fW v)(m:MK):∀c∈(B1 B v m).1.l,c.value.length<=100000000:=by
 unfold B1;simp only;split
 ·exact Wnt v h _
 ·intro c a;cases a
def Qyi(o:Option wx):V.rb d (bF o):=by
 cases o with
 |none=>rfl
 |some l=>exact vw λ_ _=>wR
def Qth(o:Option wx):oK T (bF o)=W (bF o):=by
 cases o with
 |none=>rfl
 |some l=>exact Qyf
def U9{x:Ne}{sp nm:u2}{v:fF}(h:ep x)(e:x.attrs.length<50000)(c:v.value.length<=100000000):ep (Zw x sp nm v):=by
 unfold Zw;split
 ·exact h
 ·refine⟨⟨?_,h.1.2⟩,λa d => ?_⟩
  ·simp;omega
  ·rcases xf.1 d with b|b
   ·exact h.2 a b
   ·rw[vR.1 b];exact c
def Wnu{x:Ne}{sp nm:u2}{v:fF}:(Zw x sp nm v).attrs.length<=x.attrs.length+1:=by
 unfold Zw;split
 ·omega
 ·simp
section
variable(s:Sl bq)(B:Int)(hB:-9223372036854775808<=B)(Q:s.l.length<=1000)(u:∀a∈s.l,jh a)(g:bH)(z:∀i∈g.atoms,0<=i/\i<s.l.length)(N:g.atoms.length<=1000)
include hB Q u z N
theorem Wzv{H:hN}{m0:MK}(w:Wf (aj s B m0::H))(d:List fX)(a0:d.length<=20000)(G:∀p∈d,fW p.conds):∀(r q:List fX) (c:wx) (i:V) (m:MK),d=q++r->cF B m->c.length*Qkn r<=1000000->(∀x∈c,ep x/\x.attrs.length<=q.length)->V.rb 0 i->i.ng=ae ar (ak c)->oK T i=W (ae ar (ak c))->
  yv QaU (H.length+1) (H.length+2) [.ptr 0 0,.ptr (H.length+1) 0,i,ae aZ (ak d),iI d.length,iI q.length] (aG s B m H g)=W (bF (er s.l B g r c m).1,aj s B (er s.l B g r c m).2::H)
 |[],q,c,i,m,h,t,v,y,b,j,e=>by
  have k:¬(q.length:Int)<d.length:=by rw[h];simp
  have f:Wf (aj s B m::H):=pI s B w;have f4 n I:fz n I fzD i=some i:=vC (xI (wV _) b);have l:ve (H.length+2) (aG s B m H g)=W (aG s B m H g):=by
   have:=Kk (Wi2 (g:=g) f)
   rwa[UZ]at this
  have o:nK (H.length+1) (aG s B m H g) (ae ar (ak c))=W (ae ar (ak c),aj s B m::H):=VU (xd (I:=aj s B m::H) f) (vw λ_ _=>wR);rw[IY];show _=W (ae ar (ak c),aj s B m::H);generalize aG s B m H g=a at*;simp -implicitDefEqProofs(disch:=try exact wK)only[go_sem,Cc,k,f4,l,e,o]
 |p::r,q,c,i,m,U,hm,hl,D,J,K,b4=>by
  have b3:d.length=q.length+r.length+1:=by rw[U];simp;omega
  have e1:(q.length:Int)<d.length:=by omega
  have L:p∈d:=by rw[U];simp
  have y:=G p L;have hw:Wf (aj s B m::H):=pI s B w;have M:=V2 (B:=B) p.conds y m;have A:=V8 (B:=B) p.conds y m;have C:=Oh B y hm;have P:=M5 r;have k:0<2^p.conds.length:=Nat.two_pow_pos _;have I:Qkn (p::r)=2^p.conds.length*Qkn r:=rfl;have l:c.length*(B1 B p.conds m).1.l.length*Qkn r<=1000000:=by refine zr ?_ hl;rw[I,<-GU];exact DY _ (Hi _ M)
  have t:=zr (BG _ P) l;have a1:c.length<=1000000:=by refine zr ?_ hl;exact BG _ (M5 _)
  have a2:(B1 B p.conds m).1.l.length<=1000000\/c=[]:=by
   cases c with
   |nil=>exact .inr rfl
   |cons x o=>refine .inl (zr (zr ?_ (vE _)) t);exact OT _ u0
  have R:(B1 B p.conds m).1.l.length<=1000000:=by
   have b5:=y.ns;rcases a2 with h|h
   ·exact h
   ·
    have h3:=y.n;have h4:(iw p.conds (max (B-m.1) 0)).2.out.length<=1000000:=by
     have b:Invq9 (p.conds.map bg) (iw p.conds (max (B-m.1) 0)).2:=by
      have a3:∀(f n:Nat) (S:aY) (F:Bool×aY),eJ (p.conds.map bg) (cJ p.conds) (max (B-m.1) 0) f n S=W F->Invq9 (p.conds.map bg) S->Invq9 (p.conds.map bg) F.2:=λf=>by
       induction f with
       |zero=>intro n S F h _;cases h
       |succ f X=>
        intro n S F h b;unfold eJ at h;split at h
        ·rename_i a4;have j:=(SM (bud:=max (B-m.1) 0) (cJ p.conds) S b a4 y.m.ch).1;split at h
         ·rename_i S' e;rw[e]at j;cases h;exact j
         ·rename_i k e;rw[e]at j;exact X _ _ _ h j
        ·cases h;exact b
      exact a3 _ _ _ _ (KL p.conds y (max (B-m.1) 0)) ((Wdk _ _).put (Wim _ _ y.m _))
     have e:=b.no;have e:=b.len;omega
    unfold B1;simp only;split
    ·exact h4
    ·exact wV _
  have h1:=Wzu s B Q u g z N p w (B1 B p.conds m).1 R c a1 (ae aZ (ak d)) i (vw λ_ _=>ZK) J K d.length q.length Y (yv QaU (H.length+1) (H.length+2)) (λx a=>(D x a).1) (λx a v hv=>U9 (D x a).1 (by have:=(D x a).2;omega) (A v hv)) c [] [] (B1 B p.conds m).2 rfl C (by simpa using t) (λx a=>by cases a);have a5:yu QaU (H.length+1) (H.length+2) (yv QaU (H.length+1) (H.length+2)) (H.length+3) [.ptr 0 0,.ptr (H.length+1) 0,.ptr (H.length+2) 0,.ad,ae aK (B1 B p.conds m).1,ae aZ (ak d),iI d.length,iI q.length,i,iI c.length,iI 0] (aP s B (B1 B p.conds m).2 H g p)
    = W (bF (er s.l B g (p::r) c m).1,aj s B (er s.l B g (p::r) c m).2::H):=by
   refine h1.trans ?_;unfold er;cases j:Qdg B (λx v=>Zw x p.space g.name v) (B1 B p.conds m).1.l c [] (B1 B p.conds m).2 with
   |mk o S=>
    cases o with
    |none=>rfl
    |some o=>
     have a3:cF B S:=by have:=Qlo (F:=λx v=>Zw x p.space g.name v) (b:=(B1 B p.conds m).1.l) c [] (B1 B p.conds m).2 C;rw[j]at this;exact this
     have e:=MR c [] _ o S j;have a4:∀x∈o,ep x/\x.attrs.length<=q.length+1:=MZ c [] _ o S j (λx a=>by cases a) (λx a v hv=>⟨U9 (D x a).1 (by have:=(D x a).2;omega) (A v hv),by have b:=(D x a).2;have j:=Wnu (x:=x) (sp:=p.space) (nm:=g.name) (v:=v);omega⟩);have b:=Es s.l g.atoms o;have X:=Wzv w d a0 G r (q++[p]) (zt s.l g.atoms o) (ae ar (ak (zt s.l g.atoms o))) S (by rw[U];simp) a3 (by
       refine zr (DY _ b) ?_;rw[e,xJ,xr];exact l) (λx a=>by
       have:=a4 x (Qpo _ _ _ x a);simpa using this) (vw λ_ _=>wR) vz Qyf
     rw[show((q++[p]).length:Int)=q.length+1 by simp]at X;exact X
  have i1:eI 3 (iI q.length) (ae aZ (ak d))=W (.ai (cK p) 0):=KZ (f:=aZ) (by rw[CL];exact U) rfl rfl;have a6 I:eL I true 3 (.ai (cK p) 0)=W (aZ p):=xg rfl Wnk;have s7:u5 (aG s B m H g++[.cells [.str [],.ad,.ad]]) 3 (.ptr (H.length+2) 0) (aZ p) (aZ p)=W (.undef,aP s B m H g p):=by rw[<-UZ (s:=s) (B:=B) (m:=m) (g:=g)];exact Ho rfl rfl Wnl Wnk
  have lp:eL (aP s B m H g p) true 3 (.ptr (H.length+2) 0)=W (aZ p):=by have:=Wi4 (s:=s) (B:=B) (m:=m) (H:=H) (g:=g) (p:=p) (ψ:=[]);rw[wt]at this;rw[yo,this];exact xg (I:=[]) rfl Wnk
  have a7:E cy 61 [.ptr 0 0,aZ p] (aP s B m H g p)=W (ae aK (B1 B p.conds m).1,aP s B (B1 B p.conds m).2 H g p):=Gq (Wzm s B (S6 (g:=g) (p:=p) hw) hm hB p y);have a8:(aG s B m H g).length=H.length+2:=UZ;have a9:(aP s B (B1 B p.conds m).2 H g p).length=H.length+3:=VX;have f1 n I:fz n I fzD (ae aK (B1 B p.conds m).1)=W (ae aK (B1 B p.conds m).1):=vC (vw λ_ _=>OM _);have f3 n I:fz n I fzD (ae aZ (ak d))=W (ae aZ (ak d)):=vC (vw λ_ _=>ZK);have f4 n I:fz n I fzD i=some i:=vC (xI (wV _) J);have f5:∀k j n I,k<n->fz n I fzD (.ptr k j)=W (.ptr k j):=λk j n I h=>vC (by simpa[V.rb]using h);have f50:=λI=>f5 0 0 (H.length+3) I Y;have f52:=λI=>f5 (H.length+1) 0 (H.length+3) I Y;have f54:=λI=>f5 (H.length+2) 0 (H.length+3) I Y;have nP:(aZ p).ng=aZ p:=rfl;have b0:(ae aZ (ak d)).ng=ae aZ (ak d):=vz;have lO:Qai (ae ar (ak c))=W (iI c.length):=by rw[ON,CL]
  rw[IY];refine Eq.trans ?_ a5;generalize b1:aG s B m H g++[O.cells [.str [],.ad,.ad]]=Z1 at*;generalize ae ar (ak c)=OS,aZ p=PP,ae aZ (ak d)=PL,ae aK (B1 B p.conds m).1=RV,aP s B (B1 B p.conds m).2 H g p=Z3,aP s B m H g p=Z2,aG s B m H g=Z0 at*;simp -implicitDefEqProofs(disch:=try exact wK)only[go_sem,Cc,e1,b0,i1,a6,nP,a8,b1,s7,lp,a7,K,lO,a9,f1,f3,f4,f50,f52,f54]
theorem Wuc(y:Wf (aj s B A::c))(H:cF B A)(d:Qkn (Qbj s.l g)<=1000000)(e:∀p∈Qbj s.l g,fW p.conds):
  E cy 39 [.ptr 0 0,bj g] (aj s B A::c)=W (bF (qg s.l B g A).1,aj s B (qg s.l B g A).2::c):=by
 have w:=IJ s.l g.atoms ([],[],0);have f:iM s.l g.atoms ([],[],0)=Qan s.l g:=rfl;rw[f]at w;have i:(Qbj s.l g).length<=20000:=by unfold Qbj;rw[wq,Qye];simp at w;omega
 have l:=Wzv s B hB Q u g z N y (Qbj s.l g) i e (Qbj s.l g) [] [dY] (.sl [ar dY] .fx) A rfl H (by simpa using d) (λx C=>by rw[vR.1 C];exact⟨⟨⟨by simp[dY],by simp[dY]⟩,λa D=>by cases D⟩,by simp[dY]⟩) rfl rfl rfl
 have m:yv QaU (c.length+1) (c.length+2) [.ptr 0 0,.ptr (c.length+1) 0,.sl [ar dY] .fx,ae aZ (ak (Qbj s.l g)),iI (Qbj s.l g).length,iI 0] (aG s B A c g)=W (bF (qg s.l B g A).1,aj s B (qg s.l B g A).2::c):=l;have F:bK (aj s B A::c) (.agg (az g))=W (.ptr (c.length+1) 0,aG s B A c g):=KM;have G:mz [iI 0,iI 0,.str [],.str [],.ad,.ad,.str []] []=W (ar dY):=rfl;have J:wS true 7 1 (.agg [iI 0,iI 0,.str [],.str [],.ad,.ad,.str []]) [(0,ar dY)]=W (.sl [ar dY] .fx):=rfl;have o:eL (aG s B A c g) true 3 (.ptr (c.length+1) 0)=W (.agg (az g)):=by have:hN.get (aG s B A c g) (c.length+1)=W (az g):=wJ;rw[yo,this,va,Ai (by simp[az])];show W (V.agg ((az g).map V.ng))=_;rw[BQ]
 have q:eL (aG s B A c g) T 1 (.ptr 0 0)=W (ae af s):=by show W (ae af s).ng=_;rw[vz]
 have r:=λI=>Gq (Wnn s Y g z Y I);have t:(aG s B A c g).length=c.length+2:=UZ;have v:(aj s B A::c).length=c.length+1:=rfl;have K:(ae af s).ng=ae af s:=vz;have L:(ar dY).ng=ar dY:=rfl;have M:(ae aZ (ak (Qbj s.l g))).ng=ae aZ (ak (Qbj s.l g)):=vz;have O:Qai (ae aZ (ak (Qbj s.l g)))=W (iI (Qbj s.l g).length):=by rw[ON,CL]
 have f3 n I:fz n I fzD (ae aZ (ak (Qbj s.l g)))=W (ae aZ (ak (Qbj s.l g))):=vC (vw λ_ _=>ZK);have f4 n I:fz n I fzD (.sl [ar dY] .fx)=W (.sl [ar dY] .fx):=vC rfl;have f5:∀k j n I,k<n->fz n I fzD (.ptr k j)=W (.ptr k j):=λk j n I h=>vC (by simpa[V.rb]using h);have f50:=λI=>f5 0 0 (c.length+2) I Y;have f52:=λI=>f5 (c.length+1) 0 (c.length+2) I Y;rw[Nw _ _ _ UW rfl];simp only[bj]at*;generalize ar dY=EV,az g=GC,ae af s=SV,(Qbj s.l g).length=X,ae aZ (ak (Qbj s.l g))=U,aj s B A::c=S,aG s B A c g=P,aj s B (qg s.l B g A).2::c=b,bF (qg s.l B g A).1=R at*;simp -implicitDefEqProofs(disch:=try exact wK)only[go_sem,Kg,F,G,L,J,o,q,K,r,M,O,v,t,f3,f4,f50,f52,m]
noncomputable def xH(L:List bq)(B:Int)(g:bH)(m:MK):Option (List Ne)×MK:=
 if g.kind=1 then QL L B g m else if g.kind=2 then qg L B g m else bY B id (dW g) [] m
structure eu (L:List bq) (g:bH):Prop where
 ty:g.kind=1->(iQ (Qan L g).2.1).length*((Qan L g).1.length+1)<=1000000
 pb:g.kind=2->Qkn (Qbj L g)<=1000000
 ok:g.kind=2->∀p∈Qbj L g,fW p.conds
theorem Wdo{H:hN}{m:MK}(q:Wf (aj s B m::H))(j:cF B m)(k:eu s.l g):
  E cy 25 [.ptr 0 0,bj g] (aj s B m::H)=W (bF (xH s.l B g m).1,aj s B (xH s.l B g m).2::H):=by
 have l:bK (aj s B m::H) (.agg (az g))=W (.ptr (H.length+1) 0,aG s B m H g):=KM;have h:hN.get (aG s B m H g) (H.length+1)=W (az g):=wJ;have b:eL (aG s B m H g) T 1 (.ptr (H.length+1) 0)=W (iI g.kind):=by rw[yo,h];rfl
 have c:eL (aG s B m H g) true 3 (.ptr (H.length+1) 0)=W (.agg (az g)):=by rw[yo,h,va,Ai (by simp[az])];show W (V.agg ((az g).map V.ng))=_;rw[BQ]
 have d:(aj s B m::H).length=H.length+1:=rfl;have e:Wf (aj s B m::(H++[O.cells (az g)])):=Wi2 q;have n r o:nK (H.length+1) (aG s B r H g) (bF o)=W (bF o,aj s B r::H):=VU (xd (pI s B q)) (Qyi o);rw[Gz _ _ _ UW rfl];unfold xH;by_cases i:g.kind=1
 ·rw[A9a i];have p:E cy 38 [.ptr 0 0,.agg (az g)] (aG s B m H g)=W (bF (QL s.l B g m).1,aG s B (QL s.l B g m).2 H g):=Wt7 s B Q u g z N e j (k.ty i);have one:=Qth (QL s.l B g m).1;have f:=n (QL s.l B g m).2 (QL s.l B g m).1;rw[i]at b;simp only[bj];generalize az g=x,aj s B m::H=w,aG s B m H g=v,aj s B (QL s.l B g m).2::H=a,aG s B (QL s.l B g m).2 H g=t at*;simp only[go_sem,HL,l,b,c,d,p,one,f]
 ·rw[O3 i];by_cases f:g.kind=2
  ·rw[A9a f];have t:E cy 39 [.ptr 0 0,.agg (az g)] (aG s B m H g)=W (bF (qg s.l B g m).1,aG s B (qg s.l B g m).2 H g):=Wuc s B hB Q u g z N e j (k.pb f) (k.ok f);have one:=Qth (qg s.l B g m).1;have p:=n (qg s.l B g m).2 (qg s.l B g m).1;rw[f]at b;simp only[bj];generalize az g=y,aj s B m::H=x,aG s B m H g=w,aj s B (qg s.l B g m).2::H=a,aG s B (qg s.l B g m).2 H g=v,bF (qg s.l B g m).1=R at*;simp -implicitDefEqProofs(disch:=try exact wK)only[go_sem,HL,l,b,c,d,t,one,p]
  ·rw[O3 f];have t:E cy 40 [.ptr 0 0,.agg (az g)] (aG s B m H g)=W (bF (bY B id (dW g) [] m).1,aG s B (bY B id (dW g) [] m).2 H g):=Gq (Wnq s B g m j e);have one:=Qth (bY B id (dW g) [] m).1;have p:=n (bY B id (dW g) [] m).2 (bY B id (dW g) [] m).1;simp only[bj];generalize az g=y,aj s B m::H=x,aG s B m H g=w,aj s B (bY B id (dW g) [] m).2::H=a,aG s B (bY B id (dW g) [] m).2 H g=v,bF (bY B id (dW g) [] m).1=R at*;simp only[go_sem,HL,l,b,c,d,i,f,t,one,p]
end
theorem Wbs(a:Int)(b:u2)(i:Int)(P:Int->Prop)(d:P i):∀l:xe,(∀g∈l,∀j∈g.atoms,P j)->∀g∈Nm a b i l,∀j∈g.atoms,P j
 |[],h,g,hg,j,c=>by obtain rfl:=vR.1 hg;rw[vR.1 c];exact d
 |x::r,h,g,hg,j,c=>by
  unfold Nm at hg;have f:=h x (wA ..);split at hg
  ·rcases vZ.1 hg with rfl|hg
   ·rcases xf.1 c with e|e
    ·exact f j e
    ·rw[vR.1 e];exact d
   ·exact h g (wh _ hg) j c
  ·rcases vZ.1 hg with rfl|hg
   ·exact f j c
   ·exact Wbs a b i P d r (λg hg=>h g (wh _ hg)) g hg j c
theorem Qv3:∀(r:wD) (k:Nat) (l:xe),(∀g∈l,(∀j∈g.atoms,0<=j/\j<k)/\g.atoms.length<=k)->l.length<=k->
  (∀g∈mM r k l,(∀j∈g.atoms,0<=j/\j<((k+r.length:Nat):Int))/\g.atoms.length<=k+r.length)/\(mM r k l).length<=k+r.length
 |[],k,l,h,a=>⟨h,a⟩
 |a::r,k,l,h,m=>by
  have c:=Wbs a.kind (ct a) k (λj=>0<=j/\j<((k+1:Nat):Int)) Y l (λg b j d=>by have:=(h g b).1 j d;omega);have f:=Qta a.kind (ct a) k k l (λg b=>(h g b).2);have n:=WQ a.kind (ct a) k l;have i:=Qv3 r (k+1) (Nm a.kind (ct a) k l) (λg b=>⟨c g b,f g b⟩) Y;have e:k+(a::r).length=k+1+r.length:=by rw[vT];omega
  rw[e];exact i
def Nr(L:wD):(∀g∈vS L,(∀j∈g.atoms,0<=j/\j<(L.length:Int))/\g.atoms.length<=L.length)/\(vS L).length<=L.length:=by have:=Qv3 L 0 [] (λg a=>by cases a) (vE _);rw[xr]at this;exact this
def gM(K:Nat)(x:Ne):Prop:=x.attrs.length<=K/\x.an.length<=K/\∀a∈x.attrs,a.value.length<=100000000
def gM.le(h:gM d r)(b:d<=n):gM n r:=⟨by have:=h.1;omega,by have:=h.2.1;omega,h.2.2⟩
def gM.nv(h:gM d r)(a:d<=50000):ep r:=⟨⟨by have:=h.1;omega,by have:=h.2.1;omega⟩,h.2.2⟩
def gM.join{K b:Nat}{y:Ne}(h:gM K r)(c:gM b y):gM (K+b) (KK r y):=by
 have e:(KK r y).attrs=r.attrs++y.attrs:=by unfold KK ee Wno;split<;>rfl
 have g:(KK r y).an=r.an++y.an:=by unfold KK ee Wno;split<;>rfl
 refine⟨?_,?_,λa f => ?_⟩
 ·rw[e,vW];have:=h.1;have:=c.1;omega
 ·rw[g,vW];have:=h.2.1;have:=c.2.1;omega
 ·rw[e]at f;rcases xf.1 f with d|d
  ·exact h.2.2 a d
  ·exact c.2.2 a d
def gM.with{K:Nat}{x:Ne}{sp nm:u2}{v:fF}(h:gM K x)(c:v.value.length<=100000000):gM (K+1) (Zw x sp nm v):=by
 unfold Zw;split
 ·exact h.le Y
 ·refine⟨?_,by have:=h.2.1;show x.an.length<=_;omega,λa d => ?_⟩
  ·have:=h.1;simp;omega
  ·rcases xf.1 d with b|b
   ·exact h.2.2 a b
   ·rw[vR.1 b];exact c
theorem Wa{L:wD}{B:Int}{g:bH}:∀(r:List fX) (a:wx) (m:MK) (o:wx) (c:MK),(∀p∈r,fW p.conds)->er L B g r a m=(W o,c)->∀K,(∀x∈a,gM K x)->(∀x∈o,gM (K+r.length) x)/\o.length<=a.length*Qkn r
 |[],a,m,o,c,b,h,K,d=>by have:(W a,m)=(W o,c):=h;cases this;exact⟨d,by show a.length<=a.length*1;omega⟩
 |p::r,a,m,o,c,d,h,K,k=>by
  have e:=d p (wA ..);unfold er at h;cases f:Qdg B (λx v=>Zw x p.space g.name v) (B1 B p.conds m).1.l a [] (B1 B p.conds m).2 with
  |mk q i=>
   rw[f]at h;cases q with
   |none=>cases h
   |some q=>have j:=MR a [] _ q i f;have l:=MZ a [] _ q i f (λx b=>by cases b) (λx b v n=>(k x b).with (V8 p.conds e m v n));have s:=Es L g.atoms q;have⟨t,u⟩:=Wa r (zt L g.atoms q) i o c (λp e=>d p (wh _ e)) h (K+1) (λx b=>l x (Qpo _ _ _ x b));refine⟨λx b=>(t x b).le (by rw[vT];omega),?_⟩;have w:=V2 (B:=B) p.conds e m;rw[xJ,xr]at j;refine zr u ?_;show _<=a.length*(2^p.conds.length*Qkn r);rw[<-GU];refine DY _ (zr s ?_);rw[j];exact Hi _ w
def fg(L:wD)(g:bH):Nat:=if g.kind=1 then(iQ (Qan L g).2.1).length*((Qan L g).1.length+1)else if g.kind=2 then Qkn (Qbj L g)else 2
def Wdp(g:bH):(Qbj P g).length<=2*g.atoms.length:=by have b:=IJ P g.atoms ([],[],0);have a:iM P g.atoms ([],[],0)=Qan P g:=rfl;rw[a]at b;unfold Qbj;rw[wq,Qye];simp at b;omega
def Qma{L:wD}{B:Int}(i:eu L e)(n:e.atoms.length<=20)(m:MK):(∀x∈(xH L B e m).1.getD [],gM 50 x)/\((xH L B e m).1.getD []).length<=fg L e:=by
 unfold xH fg;by_cases c:e.kind=1
 ·rw[A9a c,A9a c];unfold QL;cases d:Qdg B dd ((Qan L e).1++[PQ (Qan L e).1]) (iQ (Qan L e).2.1) [] m with
  |mk q g=>
   cases q with
   |none=>exact⟨λx a=>(by cases a),wV _⟩
   |some q=>have f:=MR _ [] _ q g d;have j:∀x∈q,gM 50 x:=MZ _ [] _ q g d (λx b=>by cases b) (λx b y l=>⟨by simp[dd,dY],by simp[dd,dY],λa k=>by cases k⟩);have h:=Es L e.atoms q;refine⟨λx b=>j x (Qpo _ _ _ x b),?_⟩;rw[xJ,xr,vW]at f;rw[f]at h;exact h
 ·rw[O3 c,O3 c];by_cases b:e.kind=2
  ·rw[A9a b,A9a b];unfold qg;cases g:er L B e (Qbj L e) [dY] m with
   |mk q f=>
    cases q with
    |none=>exact⟨λx a=>(by cases a),wV _⟩
    |some q=>
     have⟨h,k⟩:=Wa (Qbj L e) [dY] m q f (i.ok b) g 0 (λx d=>by rw[vR.1 d];exact⟨by simp[dY],by simp[dY],λa j=>by cases j⟩)
     have:=Wdp L e;refine⟨λx d=>(h x d).le Y,?_⟩;simpa using k
  ·rw[O3 b,O3 b];cases g:bY B id (dW e) [] m with
   |mk q f=>
    cases q with
    |none=>exact⟨λx a=>(by cases a),wV _⟩
    |some q=>
     have k:=S1 _ [] _ q f g;have l:∀x∈q,gM 50 x:=Qlp _ [] _ q f g (λx j=>by cases j) (λy h=>by
      simp only[dW,vZ,AS,R7]at h;rcases h with rfl|rfl
      ·exact⟨by simp[dY],by simp[dY],λa d=>by cases d⟩
      ·exact⟨by simp[dY],u0,λa d=>by cases d⟩)
     refine⟨l,?_⟩;show q.length<=2;rw[k];simp[dW]
theorem XX{L:wD}{B:Int}{g:bH}:∀(r:List fX) (a:wx) (m:MK),(∀p∈r,fW p.conds)->cF B m->cF B (er L B g r a m).2
 |[],a,m,b,h=>h
 |p::r,a,m,c,h=>by
  have d:=c p (wA ..);have e:=Qlo (F:=λx v=>Zw x p.space g.name v) (b:=(B1 B p.conds m).1.l) a [] _ (Oh B d h);unfold er;cases f:Qdg B (λx v=>Zw x p.space g.name v) (B1 B p.conds m).1.l a [] (B1 B p.conds m).2 with
  |mk q i=>
   rw[f]at e;cases q with
   |none=>exact e
   |some q=>exact XX r _ i (λp d=>c p (wh _ d)) e
def Wud{L:wD}{B:Int}(g:eu L e){m:MK}(a:cF B m):cF B (xH L B e m).2:=by
 unfold xH;by_cases c:e.kind=1
 ·rw[A9a c];have d:=Qlo (F:=dd) (b:=(Qan L e).1++[PQ (Qan L e).1]) (iQ (Qan L e).2.1) [] m a;unfold QL;cases f:Qdg B dd ((Qan L e).1++[PQ (Qan L e).1]) (iQ (Qan L e).2.1) [] m with
  |mk q h=>rw[f]at d;cases q<;>exact d
 ·rw[O3 c];by_cases b:e.kind=2
  ·rw[A9a b];exact XX _ _ _ (g.ok b) a
  ·rw[O3 b];exact Tk _ _ _ a
def Qh4(L:wD):xe->Nat
 |[]=>1
 |g::r=>fg L g*Qh4 L r
noncomputable def eM(L:List bq)(B:Int):List bH->List Ne->MK->Option (List Ne)×MK
 |[],a,m=>(some a,m)
 |g::r,a,m=>
  if(AL B a ((xH L B g m).1.getD []) [] (xH L B g m).2).2.2=true then(none,(AL B a ((xH L B g m).1.getD []) [] (xH L B g m).2).2)
  else eM L B r ((AL B a ((xH L B g m).1.getD []) [] (xH L B g m).2).1.getD []) (AL B a ((xH L B g m).1.getD []) [] (xH L B g m).2).2
def gN:Ne:=⟨-1,1,[],[111],[],[],[]⟩
noncomputable def Qgm(L:List bq)(B:Int):Option (List Ne)×MK:=
 if(au B (0,false)).1=true then eM L B (vS L) [gN] (au B (0,false)).2 else(none,(au B (0,false)).2)
def Wb{B:Int}{a b:wx}{m:MK}(g:∀x∈a,gM d x)(h:∀x∈b,gM n x):(∀x∈(AL B a b [] m).1.getD [],gM (d+n) x)/\((AL B a b [] m).1.getD []).length<=a.length*b.length:=by
 cases e:AL B a b [] m with
 |mk q f=>
  cases q with
  |none=>exact⟨λx c=>(by cases c),wV _⟩
  |some q=>have i:=MR a [] m q f e;have j:=MZ a [] m q f e (λx c=>by cases c) (λx c y k=>(g x c).join (h y k));refine⟨j,?_⟩;show q.length<=_;rw[i];simp
def cb(L:wD)(n:Ne):List Bool:=L.map λa=>Xz a n.nd
def ke(b:List Bool)(n:Ne):uZ:=.sl (b.map Bv) .no::aC n
@[reducible] def dB(x:List Bool×Ne):V:=.agg (ke x.1 x.2)
def Wue{x:List Bool×Ne}:V.aL d (ke x.1 x.2):=by show(V.rb d (.sl (x.1.map Bv) .no)&&V.aL d (aC x.2));rw[Dg,AM λ_=>rfl,yD];rfl
def Qf(x:List Bool×Ne):V.rb d (dB x):=Wue
attribute [go_sem] Qf
section
variable(s:Sl bq)(B:Int)(z:s.l.length<=1000)(u:∀a∈s.l,jh a)(m:MK)
include z u
theorem Wzw(n:Ne)(l:ep n)(c NV:V)(d:V.rb 0 c)(g:V.rb 0 NV)(p h:Int)(v:0<=h/\h<=100000000)(w:Rk)(R:Ro)(K:∀b,b=[aj s B m,.cells (aC n),O.cells ((cb s.l n).map Bv)]->
   (bd (eL b true 7 (.ptr 1 0)) λk=>bd (W (V.agg (.hs 2 0 s.l.length 1 T::aC n))) λe=>bd (wS true 8 1 (.agg [.ad,iI 0,iI 0,.str [],.str [],.ad,.ad,.str []]) [(0,e)]) λf=>bd (aT T true 8 136 b c f.ng) λi=>bd (fz 1 b fzD i) λj=>w [ae af s,j,.ptr 0 0,NV,iI p,iI (h+1)] [aj s B m])=R):∀(r q:wD),s.l=q++r->
  nW QaU 0 1 w 3 [ae af s,c,.ptr 0 0,.ptr 1 0,.hs 2 0 s.l.length 1 T,NV,iI p,iI h,ae af s,iI s.l.length,iI q.length] [aj s B m,.cells (aC n),.cells ((cb q n).map Bv++List.replicate r.length (V.bool T))]=R
 |[],q,t=>by
  have x:¬(q.length:Int)<s.l.length:=by rw[t];simp
  have b:q=s.l:=by rw[t];simp
  have f1 k I:fz k I fzD (ae af s)=W (ae af s):=vC (vw λ_ _=>rfl);have f2 k I:fz k I fzD c=some c:=vC (xI (wV _) d);have f3 k I:fz k I fzD NV=some NV:=vC (xI (wV _) g);have f4 I:fz 3 I fzD (.ptr 0 0)=W (.ptr 0 0):=vC rfl;have f6 I:fz 3 I fzD (.ptr 1 0)=W (.ptr 1 0):=vC rfl;have f7 I:fz 3 I fzD (.hs 2 0 s.l.length 1 T)=W (.hs 2 0 s.l.length 1 T):=vC rfl;have y:Wf [aj s B m,O.cells (aC n),.cells ((cb s.l n).map Bv)]:=Qc (by
   intro o f;simp only[vZ,AS,R7]at f;rcases f with rfl|rfl|rfl
   ·exact⟨_,rfl,Qa s B m⟩
   ·exact⟨_,rfl,yD⟩
   ·exact⟨_,rfl,AM λ_=>rfl⟩)
  have i:Wf [aj s B m]:=Qc (by intro o f;rw[vR.1 f];exact⟨_,rfl,Qa s B m⟩)
  have z:ve 3 [aj s B m,O.cells (aC n),.cells ((cb s.l n).map Bv)]=W [aj s B m,.cells (aC n),.cells ((cb s.l n).map Bv)]:=Kk y;have A:ve 1 [aj s B m,O.cells (aC n),.cells ((cb s.l n).map Bv)]=W [aj s B m]:=xd (I:=[aj s B m]) i;have C:mz [.ad,iI 0,iI 0,.str [],.str [],.ad,.ad,.str []] [(0,1,.hs 2 0 s.l.length 1 T),(1,7,ar n)]=W (.agg (.hs 2 0 s.l.length 1 T::aC n)):=by have e:mz [.ad,iI 0,iI 0,.str [],.str [],.ad,.ad,.str []] [(0,1,.hs 2 0 s.l.length 1 T),(1,7,ar n)]=(if(aC n).length=7/\1+7<=8/\yd (aC n)=true then W (V.hs 2 0 s.l.length 1 T::((aC n).map V.ng++[]))else none).map V.agg:=rfl;rw[e,A9a ⟨rfl,by omega,qf⟩,Gn,wt];rfl
  have D:eL [aj s B m,O.cells (aC n),.cells ((cb s.l n).map Bv)] true 7 (.ptr 1 0)=W (ar n):=by exact xg (I:=[]) rfl Gn
  have F:(ar n).ng=ar n:=rfl;have G:(V.hs 2 0 s.l.length 1 T).ng=.hs 2 0 s.l.length 1 T:=rfl;have j:=K _ rfl;rw[zE,b];rw[xJ,JJ,wt,<-j];rw[b]at x;simp -implicitDefEqProofs(disch:=try exact wK)only[go_sem,nU,x,f1,f2,f3,f4,f6,f7,z,A,D,F,G,C]
 |a::r,q,j=>by
  have L:s.l.length=q.length+r.length+1:=by rw[j];simp;omega
  have P:(q.length:Int)<s.l.length:=by omega
  have M:=Wzw n l c NV d g p h v w R K r (q++[a]) (by rw[j];simp);rw[show((q++[a]).length:Int)=q.length+1 by simp]at M;have x:eI 7 (iI q.length) (ae af s)=W (.ai (aH a) 0):=KZ (f:=af) j rfl rfl;have z I:eL I true 7 (.ai (aH a) 0)=W (.agg (aH a)):=xg rfl BC;have A:([aj s B m,O.cells (aC n),.cells ((cb q n).map Bv++List.replicate (a::r).length (V.bool T))]:hN).length=3:=rfl;have jk:u5 ([aj s B m,O.cells (aC n),.cells ((cb q n).map Bv++List.replicate (a::r).length (V.bool T))]++[O.cells [iI 0,.bool T,.str [],.str [],iI 0,.str [],.bool T]]) 7 (.ptr 3 0) (.agg (aH a)) (.agg (aH a))=W (.undef,[aj s B m,.cells (aC n),.cells ((cb q n).map Bv++List.replicate (a::r).length (V.bool T)),.cells (aH a)]):=Ho (I:=[aj s B m,O.cells (aC n),.cells ((cb q n).map Bv++List.replicate (a::r).length (V.bool T))]) (t:=.agg (aH a)) rfl rfl rfl BC;have C:eL [aj s B m,O.cells (aC n),.cells ((cb q n).map Bv++List.replicate (a::r).length (V.bool T)),.cells (aH a)] true 7 (.ptr 3 0)=W (.agg (aH a)):=by exact xg (I:=[]) rfl BC
  have D:eL [aj s B m,O.cells (aC n),.cells ((cb q n).map Bv++List.replicate (a::r).length (V.bool T)),.cells (aH a)] true 7 (.ptr 1 0)=W (ar n):=by exact xg (I:=[]) rfl Gn
  have F:=λI=>Gq (PR a n.nd (u a (by rw[j];simp)) (by
   obtain⟨⟨N,o⟩,_⟩:=l;show(ak n.attrs).l.length<=_/\(ak n.an).l.length<=_;rw[CL,CL];omega) (λy e=>by
   have b:y∈(ak n.attrs).l:=e;rw[CL]at b;exact l.2 y b) I)
  have i2:eI 1 (iI q.length) (.hs 2 0 s.l.length 1 T)=W (.ptr 2 q.length):=yl Y;have G:u5 [aj s B m,O.cells (aC n),.cells ((cb q n).map Bv++List.replicate (a::r).length (V.bool T)),.cells (aH a)] 1 (.ptr 2 q.length) (.bool (Xz a n.nd)) (.bool (Xz a n.nd))=W (.undef,[aj s B m,.cells (aC n),.cells ((cb (q++[a]) n).map Bv++List.replicate r.length (V.bool T)),.cells (aH a)]):=by
   rw[Qte (cs:=(cb q n).map Bv++List.replicate (a::r).length (V.bool T)) rfl (by simp[cb])];have e:((cb q n).map Bv++List.replicate (a::r).length (V.bool T)).set q.length (.bool (Xz a n.nd))=(cb (q++[a]) n).map Bv++List.replicate r.length (V.bool T):=by
    have N:q.length=((cb q n).map Bv).length:=by simp[cb]
    rw[N,Hh _ _ (vE _),EU];simp[cb,Gu]
   rw[e];rfl
  have Q:Wf [aj s B m,O.cells (aC n),.cells ((cb (q++[a]) n).map Bv++List.replicate r.length (V.bool T))]:=Qc (by
   intro o b;simp only[vZ,AS,R7]at b;rcases b with rfl|rfl|rfl
   ·exact⟨_,rfl,Qa s B m⟩
   ·exact⟨_,rfl,yD⟩
   ·refine⟨_,rfl,?_⟩;rw[<-KV (f:=Bv) (a:=T),<-yW];exact AM λ_=>rfl)
  have S:ve 3 [aj s B m,O.cells (aC n),.cells ((cb (q++[a]) n).map Bv++List.replicate r.length (V.bool T)),.cells (aH a)]=W [aj s B m,.cells (aC n),.cells ((cb (q++[a]) n).map Bv++List.replicate r.length (V.bool T))]:=xd (I:=[aj s B m,O.cells (aC n),.cells ((cb (q++[a]) n).map Bv++List.replicate r.length (V.bool T))]) (H:=[.cells (aH a)]) Q;have f1 k I:fz k I fzD (ae af s)=W (ae af s):=vC (vw λ_ _=>rfl);have f2 k I:fz k I fzD c=some c:=vC (xI (wV _) d);have f3 k I:fz k I fzD NV=some NV:=vC (xI (wV _) g);have f4 I:fz 3 I fzD (.ptr 0 0)=W (.ptr 0 0):=vC rfl;have f6 I:fz 3 I fzD (.ptr 1 0)=W (.ptr 1 0):=vC rfl;have f7 I:fz 3 I fzD (.hs 2 0 s.l.length 1 T)=W (.hs 2 0 s.l.length 1 T):=vC rfl;have nS:(ae af s).ng=ae af s:=vz;have U:(ar n).ng=ar n:=rfl;have X:(V.hs 2 0 s.l.length 1 T).ng=.hs 2 0 s.l.length 1 T:=rfl;rw[zE];refine Eq.trans ?_ M;have i:∀I,E cy 26 [.agg (aH a),ar n] I=W (.bool (Xz a n.nd),I):=F;generalize([aj s B m,O.cells (aC n),.cells ((cb q n).map Bv++List.replicate (a::r).length (V.bool T))]:hN)=Z0,([aj s B m,O.cells (aC n),.cells ((cb q n).map Bv++List.replicate (a::r).length (V.bool T)),.cells (aH a)]:hN)=Z2,([aj s B m,O.cells (aC n),.cells ((cb (q++[a]) n).map Bv++List.replicate r.length (V.bool T))]:hN)=Z4,([aj s B m,O.cells (aC n),.cells ((cb (q++[a]) n).map Bv++List.replicate r.length (V.bool T)),.cells (aH a)]:hN)=Z3 at*;generalize J:Z0++[O.cells [iI 0,.bool T,.str [],.str [],iI 0,.str [],.bool T]]=Z1 at*;generalize aH a=AC,ae af s=SV,ar n=NE,V.hs 2 0 s.l.length 1 T=a0 at*;simp -implicitDefEqProofs(disch:=try exact wK)only[go_sem,nU,P,x,z,nS,A,J,jk,C,D,U,i,X,i2,G,f1,f2,f3,f4,f6,f7,S]
end
def Wuf{f:L->V}{l:List L}:(vG f d l).aI=ae f (ak l):=by cases l<;>rfl
def dP(L:wD)(n:Ne):List Bool×Ne:=(cb L n,n)
def hZ(L:wD):Option wx×MK->V
 |(some a,m)=>.aR [ae dB (ak (a.map (dP L))),.int .i64 m.1,.bc]
 |(none,m)=>.aR [.ad,.int .i64 m.1,cR 21]
def Qyj{n:Nat}(p:Option wx×MK):V.rb n (hZ P p):=by
 obtain⟨o,m⟩:=p;cases o with
 |none=>rfl
 |some l=>show(V.rb n (ae dB (ak (l.map (dP P))))&&true);rw[vw λx _=>Qf x];rfl
def YH(o:Option wx):(bF o).ng=bF o:=by
 cases o with
 |none=>rfl
 |some l=>exact vz
def Wi6(o:Option wx):bF o=ae ar (ak (o.getD [])):=by cases o<;>rfl
section
variable(s:Sl bq)(B:Int)(Q:s.l.length<=20)(u:∀a∈s.l,jh a)
include Q u
theorem Wzx(m:MK)(b:wx)(F:∀x∈b,ep x)(i:b.length<=1000000)(NV:V)(c:V.rb 0 NV)(e:NV.ng=ae ar (ak b)):∀(r q:wx),b=q++r->
  mH QaU 0 1 [ae af s,vG dB 8 (q.map (dP s.l)),.ptr 0 0,NV,iI b.length,iI q.length] [aj s B m]=W (.aR [ae dB (ak (b.map (dP s.l))),iI m.1,.bc],[])
 |[],q,f=>by
  have g:¬(q.length:Int)<b.length:=by rw[f];simp
  have a:q=b:=by rw[f];simp
  have d:Wf [aj s B m]:=Qc (by intro o h;rw[vR.1 h];exact⟨_,rfl,Qa s B m⟩)
  have j:ve 1 [aj s B m]=W [aj s B m]:=Kk d;have f2 k I:fz k I fzD (vG dB 8 (b.map (dP s.l)))=W (vG dB 8 (b.map (dP s.l))):=vC (Qc3 λx=>Qf x);have l:eL [aj s B m] T 1 (.ptr 0 1)=W (iI m.1):=rfl;have n:(vG dB 8 (b.map (dP s.l))).aI=ae dB (ak (b.map (dP s.l))):=Wuf;have p:nK 0 [aj s B m] (.aR [ae dB (ak (b.map (dP s.l))),iI m.1,.bc])=W (.aR [ae dB (ak (b.map (dP s.l))),iI m.1,.bc],[]):=VU hY (Qyj s.l (W b,m));rw[zG,a];rw[a]at g;simp -implicitDefEqProofs(disch:=try exact wK)only[go_sem,nZ,g,f2,j,l,n,p]
 |n::r,q,h=>by
  have G:b.length=q.length+r.length+1:=by rw[h];simp;omega
  have L:(q.length:Int)<b.length:=by omega
  have j:ep n:=F n (by rw[h];simp);have H:=Wzx m b F i NV c e r (q++[n]) (by rw[h];simp);rw[show((q++[n]).length:Int)=q.length+1 by simp]at H;have N:=Wzw s B Y u m n j (vG dB 8 (q.map (dP s.l))) NV (Qc3 λx=>Qf x) c b.length q.length Y (mH QaU 0 1) (W (.aR [ae dB (ak (b.map (dP s.l))),iI m.1,.bc],[])) (by
   intro a J;have M:eL a true 7 (.ptr 1 0)=W (ar n):=by rw[J];exact xg (I:=[]) rfl Gn
   have g:yd (V.hs 2 0 s.l.length 1 T::aC n):=by rw[CY,qf];rfl
   have P:wS true 8 1 (.agg [.ad,iI 0,iI 0,.str [],.str [],.ad,.ad,.str []]) [(0,.agg (.hs 2 0 s.l.length 1 T::aC n))]=W (.sl [.agg (.hs 2 0 s.l.length 1 T::aC n)] .fx):=UU rfl g;have Q:aT T true 8 136 a (vG dB 8 (q.map (dP s.l))) (.sl [.agg (.hs 2 0 s.l.length 1 T::aC n)] .no)=W (.sl ((q.map (dP s.l)).map dB++[.agg (.hs 2 0 s.l.length 1 T::aC n)]) (.gr 8)):=by
    rw[Oo,Wpe (λx d=>by
     obtain⟨y,o,rfl⟩:=wa.1 d;rfl) (by
     rw[zw,RH,g];rfl) (by unfold Qaq;simp;omega),Qe]
   have l:fz 1 a 38 (.hs 2 0 s.l.length 1 T)=W (.sl ((cb s.l n).map Bv) .no):=by have:=Wh0 (f:=Bv) (λ_=>rfl) (λ_ _=>rfl) (n:=1) (d:=37) (o:=2) (I:=a) (A:=cb s.l n) Y (by rw[J];rfl);rw[show(cb s.l n).length=s.l.length by simp[cb]]at this;exact this
   have p:(V.hs 2 0 s.l.length 1 T::aC n).mapM (fz 1 a 38)=W (ke (cb s.l n) n):=by rw[xw,l,Cz yD];rfl
   have v:fz 1 a fzD (.sl ((q.map (dP s.l)).map dB++[.agg (.hs 2 0 s.l.length 1 T::aC n)]) (.gr 8))=W (vG dB 8 ((q++[n]).map (dP s.l))):=by
    have d:fz 1 a 39 (.agg (.hs 2 0 s.l.length 1 T::aC n))=W (.agg (ke (cb s.l n) n)):=Tm p;have o:fz 1 a fzD (.sl ((q.map (dP s.l)).map dB++[.agg (.hs 2 0 s.l.length 1 T::aC n)]) (.gr 8))=W (.sl ((q.map (dP s.l)).map dB++[.agg (ke (cb s.l n) n)]) (.gr 8)):=Qs2 (Qs3 (AM λx=>Qf x) d);rw[o];have A:(q.map (dP s.l)).map dB++[.agg (ke (cb s.l n) n)]=((q++[n]).map (dP s.l)).map dB:=by rw[yW,yW];rfl
    rw[A,Oo,yW,yW];exact(A9e W (Qe (y:=dB (dP s.l n))).symm)
   rw[M,vQ,vQ,P,vQ];show(bd (aT T true 8 136 a (vG dB 8 (q.map (dP s.l))) (.sl [.agg (.hs 2 0 s.l.length 1 T::aC n)] .no)) λK=>_)=_;rw[Q,vQ,v,vQ];exact H) s.l [] rfl
  have w:nW QaU 0 1 (mH QaU 0 1) 3 [ae af s,vG dB 8 (q.map (dP s.l)),.ptr 0 0,.ptr 1 0,.hs 2 0 s.l.length 1 T,NV,iI b.length,iI q.length,ae af s,iI s.l.length,iI 0] [aj s B m,.cells (aC n),.cells (List.replicate s.l.length (V.bool T))]=W (.aR [ae dB (ak (b.map (dP s.l))),iI m.1,.bc],[]):=N;have S:eI 7 (iI q.length) (ae ar (ak b))=W (.ai (aC n) 0):=KZ (f:=ar) (by rw[CL];exact h) rfl rfl;have z I:eL I true 7 (.ai (aC n) 0)=W (ar n):=xg rfl Gn;have U:u5 ([aj s B m]++[O.cells [iI 0,iI 0,.str [],.str [],.ad,.ad,.str []]]) 7 (.ptr 1 0) (ar n) (ar n)=W (.undef,[aj s B m,.cells (aC n)]):=Ho (I:=[aj s B m]) (t:=ar n) rfl rfl qf Gn;have C:([aj s B m]:hN).length=1:=rfl;have mk:ej T 1 1 (.bool T) (iI s.l.length) (iI s.l.length) [aj s B m,.cells (aC n)]=W (.hs 2 0 s.l.length 1 T,[aj s B m,.cells (aC n),.cells (List.replicate s.l.length (V.bool T))]):=OB (I:=[aj s B m,.cells (aC n)]) rfl rfl rfl (by unfold Qaq;omega);have D:([aj s B m,.cells (aC n),.cells (List.replicate s.l.length (V.bool T))]:hN).length=3:=rfl;have X:Qai (ae af s)=W (iI s.l.length):=ON;have nS:(ae af s).ng=ae af s:=vz;have nN:(ar n).ng=ar n:=rfl;have f1 k I:fz k I fzD (ae af s)=W (ae af s):=vC (vw λ_ _=>rfl);have f2 k I:fz k I fzD (vG dB 8 (q.map (dP s.l)))=W (vG dB 8 (q.map (dP s.l))):=vC (Qc3 λx=>Qf x);have f3 k I:fz k I fzD NV=some NV:=vC (xI (wV _) c);have f7 I:fz 3 I fzD (.hs 2 0 s.l.length 1 T)=W (.hs 2 0 s.l.length 1 T):=vC rfl;rw[zG];generalize([aj s B m]:hN)=Z0,([aj s B m,.cells (aC n)]:hN)=Z2,([aj s B m,.cells (aC n),.cells (List.replicate s.l.length (V.bool T))]:hN)=Z3 at*;generalize E:Z0++[O.cells [iI 0,iI 0,.str [],.str [],.ad,.ad,.str []]]=Z1 at*;generalize ae af s=SV,ae ar (ak b)=NS,ar n=NE,V.hs 2 0 s.l.length 1 T=a0,vG dB 8 (q.map (dP s.l))=O1,ae dB (ak (b.map (dP s.l)))=R at*;simp -implicitDefEqProofs(disch:=try exact wK)only[go_sem,nZ,L,e,S,z,nN,C,E,U,X,nS,mk,D,f1,f2,f3,f7,w]
variable(N:-9223372036854775808<=B)(z:∀g∈vS s.l,eu s.l g)
include N z
theorem Wzy:∀(r q:xe) (a:wx) (NV:V) (m:MK),vS s.l=q++r->cF B m->a.length*Qh4 s.l r<=1000000->a.length<=1000000->(∀g∈r,fg s.l g<=1000000)->(∀x∈a,gM (50*(q.length+1)) x)->V.rb 0 NV->NV.ng=ae ar (ak a)->
  BE QaU 0 1 [ae af s,.ad,.ptr 0 0,NV,ae bj (ak (vS s.l)),iI (vS s.l).length,iI q.length] [aj s B m]=W (hZ s.l (eM s.l B r a m),[])
 |[],q,a,NV,m,j,C,D,d,l,e,b,c=>by
  have n:=Nr s.l;have p:q.length<=20:=by
   have:(vS s.l).length=q.length:=by rw[j];simp
   omega
  have t:¬(q.length:Int)<(vS s.l).length:=by rw[j];simp
  have f:Wf [aj s B m]:=Qc (by intro o e;rw[vR.1 e];exact⟨_,rfl,Qa s B m⟩)
  have v:ve 1 [aj s B m]=W [aj s B m]:=Kk f;have w:=Wzx s B Q u m a (λx y=>(e x y).nv Y) d NV b c a [] rfl;have h:mH QaU 0 1 [ae af s,.ad,.ptr 0 0,NV,iI a.length,iI 0] [aj s B m]=W (hZ s.l (W a,m),[]):=w;have i:([aj s B m]:hN).length=1:=rfl;have A:Qai (ae ar (ak a))=W (iI a.length):=by rw[ON,CL]
  have f1 k I:fz k I fzD (ae af s)=W (ae af s):=vC (vw λ_ _=>rfl);have f3 k I:fz k I fzD NV=some NV:=vC (xI (wV _) b);have f5 I:fz 1 I fzD (.ptr 0 0)=W (.ptr 0 0):=vC rfl;rw[Ga];show _=W (hZ s.l (W a,m),[]);simp -implicitDefEqProofs(disch:=try exact wK)only[go_sem,zQ,t,f1,f3,f5,v,c,A,i,h]
 |g::r,q,a,NV,m,K,H,hl,j,L,f,t,M=>by
  have t:=Nr s.l;have c:g∈vS s.l:=by rw[K];simp
  have a8:q.length+r.length+1<=20:=by
   have:(vS s.l).length=q.length+r.length+1:=by rw[K];simp;omega
   omega
  have a7:(vS s.l).length=q.length+r.length+1:=by rw[K];simp;omega
  have e1:(q.length:Int)<(vS s.l).length:=by omega
  have hg:=t.1 g c;have P:=λm=>Qc (by intro o f;rw[vR.1 f];exact⟨_,rfl,Qa s B m⟩)
  have U m:Wf (aj s B m::[O.cells (az g)]):=VS (P m) O6;have e:=Wdo s B N Y u g hg.1 Y (U m) H (z g c);have l:=Qma (B:=B) (z g c) Y m;have C:=Wud (z g c) H;have c:=L g (wA ..);have v:0<Qh4 s.l r\/Qh4 s.l r=0:=by omega
  have n:Qh4 s.l (g::r)=fg s.l g*Qh4 s.l r:=rfl;generalize hE:xH s.l B g m=EE at*;obtain⟨d,em⟩:=EE;simp only at e l C;have i:a.length*(d.getD []).length*Qh4 s.l r<=1000000:=by refine zr ?_ hl;rw[n,<-GU];exact DY _ (Hi _ l.2)
  have D:a.length*(d.getD []).length<=1000000\/Qh4 s.l r=0:=by
   rcases v with h|h
   ·exact .inl (zr (BG _ h) i)
   ·exact .inr h
  have X:∀r:xe,0<Qh4 s.l r:=λr=>by
   induction r with
   |nil=>exact Nat.one_pos
   |cons x r ih=>
    refine JO ?_ ih;unfold fg;split
    ·refine JO ?_ Y;unfold iQ;split<;>simp
    ·split
     ·exact M5 _
     ·omega
  have F:a.length*(d.getD []).length<=1000000:=by
   rcases D with h|h
   ·exact h
   ·have:=X r;omega
  have v:E cx 24 [.ptr 0 0,ae ar (ak a),ae ar (ak (d.getD []))] (aj s B em::[O.cells (az g)])=W (bF (AL B a (d.getD []) [] em).1,aj s B (AL B a (d.getD []) [] em).2::[O.cells (az g)]):=
   Wi1 s B (U em) C a (d.getD []) (λy R=>((f y R).nv Y).1) (λy R=>((l.1 y R).nv Y).1) j Y F
  rw[<-Wi6 d]at v;have G:=Gq v;have J:=Wb (B:=B) (m:=em) f l.1;have a0:cF B (AL B a (d.getD []) [] em).2:=Qlo _ _ _ C;have i1:eI 3 (iI q.length) (ae bj (ak (vS s.l)))=W (.ai (az g) 0):=KZ (f:=bj) (by rw[CL];exact K) rfl rfl;have a1 I:eL I true 3 (.ai (az g) 0)=W (.agg (az g)):=xg rfl BQ;have s7:u5 ([aj s B m]++[O.cells [iI 0,.str [],.ad]]) 3 (.ptr 1 0) (.agg (az g)) (.agg (az g))=W (.undef,[aj s B m,.cells (az g)]):=Ho (I:=[aj s B m]) (t:=.agg (az g)) rfl rfl Wnh BQ;have a2:eL [aj s B m,.cells (az g)] true 3 (.ptr 1 0)=W (.agg (az g)):=by exact xg (I:=[]) rfl BQ
  have S:([aj s B m]:hN).length=1:=rfl;have nG:(ae bj (ak (vS s.l))).ng=ae bj (ak (vS s.l)):=vz;have nE:=YH d;have f1 k I:fz k I fzD (ae af s)=W (ae af s):=vC (vw λ_ _=>rfl);have f3 k I:fz k I fzD (ae bj (ak (vS s.l)))=W (ae bj (ak (vS s.l))):=vC (vw λ_ _=>O6);have f5 I:fz 1 I fzD (.ptr 0 0)=W (.ptr 0 0):=vC rfl;have f6 k I o:fz k I fzD (bF o)=W (bF o):=vC (Qyi o);have ll j:eL [aj s B j,.cells (az g)] T 1 (.ptr 0 3)=W (.bool j.2):=rfl;have l1 j:eL [aj s B j,.cells (az g)] T 1 (.ptr 0 1)=W (iI j.1):=rfl;have c1 j:ve 1 [aj s B j,.cells (az g)]=W [aj s B j]:=xd (I:=[aj s B j]) (H:=[.cells (az g)]) (P j);rw[Ga];unfold eM;rw[hE];simp only;generalize hP:AL B a (d.getD []) [] em=PP at*;obtain⟨w,b⟩:=PP;simp only at G J a0 ⊢;have p:=ll b;have a5:=l1 b;have a3:=c1 b;have a4:=λk I=>f6 k I w;cases A:b.2 with
  |true=>rw[A]at p;simp only[A9c];have lk I:ZU [xN T 1 (.ptr 0 1)] I=some I:=rfl;have op:w_ [xN T 1 (.ptr 0 1)] [aj s B b,.cells (az g)] [aj s B b,.cells (az g)]=W [aj s B b,.cells (az g)]:=Qtc (cs:=iO s B b) rfl rfl;have y I:E cy 22 [iI 21,iI 0] I=W (cR 21,I):=Gq (Wgm 21 0 I);have fe k I:fz k I fzD (cR 21)=W (cR 21):=vC rfl;have ne:(cR 21).ng=cR 21:=rfl;have ns:(cR 21).aI=cR 21:=rfl;have he:nK 0 [aj s B b] (.aR [.ad,iI b.1,cR 21])=W (.aR [.ad,iI b.1,cR 21],[]):=VU hY (Qyj s.l (none,b));show _=W (V.aR [.ad,iI b.1,cR 21],[]);simp only[bj]at e;generalize([aj s B m]:hN)=Z0,([aj s B m,.cells (az g)]:hN)=Z2,([aj s B em,.cells (az g)]:hN)=Z3,([aj s B b]:hN)=Z5,([aj s B b,.cells (az g)]:hN)=Z4 at*;generalize R:Z0++[O.cells [iI 0,.str [],.ad]]=Z1 at*;generalize az g=GC,cR 21=ER,bF w=PV,bF d=EV,ae af s=SV,ae ar (ak a)=NS,(vS s.l).length=GN,ae bj (ak (vS s.l))=GS at*;simp -implicitDefEqProofs(disch:=try exact wK)only[go_sem,zQ,e1,nG,i1,a1,S,R,s7,a2,e,M,nE,G,p,a5,lk,y,op,fe,ne,ns,f1,f5,a4,a3,he]
  |false=>rw[A]at p;simp only[vD,A9d];have y:(w.getD []).length*Qh4 s.l r<=1000000:=zr (DY _ J.2) i;have ih:=Wzy r (q++[g]) (w.getD []) (bF w) b (by rw[K];simp) a0 y Y (λg hg=>L g (wh _ hg)) (λx c=>(J.1 x c).le yZ) (Qyi w) (by rw[YH,Wi6]);rw[show((q++[g]).length:Int)=q.length+1 by simp]at ih;simp only[bj]at e;generalize([aj s B m]:hN)=Z0,([aj s B m,.cells (az g)]:hN)=Z2,([aj s B em,.cells (az g)]:hN)=Z3,([aj s B b]:hN)=Z5,([aj s B b,.cells (az g)]:hN)=Z4,hZ s.l (eM s.l B r (w.getD []) b)=R at*;generalize a6:Z0++[O.cells [iI 0,.str [],.ad]]=Z1 at*;generalize az g=GC,bF w=PV,bF d=EV,ae af s=SV,ae ar (ak a)=NS,(vS s.l).length=GN,ae bj (ak (vS s.l))=GS at*;simp -implicitDefEqProofs(disch:=try exact wK)only[go_sem,zQ,e1,nG,i1,a1,S,a6,s7,a2,e,M,nE,G,p,f1,f3,f5,a4,a3,ih]
theorem Qpp(d:Qh4 s.l (vS s.l)<=1000000)(p:B<9223372036854775808)(q:∀a∈s.l,iJ a)(I:hN):E cy 8 [ae af s,iI B] I=W (hZ s.l (Qgm s.l B),I):=by
 refine v_ X0K X0K ?_ (by rw[Qae,vw λ_ _=>rfl];rfl) I;have D:=Nr s.l;have c:∀r:xe,(∀g∈r,0<fg s.l g/\fg s.l g<=Qh4 s.l r)/\0<Qh4 s.l r:=λr=>by
  induction r with
  |nil=>exact⟨λg hg=>(by cases hg),Nat.one_pos⟩
  |cons x r e=>
   have f:0<fg s.l x:=by
    unfold fg;split
    ·refine JO ?_ Y;unfold iQ;split<;>simp
    ·split
     ·exact M5 _
     ·omega
   have k:0<fg s.l x*Qh4 s.l r:=JO f e.2;refine⟨λg hg => ?_,k⟩;rcases vZ.1 hg with rfl|hg
   ·exact⟨f,BG _ e.2⟩
   ·exact⟨(e.1 g hg).1,zr (e.1 g hg).2 (OT _ f)⟩
 have h:cF B (0,T):=⟨GY _,by show(0:Int)<=max B 0;omega,p⟩
 have i:Wf (aj s B (0,T)::[]):=Qc (by intro o e;rw[vR.1 e];exact⟨_,rfl,Qa s B (0,T)⟩)
 have j I:E cy 20 [ae af s] I=W (.bc,I):=Gq (Ts s Y u q I);have l:mz [.ad,iI 0,iI 0,.bool T] [(0,1,ae af s),(2,1,iI B)]=W (.agg (iO s B (0,T))):=by have e:mz [.ad,iI 0,iI 0,.bool T] [(0,1,ae af s),(2,1,iI B)]=(EW [.ad,iI 0,iI 0,.bool T] [(0,1,ae af s),(2,1,iI B)]).map V.agg:=rfl;rw[e];unfold EW;rw[Qox,A9a ⟨rfl,u0,by rw[CY,CA];rfl⟩];have k:∀x:V,EW (RK [.ad,iI 0,iI 0,.bool T] 0 [x]) [(2,1,iI B)]=W [x,iI 0,iI B,.bool T]:=λx=>rfl;rw[xc,Xbx,k,vz];rfl
 have v:bK [] (.agg (iO s B (0,T)))=W (.ptr 0 0,[aj s B (0,T)]):=by rw[Qos,RH,A9a (by simp only[iO,CY,MO,CA,Jf,Qot,CB])];simp only[iO,xc,Xbx,vz,We8,We9];rfl
 have m:mz [iI 0,iI 0,.str [],.str [],.ad,.ad,.str []] [(0,1,iI (-1)),(1,1,iI 1),(3,1,.str [111])]=W (ar gN):=rfl;have w:wS true 7 1 (.agg [iI 0,iI 0,.str [],.str [],.ad,.ad,.str []]) [(0,ar gN)]=W (.sl [ar gN] .fx):=rfl;have b:=Gq (UP s B (0,T) h i);have y:(ae af s).ng=ae af s:=vz;have A:(V.agg (iO s B (0,T))).ng=.agg (iO s B (0,T)):=rfl;have C:(ar gN).ng=ar gN:=rfl;rw[SX];unfold Qgm;rcases M7 (au B (0,T)).1 with n|n
 ·rw[n]at b;rw[A9a n];have o I:E cy 23 [ae af s] I=W (ae bj (ak (vS s.l)),I):=Gq (Wnj s Y I);have r:=Wzy s B Q u N z (vS s.l) [] [gN] (.sl [ar gN] .fx) (au B (0,T)).2 rfl (ZE h) (by simpa using d) u0 (λg hg=>zr ((c (vS s.l)).1 g hg).2 d) (λx f=>by rw[vR.1 f];exact⟨by simp[gN],by simp[gN],λa F=>by cases F⟩) rfl rfl
  have e:BE QaU 0 1 [ae af s,.ad,.ptr 0 0,.sl [ar gN] .fx,ae bj (ak (vS s.l)),iI (vS s.l).length,iI 0] [aj s B (au B (0,T)).2]=W (hZ s.l (eM s.l B (vS s.l) [gN] (au B (0,T)).2),[]):=r;have G:(ae bj (ak (vS s.l))).ng=ae bj (ak (vS s.l)):=vz;have H:Qai (ae bj (ak (vS s.l)))=W (iI (vS s.l).length):=by rw[ON,CL]
  have f1 k I:fz k I fzD (ae af s)=W (ae af s):=vC (vw λ_ _=>rfl);have f3 k I:fz k I fzD (ae bj (ak (vS s.l)))=W (ae bj (ak (vS s.l))):=vC (vw λ_ _=>O6);have f4 k I:fz k I fzD (.sl [ar gN] .fx)=W (.sl [ar gN] .fx):=vC rfl;have t:([aj s B (au B (0,T)).2]:hN).length=1:=rfl;generalize ar gN=S,ae af s=P,(vS s.l).length=O,ae bj (ak (vS s.l))=M,V.agg (iO s B (0,T))=L,([aj s B (0,T)]:hN)=K,([aj s B (au B (0,T)).2]:hN)=J,hZ s.l (eM s.l B (vS s.l) [gN] (au B (0,T)).2)=R at*;simp -implicitDefEqProofs(disch:=try exact wK)only[go_sem,FB,y,j,l,A,v,m,C,w,b,o,G,H,t,f1,f3,f4,e]
 ·rw[n]at b;rw[O3 (by rw[n];simp)];have k:eL [aj s B (au B (0,T)).2] T 1 (.ptr 0 1)=W (iI (au B (0,T)).2.1):=rfl;have o I:ZU [xN T 1 (.ptr 0 1)] I=some I:=rfl;have r:w_ [xN T 1 (.ptr 0 1)] [aj s B (au B (0,T)).2] [aj s B (au B (0,T)).2]=W [aj s B (au B (0,T)).2]:=Qtc (cs:=iO s B (au B (0,T)).2) rfl rfl;have e I:E cy 22 [iI 21,iI 0] I=W (cR 21,I):=Gq (Wgm 21 0 I);have t:(cR 21).ng=cR 21:=rfl;have F:(cR 21).aI=cR 21:=rfl;have G:nK 0 [aj s B (au B (0,T)).2] (.aR [.ad,iI (au B (0,T)).2.1,cR 21])=W (.aR [.ad,iI (au B (0,T)).2.1,cR 21],[]):=VU hY (Qyj s.l (none,(au B (0,T)).2));show _=W (V.aR [.ad,iI (au B (0,T)).2.1,cR 21],[]);clear c z i;generalize(au B (0,T)).2.1=ST,cR 21=O,ar gN=M,ae af s=L,V.agg (iO s B (0,T))=K,([aj s B (0,T)]:hN)=J,([aj s B (au B (0,T)).2]:hN)=H at*;simp -implicitDefEqProofs(disch:=try exact wK)only[go_sem,FB,y,j,l,A,v,m,C,w,b,k,o,e,r,t,F,G]
end
variable{J:u_}
def Qlq(a:F=.fx\/F=.gr 1)(b:J.length<=1000000):aT T T 1 8 c (.sl (Z J) F) (.sl [iI D] b9)=W (.sl (Z (J++[D])) (.gr 1)):=
 yC (m:=[D]) (λ_=>rfl) (λ_=>rfl) (λ_=>rfl) a u0 (by unfold Qaq;simp;omega)
def wU:V.rb d (.sl (Z J) F):=AM λ_=>rfl
def QX{q r:u_}(h:J=q++D::r):eI 1 (iI q.length) (.sl (Z J) .no)=W (.ai [iI D] 0):=KZ (s:=.row J) h rfl rfl
def JS:Qai (.sl (Z J) F)=W (iI J.length):=by show W (V.int .i64 ((Z J).length:Nat))=_;rw[Z,wq]
def Wpq:kz y U=cS y U:=by unfold kz cS;congr 1;funext x;simp only[eq_comm]
abbrev iR(c:bU):Prop:=c=.fx\/c=.gr 1
def r5(a:Rk)(b bF:V)(v:Int):Ro:=if v<0 then(bd (oK false bF) (nK 0 []))else bd (aT false false 1 8 [] bF (.sl [.int .i64 v] .no)) λx=>bd (fz 0 [] fzD x) λy=>a [b,y,.int .i64 v] []
section
variable(s:Sl dQ)(u:s.l.length<=200)(z:∀c∈s.l,fE c)
theorem Wzz(l:u_)(t:l.length<=1000000)(o:Rk)(bF:V)(hO:V.rb 0 bF)(c:bU)(a:Int):∀(r q:u_) (m:Int),l=q++r->
  oZ QaT 0 0 o 0 [.sl (Z l) c,bF,iI a,iI m,iI q.length] []
  = r5 o (.sl (Z l) c) bF (fG a r m)
 |[],q,m,g=>by
  have d:¬(q.length:Int)<l.length:=by rw[g];simp
  have e c:Qai (.sl (Z l) c)=W (iI l.length):=JS;have f1 n I:fz n I fzD (.sl (Z l) c)=W (.sl (Z l) c):=vC wU;have f2 n I:fz n I fzD bF=some bF:=vC (xI (wV _) hO);have f:(V.sl (Z l) c).ng=.sl (Z l) .no:=rfl;rw[yH];unfold fG r5;by_cases b:m<0
  ·rw[A9a b];simp only[go_sem,mD,f,e,d,f1,f2,b]
  ·rw[O3 b];simp only[go_sem,mD,f,e,d,f1,f2,b]
 |x::r,q,m,p=>by
  have s:l.length=q.length+r.length+1:=by rw[p];simp;omega
  have f:(q.length:Int)<l.length:=by omega
  have g c:Qai (.sl (Z l) c)=W (iI l.length):=JS;have i:=QX p;have j I:eL I T 1 (.ai [iI x] 0)=W (iI x):=rfl;have f1 n I:fz n I fzD (.sl (Z l) c)=W (.sl (Z l) c):=vC wU;have f2 n I:fz n I fzD bF=some bF:=vC (xI (wV _) hO);have h:(V.sl (Z l) c).ng=.sl (Z l) .no:=rfl;have d:=λm=>Wzz l t o bF hO c a r (q++[x]) m (by rw[p];simp);rw[show((q++[x]).length:Int)=q.length+1 by simp]at d;rw[yH];unfold fG;by_cases b:a<x
  ·rw[A9a b];by_cases e:m<0
   ·rw[A9a e,<-d x];simp -implicitDefEqProofs(disch:=try exact wK)only[go_sem,mD,m9,h,g,f,i,j,b,e,f1,f2]
   ·rw[O3 e];by_cases k:x<m
    ·rw[A9a k,<-d x];simp -implicitDefEqProofs(disch:=try exact wK)only[go_sem,mD,m9,h,g,f,i,j,b,e,k,f1,f2]
    ·rw[O3 k,<-d m];simp -implicitDefEqProofs(disch:=try exact wK)only[go_sem,mD,m9,h,g,f,i,j,b,e,k,f1,f2]
  ·rw[O3 b,<-d m];simp -implicitDefEqProofs(disch:=try exact wK)only[go_sem,mD,m9,h,g,f,i,j,b,f1,f2]
theorem Wz0(l:u_)(j:l.length<=1000000)(c:bU)(k:∀x∈l,0<=x):∀(f:Nat) (g:u_) (d:Int) (co:bU),iR co->-1<=d->kE l d<f->g.length+f<=1000002->
  mP QaT 0 0 [.sl (Z l) c,.sl (Z g) co,iI d] []=W (.sl (Z (g++fI f l d)) .no,[])
 |0,g,d,co,a,b,e,h=>by omega
 |f+1,g,d,co,i,p,v,w=>by
  have q:=Wzz l j (mP QaT 0 0) (.sl (Z g) co) wU c d l [] (-1) rfl;rw[CW];have f1 n I:fz n I fzD (.sl (Z l) c)=W (.sl (Z l) c):=vC wU;have f2 n I:fz n I fzD (.sl (Z g) co)=W (.sl (Z g) co):=vC wU;have r:o5 QaT 0 0 (mP QaT 0 0) (.sl (Z l) c) (.sl (Z g) co) (iI d) []=oZ QaT 0 0 (mP QaT 0 0) 0 [.sl (Z l) c,.sl (Z g) co,iI d,iI (-1),iI 0] []:=by generalize V.sl (Z g) co=e at*;simp only[go_sem,o5,f1,f2]
  refine r.trans (q.trans ?_);unfold r5;have⟨a,b⟩:=Lc d p l (-1) k (.inl Y);unfold fI;by_cases h:fG d l (-1)<0
  ·rw[A9a h,A9a h,wt];have e:oK T (.sl (Z g) co)=W (.sl (Z g) .no):=by rcases i with rfl|rfl<;>rfl
   rw[e,vQ];exact VU hY wU
  ·rw[O3 h,O3 h];have⟨s,b2,y,z⟩:=b Y;have t:fG d l (-1)∈l:=by rcases b2 with e|e;omega;exact e
   generalize fG d l (-1)=m at*;have u:=Win l d m s t;have o:=Wz0 l j c k f (g++[m]) m (.gr 1) (.inr rfl) Y Y yZ;rw[wL]at o;rw[Qlq i Y,vQ,vC wU,vQ];exact o
def jL(c:Int):Int:=if c+1=123 then 48 else if c+1=58 then 256 else c+1
def jR(l:u_):Nat->Int->Int
 |0,c=>c
 |f+1,c=>if gW l c then c else jR l f (jL c)
theorem Wz1(l:u_)(F:l.length<=900000)(A:∀x∈l,0<=x)(c:bU)(B:iR c):∀(f:Nat) (k:Int),0<=k->(122<k/\k+f<=1100000)\/(k<=122/\f<=1000000)->gW l (jR l f k)->
  mQ QaT 0 0 [.sl (Z l) c,iI k] []=W (.sl (Z (fI (l.length+3) (l++[jR l f k]) (-1))) .no,[])
 |f,k,C,G,i=>by
  have j x I:E cx 80 [.sl (Z l) .no,iI x] I=W (.bool (cS l x),I):=by have:=Wos (.row l) x (by show l.length<=_;omega) I;rw[<-Wpq];exact this
  have s:=λI=>Quz k Y I;have m:(V.sl (Z l) c).ng=.sl (Z l) .no:=rfl;have f1 n I:fz n I fzD (.sl (Z l) c)=W (.sl (Z l) c):=vC wU;rw[C_];have e:∀v,0<=v->(bd (fz 0 [] fzD (.sl (Z l) c)) λu=>bd (wS T 1 1 (iI 0) [(0,iI v)]) λw=>bd (aT T T 1 8 [] u w.ng) λa=>bd (fz 0 [] fzD a) λo=>mP QaT 0 0 [o,.sl [] .fx,iI (-1)] [])=W (.sl (Z (fI (l.length+3) (l++[v]) (-1))) .no,[]):=λv b=>by
   have p:wS T 1 1 (iI 0) [(0,iI v)]=W (.sl [iI v] .fx):=rfl;rw[f1,vQ,p,vQ];show(bd (aT T T 1 8 [] (.sl (Z l) c) (.sl [iI v] .no)) λa=>_)=_;rw[Qlq B Y,vQ,vC wU,vQ];have t:=Wz0 (l++[v]) yZ (.gr 1) (λx d=>by
    rcases xf.1 d with h|h
    ·exact A x h
    ·rw[vR.1 h];exact b) (l.length+3) [] (-1) .fx (.inl rfl) Y (by
    have:kE (l++[v]) (-1)<=(l++[v]).length:=JH ..;simp at this;omega) yZ
   rw[xQ]at t;exact t
  cases f with
  |zero=>
   have a:gW l k:=i;have g:=e k C;unfold gW at a;rw[vc]at a;have h:cS l k=T:=by simpa using a.1
   have q:cS l (VW k)=T:=by simpa using a.2
   have b:=j k;have d:=j (VW k);rw[h]at b;rw[q]at d;show _=W (V.sl (Z (fI (l.length+3) (l++[k]) (-1))) .no,[]);have p:wS T 1 0 .any []=W (.sl [] .fx):=rfl;rw[<-g];simp -implicitDefEqProofs(disch:=try exact wK)only[go_sem,mE,m,b,d,s,f1,p]
  |succ f=>
   by_cases a:gW l k
   ·have h:=e k C;have g:jR l (f+1) k=k:=by unfold jR;rw[A9a a]
    rw[g];unfold gW at a;rw[vc]at a;have q:cS l k=T:=by simpa using a.1
    have r:cS l (VW k)=T:=by simpa using a.2
    have b:=j k;have d:=j (VW k);rw[q]at b;rw[r]at d;have p:wS T 1 0 .any []=W (.sl [] .fx):=rfl;rw[<-h];generalize Z l=y,V.sl (Z l) c=v at*;simp -implicitDefEqProofs(disch:=try exact wK)only[go_sem,mE,m,b,d,s,f1,p]
   ·have y:jR l (f+1) k=jR l f (jL k):=by show(if gW l k then k else jR l f (jL k))=_;rw[O3 a]
    rw[y]at i ⊢;have r:0<=jL k/\((122<jL k/\jL k+f<=1100000)\/(jL k<=122/\f<=1000000)):=by
     unfold jL;split
     ·omega
     ·split<;>omega
    have J:=Wz1 l F A c B f (jL k) r.1 r.2 i;rw[<-J];have D:mO QaT 0 0 (mQ QaT 0 0) (.sl (Z l) c) (iI (k+1)) []=mQ QaT 0 0 [.sl (Z l) c,iI (if k+1=58 then 256 else k+1)] []:=by
     generalize V.sl (Z l) c=q at*;by_cases b:k+1=58
     ·simp only[go_sem,mO,oc,b,f1]
     ·simp only[go_sem,mO,oc,b,f1]
    have g:mO QaT 0 0 (mQ QaT 0 0) (.sl (Z l) c) (iI 48) []=mQ QaT 0 0 [.sl (Z l) c,iI 48] []:=by generalize V.sl (Z l) c=q at*;simp -implicitDefEqProofs(disch:=try exact wK)only[go_sem,mO,oc,f1]
    have d:=j k;have h:=j (VW k);have z:cS l k\/cS l k=T/\cS l (VW k):=by
     unfold gW at a;cases b:cS l k with
     |true=>exact .inl rfl
     |false=>
      cases t:cS l (VW k)with
      |true=>exact .inr ⟨rfl,rfl⟩
      |false=>rw[b,t]at a;exact absurd rfl a
    unfold jL;rcases z with v|⟨v,H⟩
    ·rw[v]at d;by_cases b:k+1=123
     ·rw[A9a b,<-g];generalize Z l=K,V.sl (Z l) c=q at*;simp only[go_sem,mE,m,d,b]
     ·rw[O3 b,<-D];generalize Z l=K,V.sl (Z l) c=q at*;simp -implicitDefEqProofs(disch:=try exact wK)only[go_sem,mE,m,d,b]
    ·rw[v]at d;rw[H]at h;by_cases b:k+1=123
     ·rw[A9a b,<-g];generalize Z l=K,V.sl (Z l) c=q at*;simp -implicitDefEqProofs(disch:=try exact wK)only[go_sem,mE,m,d,h,s,b]
     ·rw[O3 b,<-D];generalize Z l=K,V.sl (Z l) c=q at*;simp -implicitDefEqProofs(disch:=try exact wK)only[go_sem,mE,m,d,h,s,b]
end
theorem Wi7(l:u_):∀(f:Nat) (c:Int),256<=c->jR l f c=fU l f c
 |0,c,h=>rfl
 |f+1,c,h=>by
  have:jL c=c+1:=by unfold jL;rw[O3 Y,O3 Y]
  unfold jR fU;rw[this,Wi7 l f (c+1) Y]
theorem Wpr(l:u_):∀(f:Nat) (c:Int),(∃j:Nat,j<f/\gW l (c+j))->gW l (fU l f c)
 |0,c,⟨j,a,_⟩=>by omega
 |f+1,c,⟨j,b,h⟩=>by
  unfold fU;by_cases a:gW l c
  ·rw[A9a a];exact a
  ·rw[O3 a];cases j with
   |zero=>simp at h;exact absurd h a
   |succ j=>refine Wpr l f (c+1) ⟨j,by omega,?_⟩;rw[<-h];congr 1;omega
def Wz2:gW y (fU y (y.length+1) 256):=by
 have⟨j,a,h⟩:=War y;refine Wpr y _ _ ⟨j,by omega,?_⟩;have:VW (256+(j:Int))=256+j:=by unfold VW;rw[O3 Y,O3 Y]
 unfold gW;rw[this,h];rfl
def Wbt:u2->Bool
 |[]=>true
 |[b]=>decide (jL b.toNat=256)
 |b::a::r=>decide (jL b.toNat=a.toNat)&&Wbt (a::r)
theorem Wps(l:u_):∀(r:u2) (b:UInt8),Wbt (b::r)->jR l ((b::r).length+(l.length+1)) b.toNat=gJ l (b::r)/\gW l (gJ l (b::r))
 |[],b,h=>by
  have a:jL b.toNat=256:=by simpa[Wbt]using h
  have e:jR l ([b].length+(l.length+1)) b.toNat=if gW l b.toNat then(b.toNat:Int)else jR l (l.length+1) (jL b.toNat):=by rw[show[b].length+(l.length+1)=(l.length+1)+1 by simp;omega];rfl
  rw[e,a,Wi7 l _ _ (GY _)];refine⟨rfl,?_⟩;show gW l (if gW l b.toNat then(b.toNat:Int)else fU l (l.length+1) 256);split
  ·assumption
  ·exact Wz2 l
 |a::r,b,h=>by
  simp only[Wbt,vc,A9f]at h;have c:=Wps l r a h.2;have e:jR l ((b::a::r).length+(l.length+1)) b.toNat=if gW l b.toNat then(b.toNat:Int)else jR l ((a::r).length+(l.length+1)) (jL b.toNat):=by rw[show(b::a::r).length+(l.length+1)=((a::r).length+(l.length+1))+1 by simp;omega];rfl
  rw[e,h.1,c.1];refine⟨rfl,?_⟩;show gW l (if gW l b.toNat then(b.toNat:Int)else gJ l (a::r));split
  ·assumption
  ·exact c.2
def jm(l:u_):u_:=fI (l.length+3) (l++[fP l]) (-1)
def Wz3(f:y.length<=900000)(g:∀x∈y,0<=x)(c:bU)(h:iR c):od QaT 0 (.sl (Z y) c) []=W (.sl (Z (jm y)) .no,[]):=by
 have a:=Wps y xO.tail 97 (by decide);have b:(97::xO.tail:u2)=xO:=rfl;rw[b]at a;have d:=Wz1 y f g c h (xO.length+(y.length+1)) 97 Y (.inr ⟨by omega,by simp[xO];omega⟩) (by have:=a.2;rw[<-a.1]at this;exact this)
 have e:jR y (xO.length+(y.length+1)) 97=fP y:=a.1;rw[e]at d;show _=W (V.sl (Z (fI (y.length+3) (y++[fP y]) (-1))) .no,[]);rw[<-d];simp only[go_sem,od]
def k_:u2:=[32,9,10,12,13]
def YI:u_:=[32,9,10,12,13]
theorem Wz4(l:u_)(t:l.length<=800000)(d:∀x∈l,0<=x)(c:bU)(e:iR c):∀(r q:u2),k_=q++r->
  na QaT 0 0 [.sl (Z l) c,.sl (Z YI) .fx,iI q.length] []=W (.sl (Z (jm (l++IH l r))) .no,[])
 |[],q,f=>by
  have a:q.length=5:=by have:=A9e List.length f;simp[k_]at this;omega
  have g:=Wz3 l Y d c e;have f1 n I:fz n I fzD (.sl (Z l) c)=W (.sl (Z l) c):=vC wU;have b:m_ QaT 0 0 (na QaT 0 0) .any (.sl (Z l) c) []=od QaT 0 (.sl (Z l) c) []:=by simp -implicitDefEqProofs only[go_sem,m_,f1]
  rw[yI,a];have h:IH l []=[]:=rfl;rw[h,wt,<-g,<-b];simp -implicitDefEqProofs(disch:=try exact wK)only[go_sem,oe]
 |b::r,q,f=>by
  have k:q.length+r.length+1=5:=by have:=A9e List.length f;simp[k_]at this;omega
  have m:(q.length:Int)<5:=by omega
  have i:YI=(q.map λb:UInt8=>(b.toNat:Int))++(b.toNat:Int)::(r.map λb:UInt8=>(b.toNat:Int)):=by have:YI=k_.map λb:UInt8=>(b.toNat:Int):=rfl;rw[this,f,yW,xc]
  have o:eI 1 (iI q.length) (.sl (Z YI) .no)=W (.ai [iI b.toNat] 0):=by
   have:=QX i
   rwa[wq]at this
  have p I:eL I T 1 (.ai [iI b.toNat] 0)=W (iI b.toNat):=rfl;have a I:E cx 80 [.sl (Z l) .no,iI b.toNat] I=W (.bool (cS l b.toNat),I):=by have:=Wos (.row l) b.toNat (by show l.length<=_;omega) I;rw[<-Wpq];exact this
  have f1 n I:fz n I fzD (.sl (Z l) c)=W (.sl (Z l) c):=vC wU;rw[yI];unfold IH;cases s:cS l b.toNat with
  |true=>rw[s]at a;have g:=Wz4 l t d c e r (q++[b]) (by rw[f];simp);rw[show((q++[b]).length:Int)=q.length+1 by simp]at g;simp only[A9c];rw[<-g];simp -implicitDefEqProofs(disch:=try exact wK)only[go_sem,oe,m,o,p,a,f1]
  |false=>
   rw[s]at a;simp only[vD,A9d];have j:=Wz3 (l++[(b.toNat:Int)]) yZ (λx u=>by
    rcases xf.1 u with h|h
    ·exact d x h
    ·rw[vR.1 h];omega) (.gr 1) (.inr rfl)
   have v w:aT T T 1 8 [] (.sl (Z l) c) (.sl [iI b.toNat] w)=W (.sl (Z (l++[(b.toNat:Int)])) (.gr 1)):=Qlq e Y;have f3 n I:fz n I fzD (.sl (Z (l++[(b.toNat:Int)])) (.gr 1))=W (.sl (Z (l++[(b.toNat:Int)])) (.gr 1)):=vC wU;have g:m_ QaT 0 0 (na QaT 0 0) .any (.sl (Z (l++[(b.toNat:Int)])) (.gr 1)) []=od QaT 0 (.sl (Z (l++[(b.toNat:Int)])) (.gr 1)) []:=by simp -implicitDefEqProofs only[go_sem,m_,f3]
   rw[<-j,<-g];simp only[go_sem,oe,m,o,p,a,v]
def Wpt(s:u2):∀x∈bP s,-1<=x/\x<=1114111/\0<=x:=λx a=>by have:=Qvo s x a;unfold Qbn at this;simp only[vc,zH,A9f]at this;omega
section
variable(s:Sl dQ)(Q:s.l.length<=200)(u:∀c∈s.l,fE c)
include Q u
theorem Wug(fold:Bool)(N:Int)(m:0<=N/\N<=1000000)(e:Rk)(t:u_)(a:t.length<=1000000)(g:∀x∈t,-1<=x/\x<=1114111/\0<=x):∀(r q l:u_) (c:bU),t=q++r->iR c->l.length+2*r.length<=800000->
  ∃c',iR c'/\oY QaT 0 0 e 0 [ae eS s,.sl (Z l) c,.bool fold,iI N,.sl (Z t) .no,iI q.length] []=e [ae eS s,.sl (Z (l++dV fold r)) c',.bool fold,iI (N+1)] []
 |[],q,l,c,b,d,k=>by
  have f:¬(q.length:Int)<t.length:=by rw[b];simp
  have h:Qai (.sl (Z t) .no)=W (iI t.length):=JS;have i:(V.sl (Z t) .no).ng=.sl (Z t) .no:=rfl;have f2 n I:fz n I fzD (ae eS s)=W (ae eS s):=vC (vw λ_ _=>rfl);refine⟨c,d,?_⟩;rw[yt];have j:dV fold []=[]:=rfl;rw[j,wt];simp -implicitDefEqProofs(disch:=try exact wK)only[go_sem,oa,i,h,f,f2]
 |x::r,q,l,c,b,C,f=>by
  have v:t.length=q.length+r.length+1:=by rw[b];simp;omega
  have o:(q.length:Int)<t.length:=by omega
  have E:=g x (by rw[b];simp);have p:Qai (.sl (Z t) .no)=W (iI t.length):=JS;have u:(V.sl (Z t) .no).ng=.sl (Z t) .no:=rfl;have w:=QX b;have z I:eL I T 1 (.ai [iI x] 0)=W (iI x):=rfl;have A:∀y:Int,wS T 1 1 (iI 0) [(0,iI y)]=W (.sl [iI y] .fx):=λy=>rfl;have d c':aT T T 1 8 [] (.sl (Z l) c) (.sl [iI x] c')=W (.sl (Z (l++[x])) (.gr 1)):=Qlq C (by simp at f;omega);have h c':aT T T 1 8 [] (.sl (Z (l++[x])) (.gr 1)) (.sl [iI (VW x)] c')=W (.sl (Z (l++[x]++[VW x])) (.gr 1)):=Qlq (.inr rfl) (by simp at f ⊢; omega);have i:=λI=>Quz x Y I;have f2 n I:fz n I fzD (ae eS s)=W (ae eS s):=vC (vw λ_ _=>rfl);have f3 n I l:fz n I fzD (.sl (Z l) (.gr 1))=W (.sl (Z l) (.gr 1)):=vC wU;rw[yt];cases fold with
  |true=>
   have⟨c',j,B⟩:=Wug true N m e t a g r (q++[x]) (l++[x]++[VW x]) (.gr 1) (by rw[b];simp) (.inr rfl) (by simp at f ⊢; omega);refine⟨c',j,?_⟩;rw[show((q++[x]).length:Int)=q.length+1 by simp]at B;have D:dV true (x::r)=x::VW x::dV true r:=by unfold dV;rw[AR];rfl
   rw[D,show l++x::VW x::dV true r=l++[x]++[VW x]++dV true r by simp,<-B];have k:=λn I=>f3 n I (l++[x]++[VW x]);simp -implicitDefEqProofs(disch:=try exact wK)only[go_sem,oa,oX,u,p,o,w,z,A,d,i,h,f2,k]
  |false=>
   have⟨c',j,B⟩:=Wug T N m e t a g r (q++[x]) (l++[x]) (.gr 1) (by rw[b];simp) (.inr rfl) (by simp at f ⊢; omega);refine⟨c',j,?_⟩;rw[show((q++[x]).length:Int)=q.length+1 by simp]at B;have D:dV T (x::r)=x::dV T r:=by unfold dV;rw[AR];rfl
   rw[D,show l++x::dV T r=l++[x]++dV T r by simp,<-B];have k:=λn I=>f3 n I (l++[x]);simp -implicitDefEqProofs(disch:=try exact wK)only[go_sem,oa,oX,u,p,o,w,z,A,d,f2,k]
theorem Wz5{fold:Bool}(h:∀x∈J,0<=x):∀x∈dV fold J,0<=x:=λx a=>by
 unfold dV at a;have⟨y,b,a⟩:=Fc.1 a;have:=h y b;split at a
 ·simp only[vZ,AS,R7]at a;rcases a with rfl|rfl
  ·exact this
  ·unfold VW;split<;>(try split)<;>omega
 ·rw[vR.1 a];exact this
theorem Wz6(fold:Bool):∀(r q:wZ) (l:u_) (c:bU),s.l=q++r->iR c->l.length+400*r.length<=700000->(∀x∈l,0<=x)->
  mR QaT 0 0 [ae eS s,.sl (Z l) c,.bool fold,iI q.length] []=W (.sl (Z (jm ((l++r.flatMap λc=>dV fold (bP c.text))++dc (l++r.flatMap λc=>dV fold (bP c.text))))) .no,[])
 |[],q,l,c,b,d,e,f=>by
  have g:¬(q.length:Int)<s.l.length:=by rw[b];simp
  have h:=Wz4 l (by simp at e;omega) f c d k_ [] rfl;have i:Qai (ae eS s)=W (iI s.l.length):=ON;have j:(ae eS s).ng=ae eS s:=vz;have k:wS T 1 5 (iI 0) [(0,iI 32),(1,iI 9),(2,iI 10),(3,iI 12),(4,iI 13)]=W (.sl (Z YI) .fx):=rfl;have f1 n I:fz n I fzD (.sl (Z l) c)=W (.sl (Z l) c):=vC wU;have f2 n I:fz n I fzD (.sl (Z YI) .fx)=W (.sl (Z YI) .fx):=vC wU;rw[yJ];have m:([]:wZ).flatMap (λc=>dV fold (bP c.text))=[]:=rfl;rw[m,wt];have a:na QaT 0 0 [.sl (Z l) c,.sl (Z YI) .fx,iI 0] []=W (.sl (Z (jm (l++dc l))) .no,[]):=h;simp -implicitDefEqProofs only[go_sem,o7,j,i,g,k,f1,f2,a]
 |x::r,q,l,c,b,m,g,o=>by
  have i:s.l.length=q.length+r.length+1:=by rw[b];simp;omega
  have p:(q.length:Int)<s.l.length:=by omega
  have d:=u x (by rw[b];simp);have A:=Hu x.text;have a:=λI=>Wxh x.text (by have:=d.2;omega) d.1 I;have B:=d.2;have⟨j,e,C⟩:=Wug s Q u fold q.length Y (mR QaT 0 0) (bP x.text) Y (Wpt x.text) (bP x.text) [] l c rfl m (by simp at g;omega);have f:oY QaT 0 0 (mR QaT 0 0) 0 [ae eS s,.sl (Z l) c,.bool fold,iI q.length,.sl (Z (bP x.text)) .no,iI 0] []=mR QaT 0 0 [ae eS s,.sl (Z (l++dV fold (bP x.text))) j,.bool fold,iI (q.length+1)] []:=C;have D:=W8 (fold:=fold) (bP x.text);have k:=Wz6 fold r (q++[x]) (l++dV fold (bP x.text)) j (by rw[b];simp) e (by simp at g ⊢; omega) (λy E=>by
   rcases xf.1 E with h|h
   ·exact o y h
   ·exact Wz5 s Q u (λz F=>(Wpt x.text z F).2.2) y h)
  rw[show((q++[x]).length:Int)=q.length+1 by simp]at k;have w:l++(x::r).flatMap (λc=>dV fold (bP c.text))=l++dV fold (bP x.text)++r.flatMap (λc=>dV fold (bP c.text)):=by rw[AR,wL]
  rw[w,<-k,<-f];have G:eI 3 (iI q.length) (ae eS s)=W (.ai (cq x) 0):=KZ b rfl rfl;have H I:eL I T 1 (.ai (cq x) 1)=W (.str x.text):=rfl;have t:Qai (ae eS s)=W (iI s.l.length):=ON;have v:(ae eS s).ng=ae eS s:=vz;have f1 n I:fz n I fzD (.sl (Z l) c)=W (.sl (Z l) c):=vC wU;have f2 n I:fz n I fzD (ae eS s)=W (ae eS s):=vC (vw λ_ _=>rfl);rw[yJ];simp -implicitDefEqProofs only[go_sem,o7,v,t,p,G,H,a,f1,f2]
theorem Wz7:∀(r q:wZ) (fold:Bool),s.l=q++r->
  o8 QaT 0 0 [ae eS s,.sl [iI 45] .fx,.bool fold,iI q.length] []=mR QaT 0 0 [ae eS s,.sl [iI 45] .fx,.bool (fold||r.any (·.fold)),iI 0] []
 |[],q,fold,a=>by
  have b:¬(q.length:Int)<s.l.length:=by rw[a];simp
  have c:Qai (ae eS s)=W (iI s.l.length):=ON;have d:(ae eS s).ng=ae eS s:=vz;have f2 n I:fz n I fzD (ae eS s)=W (ae eS s):=vC (vw λ_ _=>rfl);have e:(fold||([]:wZ).any (·.fold))=fold:=u0;rw[yK,e];simp only[go_sem,og,d,c,b,f2]
 |x::r,q,fold,a=>by
  have e:s.l.length=q.length+r.length+1:=by rw[a];simp;omega
  have b:(q.length:Int)<s.l.length:=by omega
  have f:=Wz7 r (q++[x]) (fold||x.fold) (by rw[a];simp);rw[show((q++[x]).length:Int)=q.length+1 by simp]at f;have g:(fold||(x::r).any (·.fold))=((fold||x.fold)||r.any (·.fold)):=by simp[Bool.or_assoc]
  rw[g,<-f];have h:eI 3 (iI q.length) (ae eS s)=W (.ai (cq x) 0):=KZ a rfl rfl;have i I:eL I T 1 (.ai (cq x) 2)=W (.bool x.fold):=rfl;have c:Qai (ae eS s)=W (iI s.l.length):=ON;have d:(ae eS s).ng=ae eS s:=vz;have f2 n I:fz n I fzD (ae eS s)=W (ae eS s):=vC (vw λ_ _=>rfl);rw[yK];cases fold with
  |true=>rw[CR];simp -implicitDefEqProofs(disch:=try exact wK)only[go_sem,og,d,c,b,f2]
  |false=>rw[C3];simp -implicitDefEqProofs(disch:=try exact wK)only[go_sem,og,d,c,b,h,i,f2]
theorem Wdq(I:hN):E cx 51 [ae eS s] I=W (.sl (Z (jm (JV s.l++dc (JV s.l)))) .no,I):=by refine v_ X0K X0K ?_ (by rw[Qae,vw λ_ _=>rfl];rfl) I;have a:=Wz7 s Q u s.l [] T rfl;have b:=Wz6 s Q u (s.l.any (·.fold)) s.l [] [45] .fx rfl (.inl rfl) yZ (λx c=>by rw[vR.1 c];omega);rw[C3]at a;have h:=a.trans b;have d:o8 QaT 0 0 [ae eS s,.sl [iI 45] .fx,.bool T,iI 0] []=W (.sl (Z (jm (JV s.l++dc (JV s.l)))) .no,[]):=h;have e:(ae eS s).ng=ae eS s:=vz;have f2 n I:fz n I fzD (ae eS s)=W (ae eS s):=vC (vw λ_ _=>rfl);rw[QcG];simp only[go_sem,Gd,e,f2,d]
end
def CO(n k:Int):Int:=if 4611686018427387904/k<n then 4611686018427387904 else n*k
def Wi8{k:Int}(a:0<=D)(d:1<=k):0<=CO D k/\CO D k<=4611686018427387904:=by
 unfold CO;split
 ·omega
 ·rename_i h;have b:D<=4611686018427387904/k:=by omega
  have c:=Int.le_trans (T4 b Y) (Int.ediv_mul_le _ Y);exact⟨Int.mul_nonneg a Y,c⟩
def bI:Int->wZ->Int
 |n,[]=>n
 |n,c::r=>bI (CO n ((bP c.text).length+3:Nat)) r
theorem Wuh:∀(r:wZ) (n:Int),0<=n->n<=4611686018427387904->0<=bI n r/\bI n r<=4611686018427387904
 |[],n,h,a=>⟨h,a⟩
 |c::r,n,h,a=>by have:=Wi8 (k:=((bP c.text).length+3:Nat)) h Y;exact Wuh r _ this.1 this.2
def eN(l:wZ):u_:=jm (JV l++dc (JV l))
def iz(l:wZ):Int:=bI (eN l).length l
theorem Wbu(L:u_):∀(f:Nat) (a:Int),(fI f L a).length<=f
 |0,a=>by simp[fI]
 |f+1,a=>by
  unfold fI;split
  ·simp
  ·have:=Wbu L f (fG a L (-1));simp;omega
section
variable(s:Sl dQ)(z:s.l.length<=200)(u:∀c∈s.l,fE c)
include z u
theorem Wbv:∀(r q:wZ) (n:Int),s.l=q++r->0<=n->n<=4611686018427387904->
  oV QaT 0 0 [ae eS s,iI n,iI q.length] []=W (iI (bI n r),[])
 |[],q,n,a,f,b=>by
  have c:¬(q.length:Int)<s.l.length:=by rw[a];simp
  have d:Qai (ae eS s)=W (iI s.l.length):=ON;have e:(ae eS s).ng=ae eS s:=vz;rw[yb];unfold bI;simp -implicitDefEqProofs(disch:=try exact wK)only[go_sem,n9,e,d,c]
 |x::r,q,n,e,z,A=>by
  have l:s.l.length=q.length+r.length+1:=by rw[e];simp;omega
  have h:(q.length:Int)<s.l.length:=by omega
  have m:=u x (by rw[e];simp);have B:=Hu x.text;have C:=m.2;have b:=λI=>Wxh x.text Y m.1 I;have c:((bP x.text).length:Int)+3=((bP x.text).length+3:Nat):=by omega
  have a:=Wi8 (k:=((bP x.text).length+3:Nat)) z Y;have o:=Wbv r (q++[x]) (CO n ((bP x.text).length+3:Nat)) (by rw[e];simp) a.1 a.2;rw[show((q++[x]).length:Int)=q.length+1 by simp]at o;have p:eI 3 (iI q.length) (ae eS s)=W (.ai (cq x) 0):=KZ (f:=eS) e rfl rfl;have t I:eL I T 1 (.ai (cq x) 1)=W (.str x.text):=rfl;have i:Qai (ae eS s)=W (iI s.l.length):=ON;have j:(ae eS s).ng=ae eS s:=vz;have v:Qai (.sl (Z (bP x.text)) .no)=W (iI (bP x.text).length):=JS;have w:(V.sl (Z (bP x.text)) .no).ng=.sl (Z (bP x.text)) .no:=rfl;have f2 n I:fz n I fzD (ae eS s)=W (ae eS s):=vC (vw λ_ _=>rfl);have y:(4611686018427387904:Int).tdiv ((bP x.text).length+3:Nat)=4611686018427387904/((bP x.text).length+3:Nat):=MQ ⟨by omega,by omega⟩;have D:0<=4611686018427387904/(((bP x.text).length+3:Nat):Int)/\4611686018427387904/(((bP x.text).length+3:Nat):Int)<=4611686018427387904:=⟨Int.ediv_nonneg Y Y,Int.ediv_le_self _ Y⟩
  rw[yb];show _=W (V.int .i64 (bI (CO n ((bP x.text).length+3:Nat)) r),[]);rw[<-o];have d:¬(((bP x.text).length+3:Nat):Int)=0:=by omega
  unfold CO at a ⊢;generalize E:(((bP x.text).length+3:Nat):Int)=K at*;by_cases g:4611686018427387904/K<n
  ·rw[A9a g];generalize ae eS s=G,V.sl (Z (bP x.text)) .no=F at*;simp -implicitDefEqProofs(disch:=try exact wK)only[go_sem,n9,oU,j,i,h,p,t,b,w,v,c,d,y,g,f2]
  ·rw[O3 g]at a ⊢;generalize ae eS s=G,V.sl (Z (bP x.text)) .no=F at*;simp -implicitDefEqProofs(disch:=try exact wK)only[go_sem,n9,oU,j,i,h,p,t,b,w,v,c,d,y,g,f2]
theorem XQ:((eN s.l).length:Int)<=4611686018427387904:=by have h:=Wbu ((JV s.l++dc (JV s.l))++[fP (JV s.l++dc (JV s.l))]) ((JV s.l++dc (JV s.l)).length+3) (-1);have b:=XC s.l 200 (λc a=>by have:=Hu c.text;have:=(u c a).2;omega);have d:=XH (JV s.l);have e:(eN s.l).length<=(JV s.l++dc (JV s.l)).length+3:=h;rw[vW]at e;omega
theorem Wdr(I:hN):E cx 31 [ae eS s] I=W (iI (iz s.l),I):=by refine v_ X0K X0K ?_ (by rw[Qae,vw λ_ _=>rfl];rfl) I;have d:=λI=>Wdq s z u I;have b:=Wbv s z u s.l [] (eN s.l).length rfl Y (XQ s z u);have a:oV QaT 0 0 [ae eS s,iI (eN s.l).length,iI 0] []=W (iI (iz s.l),[]):=b;have c:∀I,E cx 51 [ae eS s] I=W (.sl (Z (eN s.l)) .no,I):=d;have e:Qai (.sl (Z (eN s.l)) .no)=W (iI (eN s.l).length):=JS;have f:(V.sl (Z (eN s.l)) .no).ng=.sl (Z (eN s.l)) .no:=rfl;have g:(ae eS s).ng=ae eS s:=vz;have f2 n I:fz n I fzD (ae eS s)=W (ae eS s):=vC (vw λ_ _=>rfl);rw[QcD];simp only[go_sem,F8,g,c,f,e,f2,a]
end
abbrev aW(l:aO)(c:bU):V:=.sl (l.map V.str) c
def P6{l:aO}:V.rb d (aW l F):=AM λ_=>rfl
def Qyl{I:hN}{l:aO}{t:u2}(a:iR F)(b:l.length<=1000000):aT T T 1 16 I (aW l F) (.sl [.str t] b9)=W (aW (l++[t]) (.gr 1)):=
 yC (m:=[t]) (λ_=>rfl) (λ_=>rfl) (λ_=>rfl) a u0 (by unfold Qaq;simp;omega)
def Wi9(l:aO)(t:u2)(g:l.length<=100000)(I:hN):E cx 15 [aW l .no,.str t] I=W (aW (bN l t) .no,I):=by
 refine v_ X0K X0K ?_ (by rw[Qae,P6];rfl) I;have a I:E cx 16 [aW l .no,.str t] I=W (.bool (bu l t),I):=Qsn (.row l) t (by show l.length<=_;omega) I;have b:(aW l .no).ng=aW l .no:=rfl;rw[QbU];unfold bN;cases e:bu l t with
 |true=>rw[e]at a;simp only[A9c];have one:oK T (aW l .no)=W (aW l .no):=rfl;have c:nK 0 [] (aW l .no)=W (aW l .no,[]):=VU hY P6;simp only[go_sem,qm,b,a,one,c]
 |false=>
  rw[e]at a;simp only[vD,A9d];have one:oK T (aW (l++[t]) (.gr 1))=W (aW (l++[t]) .no):=rfl;have f:nK 0 [] (aW (l++[t]) .no)=W (aW (l++[t]) .no,[]):=VU hY P6;cases l with
  |nil=>have c:aT T T 1 16 [] (.sl [] .fx) (aW [] .no)=W (aW [] .fx):=rfl;have d h:aT T T 1 16 [] (aW [] .fx) (.sl [.str t] h)=W (aW ([]++[t]) (.gr 1)):=Qyl (.inl rfl) u0;generalize aW [] .fx=k,aW [] .no=j,aW ([]++[t]) (.gr 1)=i at*;simp only[go_sem,qm,b,a,c,d,one,f]
  |cons x r=>have c:aT T T 1 16 [] (.sl [] .fx) (aW (x::r) .no)=W (aW (x::r) (.gr 1)):=yC (l:=[]) (λ_=>rfl) (λ_=>rfl) (λ_=>rfl) (.inl rfl) u0 (by unfold Qaq;simp at g ⊢; omega);have d h:aT T T 1 16 [] (aW (x::r) (.gr 1)) (.sl [.str t] h)=W (aW (x::r++[t]) (.gr 1)):=Qyl (.inr rfl) Y;generalize aW (x::r) (.gr 1)=k,aW (x::r) .no=j,aW (x::r++[t]) (.gr 1)=i,aW (x::r++[t]) .no=m at*;simp only[go_sem,qm,b,a,c,d,one,f]
end Go.Ev
