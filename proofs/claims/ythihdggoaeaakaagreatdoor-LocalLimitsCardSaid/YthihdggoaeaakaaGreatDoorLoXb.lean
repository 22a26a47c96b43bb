/- Part of a proof: the small language, and functions of the program on it. -/
import Derived.Test.YthihdggoaeaakaaGreatDoorLoXa
import Derived.Laws.Sem
set_option linter.all false
namespace Go.Ev
open Go
variable{d k i9:Nat}{e K:uZ}{f B:hN}{g y:V}{j:Oper}{r:vB}{v:bk}{i0 m3:TypeId}{i3:wk}{i4:Bool}{i8 l5:Operand}{m0:FuncId->uZ->hN->R6}{p2:Operand->Value}{p4:Array TypeId}{v6:Option Tmp}{v9:String}(w2:Act)(k5:AQ)(v4:V)(n0:Ctx)(n6:Bool)(k6:Nat)(w3:Array Bool)
section
variable{P:Program}{M:vn}{J:bk}{X:Nat->Prop}{D:cY}{w:World}{us:vB}{U:uZ}{I:hN}{G:GV}{a:Act}
def Wen{args:Array Operand}{b:Array Edge}{guard:Option (Nat×Bool)}:
  execOp p2 ⟨v6,.call {callee:=.builtin .copy,args:=args,argTypes:=p4},i0,v9,b,guard⟩=(do pure (.value (<-Builtin.copy_ p4 i0 (args.map p2)))):=rfl
def Wcv{args:Array Operand}{b:Array Edge}{guard:Option (Nat×Bool)}:
  execOp p2 ⟨v6,.call {callee:=.builtin .clear,args:=args,argTypes:=p4},i0,v9,b,guard⟩=(do pure (.value (<-Builtin.clear_ p4 i0 (args.map p2)))):=rfl
def St.kT(h:St M J X D w us U I){b off:Nat}(n:J d=W b)(ds:I[d]?=W (.cells e))(p:aq M J r K)(f:off+K.length<=e.length)(a:∀c∈K,c.one):
  ∃w',(storeCells ⟨b,off,none⟩ r).run P w=.ok () w'/\Ext X M J w M J w'/\Kp J w I J w' (I.set d (.cells (RK e off (K.map V.ng))))/\St M J X D w' us U (I.set d (.cells (RK e off (K.map V.ng)))):=by
 have⟨O,hO,q⟩:=h.wd.obj d b n;rw[ds]at hO;cases hO;obtain⟨ws,T9,fz,vs,s,t,B,u⟩:=q;have x:e.length<=ws.size:=by have:=s.1;simp at this;omega
 have z:r.length=K.length:=p.1;have g:=yV (P:=P) b off T9 fz r w ws 0 vs Y (λj C E=>t j Y) (W3 p a);rw[KY]at g;have k:=h.setObj n ds vs p.ng (by rw[wq];exact f) (ye a) EL;refine⟨_,g,k.2,?_,k.1⟩;refine Kp.set h.wd n ds (λc A=>by rw[setRow_heap,O3 (Ne.symm A)]) (λi y o l => ?_);rw[Ph e off (K.map V.ng) i (by rw[wq];exact f)]at o;split at o
 ·obtain⟨m,_,rfl⟩:=wa.1 (Ah o);rw[Qwo]at l;cases l
 ·rename_i m;refine⟨o,?_⟩;have v:=h.wd.dv d b n;rw[wq]at m;rw[Hr vs,Hr (w:=setRow w b (bA ws off r) T9 fz) (ws:=bA ws off r) (T9:=T9) (fz:=fz) (by rw[setRow_heap,A9a rfl,A9a v]),BH r ws off i Y,O3 Y]
def Wkn(h:St M J X D w a.tmps.toList U I)(m:dJ G M J){t:TypeId}{x y:Arg}{str:Bool}(u:j.op=.call {callee:=.builtin .copy,args := #[i8,l5],argTypes := #[t,i0]})(ht:P.underlying t=W (.slice m3))(hz:cP P m3=W d)(tx:K0 P str i0 d)(n:Qar i8 x)(L:Qar l5 y)(c:Qa4 m0 (arg G U) (cD G U) I (.lA str d x y)=W (g,f)):
  wc P a j M J X w I (put U j.dst g) f:=by
 have b:=fN.bl h.bC m;have q:=b.ok _ _ n;have z:=b.ok _ _ L;simp only[Qa4]at c;split at c
 ·rename_i N off A s ag B;simp only[u7,vh]at c;obtain⟨r,C,cs,E,c⟩:=c;split at c
  ·rename_i p;obtain⟨rfl,F,sz,H⟩:=p;cases c;rw[B]at q;have⟨b,p,K,m3,m0⟩:=q.eb;have⟨b,hS,L⟩:=UO h.wd tx z C sz;have N:=y_ (C8 sz).1;have⟨w',O,Q,R,S⟩:=h.kT (P:=P) (off:=off) m3 (xz E) L (by rw[N];exact H) (Uq sz);refine⟨_,.int .i64 r.length,w',M,J,D,?_,.inl rfl,⟨Q,R,λk=>by rw[u]at k;cases k⟩,S.be (.int _ _) rfl _⟩;obtain⟨p,sz,l,m3,b,guard⟩:=j;simp only at u;subst u;rw[Wen];have m:Nat.min r.length A=r.length:=Nat.min_eq_left F;have n:(Builtin.copy_ #[t,i0] l #[a.eval i8,a.eval l5]).run P w=.ok (.int .i64 r.length) w':=by unfold Builtin.copy_;simp only[KQ,Gs,M8,vl,run_underlying ht,Result.andThen,K,hS.len w,m,Qb4 hz,hS.cells,O,vF];rfl
   rw[vl];simp only[Uj,xc,Xbx,n,Result.andThen];rfl
  ·cases c
 ·cases c
def Wko(h:St M J X D w a.tmps.toList U I)(hG:dJ G M J){t:TypeId}{x:Arg}{sz:Nat}(S:j.op=.call {callee:=.builtin .clear,args := #[i8],argTypes := #[t]})(ht:P.underlying t=W (.slice i0))(hz:cP P i0=W sz)(e:IM P i0 g)(A:sz≠0)(hp:Qar i8 x)(p:Qa4 m0 (arg G U) (cD G U) I (.lb sz g x)=W (y,f)):
  wc P a j M J X w I (put U j.dst y) f:=by
 have hA:=fN.bl h.bC hG;have o:=hA.ok _ _ hp;have k:∀ {l:World} {d:hN},(Builtin.clear_ #[t] j.type #[a.eval i8]).run P w=.ok (.tuple #[]) l->Ext X M J w M J l->Kp J w I J l d->St M J X D l a.tmps.toList U d->wc P a j M J X w I (put U j.dst .undef) d:=by intro l d b n q r;refine⟨_,.tuple #[],l,M,J,D,?_,.inl rfl,⟨n,q,λc=>by rw[S]at c;cases c⟩,r.be .undef rfl _⟩;obtain⟨s,B,m,u,i,guard⟩:=j;simp only at S b;subst S;rw[Wcv,vl];simp only[Uj,xc,Xbx,b,Result.andThen];rfl
 simp only[Qa4]at p;split at p
 ·rename_i c;cases p;rw[c]at o;cases b:a.eval i8<;>rw[b]at o<;>cases o;refine k ?_ (Ext.refl ..) (Kp.refl ..) h;rw[b];unfold Builtin.clear_;simp only[KQ,Gs,vl,run_underlying ht,Result.andThen,vF]
 ·rename_i oo off d s i b;simp only[u7,vh]at p;obtain⟨Q,B,p⟩:=p;split at p
  ·rename_i m;obtain⟨rfl,C,a0,E⟩:=m;cases p;rw[b]at o;have⟨b,i,F,hi,m⟩:=o.eb;have⟨i,R,a1,b,a2,a3,r⟩:=Qnb (M:=M) (J:=J) (n:=d) e hz C A;have a4:(List.replicate d g).flatMap V.cells=((List.replicate d g).flatMap V.cells).map V.ng:=by
    symm
    refine Qod λc O => ?_;have⟨q,H,K⟩:=Fc.1 O;rw[Hf H]at K;unfold IM at e;split at e
    ·exact((zS (M:=M) (J:=J) e).2.1 c K).2
    ·cases e
   have L:∀c∈(List.replicate d g).flatMap V.cells,c.one:=λc O=>by have⟨q,H,K⟩:=Fc.1 O;rw[Hf H]at K;exact zW E c K
   have a5:((List.replicate d g).flatMap V.cells).length=d*s:=by rw[y_ (sz:=s) λq H=>by rw[Hf H];exact C,KR]
   by_cases N:d=0
   ·subst N;have u:I.set oo (.cells (RK Q off ((List.replicate 0 g).flatMap V.cells)))=I:=by rw[show RK Q off ((List.replicate 0 g).flatMap V.cells)=Q from by cases Q<;>cases off<;>rfl];exact Qkr (xz B)
    rw[u];refine k ?_ (Ext.refl ..) (Kp.refl ..) h;rw[F];unfold Builtin.clear_;simp only[KQ,Gs,vl,run_underlying ht,Result.andThen,vF]
   ·have⟨l,a6,b,u,O⟩:=h.kT (P:=P) (off:=off) hi (xz B) r (by rw[a5];exact a0) L;rw[<-a4]at u O;refine k ?_ b u O;rw[F];have a7:(zeroValue i0).run P w=.ok R w:=by unfold zeroValue;simp only[vl,Gy a1,Result.andThen,a2];rfl
    have a8:(Builtin.zeroCells R.cells d).toList=((Array.range (d*s)).map (R.cells[· % R.cells.size]!)).toList:=by unfold Builtin.zeroCells;rw[a3]
    unfold Builtin.clear_;cases d with
    |zero=>exact absurd rfl N
    |succ d=>simp only[KQ,Gs,vl,run_underlying ht,Result.andThen,a7,a8,a6,vF]
  ·cases p
 ·cases p
def St.qJ(h:St M J X D w us U I)(o:Nat):St M J X D w us U (I.set o .gone)/\∀w':World,HK J w w'->Kp J w I J w' (I.set o .gone):=by
 have f:∀q d,(I.set o .gone)[q]?=W (O.cells d)->I[q]?=W (O.cells d):=λq d a=>by
  rw[AZ]at a;split at a
  ·split at a<;>cases a
  ·exact a
 have b:∀q,(I.set o .gone)[q]?≠W O.gone->I[q]?≠W O.gone:=λq a=>by
  rw[AZ]at a;split at a
  ·split at a
   ·exact absurd rfl a
   ·rename_i k l;subst k;rw[B0 (AT.1 l)];simp
  ·exact a
 have g:∀p v x,At J w us U (I.set o .gone) p v x->At J w us U I p v x:=by
  intro p v x e;cases p with
  |s i=>exact e
  |c q i=>obtain⟨j,s,y,fz,d,m,n,r,t⟩:=e;exact⟨j,s,y,fz,d,m,n,f _ _ r,t⟩
 refine⟨⟨⟨h.wd.mem,λq c a => ?_,h.wd.dv,λq u c m n r t=>h.wd.inj q u c m n (b q r) (b u t),h.wd.ef,h.wd.cV,h.wd.dC,h.wd.gg⟩,h.bC,λp v x c e z=>h.own p v x c (g p v x e) z,λp v x e=>h.gr p v x (g p v x e)⟩,
  λw' A=>⟨u0,λ_ _=>rfl,λq c i a B => ?_⟩⟩
 ·have⟨s,j,y⟩:=h.wd.obj q c a;rw[AZ];split
  ·rename_i C;subst C;rw[A9a (wy.1 j).1];exact⟨.gone,rfl,trivial⟩
  ·exact⟨s,j,y⟩
 ·obtain⟨d,x,k,l⟩:=B;exact⟨⟨d,x,f _ _ k,l⟩,by unfold World.cell?; rw[A q c a]⟩
def Qfp.qK(a:di J v){b:Nat}{O:O}(h:Qfp M J w b O):Qfp M v w b O:=by
 cases O with
 |cells k=>obtain⟨c,e,d,g,i,j⟩:=h;exact⟨c,e,d,g,i.mono (.refl _) a,j⟩
 |mp m=>obtain⟨l,k,j,c⟩:=h;exact⟨l,k,j,c.1,λi e p d g=>⟨(c.2 i e p d g).1.mono (.refl _) a,(c.2 i e p d g).2.mono (.refl _) a⟩⟩
 |si r c=>exact h
 |gone=>trivial
def Pl.tr(o n:Nat):Pl->Pl
 | .c q i=>if q=o then .c n i else .c q i
 |p=>p
def St.kU(h:St M J X D w us U I){b b2:Nat}{ds:uZ}(hi:J d=W b)(ho:I[d]?=W (.cells e)){T9:wk}{fz B:Nat×Nat}(hb:w.heap[b]?=W (.cells i3 i0 fz))(y:w.heap[b2]?=W (.cells T9 m3 B))(R:∀i,i<T9.size->Qbg B i=T)(hM:∀i,M b2 i=none)(hX:¬X b2)(F:b2=b\/∀q,J q≠W b2)(hk:∀p,D b2≠W p)(G:∀i,i<e.length->T9[i]?=i3[i]?)(hr:aq M J (T9.toList.take (e++ds).length) (e++ds))(S:∀c∈ds,c.one)(a2:∀c∈ds,∀v,aJ v c=none):
  ∃V D',di J V/\V I.length=W b2/\V.sz b2=W T9.size/\Kp J w I V w (I.set d .gone++[.cells (e++ds)])/\St M V X D' w us U (I.set d .gone++[.cells (e++ds)]):=by
 have a7:d<I.length:=(wy.1 ho).1;have K:=h.wd.h' (vE I.length);have g q:J.more I.length b2 (W T9.size) q=if q=I.length then W b2 else J q:=rfl
 have z:di J (J.more I.length b2 (W T9.size)):=⟨λq c f=>by
  rw[g];by_cases a:q=I.length
  ·subst a;rw[K]at f;cases f
  ·rw[O3 a];exact f,λc n f=>by
  rw[Qg];by_cases A:c=b2
  ·subst A;have⟨_,a3,T',H,L,h2,_⟩:=h.wd.gg _ n f;rw[y]at L;cases L;rw[A9a rfl,h2]
  ·rw[O3 A];exact f⟩
 have⟨O,hO,a4⟩:=h.wd.obj d b hi;rw[ho]at hO;cases hO;obtain⟨a3,T',H,L,h2,h3,h4,h5⟩:=a4;rw[hb]at L;cases L;have C:∀q c,q≠d->J q=W c->I[q]?≠W O.gone->b2≠c:=λq c a f s cs=>by
  rcases F with rfl|hf
  ·exact a (h.wd.inj q d c f (cs▸hi) s (by rw[ho];simp))
  ·exact hf q (cs▸f)
 have l:(I.set d .gone).length=I.length:=u0;have a0:∀q j,q≠I.length->(I.set d .gone++[O.cells (e++ds)])[q]?=W (O.cells j)->q≠d/\I[q]?=W (O.cells j):=λq j a r=>by
  rw[JI]at r;split at r
  ·rw[AZ]at r;split at r
   ·first|(cases r;done)|(split at r<;>cases r)
   ·rename_i he;exact⟨λcs=>he cs.symm,r⟩
  ·rename_i s;have:=(wy.1 r).1;rw[l]at s this;simp at this;omega
 have k:∀q,q≠I.length->J q≠none->(I.set d .gone++[O.cells (e++ds)])[q]?≠W O.gone->q≠d/\I[q]?≠W O.gone:=λq a s r=>by
  have u:q<I.length:=by
   cases f:J q with
   |none=>exact absurd f s
   |some c=>exact h.wd.dK f
  rw[AH (by rw[l];exact u),AZ]at r;split at r
  ·first|exact absurd rfl r|(split at r<;>first|exact absurd rfl r|(rename_i L h2;exact absurd Y h2))
  ·rename_i he;exact⟨λcs=>he cs.symm,r⟩
 have a1:∀p v x,At (J.more I.length b2 (W T9.size)) w us U (I.set d .gone++[.cells (e++ds)]) p v x->(∃E,At J w us U I E v x/\p=E.tr d I.length)\/aJ v x=none:=by
  intro p v x N;cases p with
  |s i=>exact .inl ⟨.s i,N,rfl⟩
  |c q i=>
   obtain⟨b',a5,T',H,j,m,t,P,g4,s⟩:=N;rw[g]at m;by_cases a:q=I.length
   ·subst a;rw[A9a rfl]at m;cases m;rw[y]at t;cases t;rw[DQ u0,l,EU]at P;cases P;rw[JI]at s;split at s
    ·rename_i u;exact .inl ⟨.c d i,⟨b,i3,i0,fz,e,hi,hb,ho,by rw[<-G i u];exact g4,s⟩,by simp[Pl.tr]⟩
    ·exact .inr (a2 x (Ah s) v)
   ·rw[O3 a]at m;have⟨b,K⟩:=a0 q j a P;exact .inl ⟨.c q i,⟨b',a5,T',H,j,m,t,K,g4,s⟩,by simp[Pl.tr,b]⟩
 refine⟨J.more I.length b2 (W T9.size),λc=>(D c).map (Pl.tr d I.length),z,by rw[g,A9a rfl],by rw[Qg,A9a rfl],⟨u0,λq a=>by rw[g,O3 Y],λq c i a cs => ?_⟩,
  ⟨⟨h.wd.mem,λq c a => ?_,λq c a => ?_,λq Q c m t P g4 => ?_,h.wd.ef,λq c a => ?_,λc p hp => ?_,λc n hz => ?_⟩,h.bC.mono (.refl _) z,λp v x c N f => ?_,λp v x N => ?_⟩⟩
 ·obtain⟨j,x,m,t⟩:=cs;have u:=h.wd.dK a;have⟨b,K⟩:=a0 q j Y m;exact⟨⟨j,x,K,t⟩,rfl⟩
 ·rw[g]at a;by_cases s:q=I.length
  ·subst s;rw[A9a rfl]at a;cases a;have b:(e++ds).length<=T9.size:=by have:=hr.1;simp at this ⊢; omega
   refine⟨.cells (e++ds),by rw[DQ u0,l,EU];rfl,T9,m3,B,y,hr.mono (.refl _) z,λi b=>R i Y,hM,λc f => ?_⟩;rcases xf.1 f with f|f
   ·exact h5 c f
   ·exact S c f
  ·rw[O3 s]at a;have⟨Oq,a5,a6⟩:=h.wd.obj q c a;have u:=h.wd.dK a;rw[AH (by rw[l];exact u),AZ];split
   ·exact⟨.gone,by first|rfl|rw[A9a Y],trivial⟩
   ·exact⟨Oq,a5,a6.qK z⟩
 ·rw[g]at a;split at a
  ·cases a;exact(Fa.1 y).1
  ·exact h.wd.dv q c a
 ·rw[g]at m t;by_cases a:q=I.length
  ·by_cases s:Q=I.length
   ·rw[a,s]
   ·rw[A9a a]at m;rw[O3 s]at t;cases m;have⟨b,cs⟩:=k Q s (by rw[t];simp) g4;exact absurd rfl (C Q _ b t cs)
  ·by_cases s:Q=I.length
   ·rw[O3 a]at m;rw[A9a s]at t;cases t;have⟨b,cs⟩:=k q a (by rw[m];simp) P;exact absurd rfl (C q _ b m cs)
   ·rw[O3 a]at m;rw[O3 s]at t;exact h.wd.inj q Q c m t (k q a (by rw[m];simp) P).2 (k Q s (by rw[t];simp) g4).2
 ·rw[g]at a;split at a
  ·cases a;exact hX
  ·exact h.wd.cV q c a
 ·rw[xB]at hp;obtain⟨E,s,rfl⟩:=hp;have⟨b,k2,cs⟩:=h.wd.dC c E s;refine⟨b,λq a => ?_,cs⟩;rw[g]at a;split at a
  ·cases a;exact hk _ s
  ·exact k2 q a
 ·rw[Qg]at hz;by_cases A:c=b2
  ·subst A;rw[A9a rfl]at hz;cases hz;exact⟨⟨I.length,by rw[g,A9a rfl]⟩,T9,m3,B,y,rfl,R⟩
  ·rw[O3 A]at hz;have⟨⟨q,a⟩,s⟩:=h.wd.gg c n hz;exact⟨⟨q,z.le q c a⟩,s⟩
 ·rcases a1 p v x N with ⟨E,s,rfl⟩|a
  ·show(D c).map (Pl.tr d I.length)=_;rw[h.own E v x c s f];rfl
  ·rw[a]at f;cases f
 ·rcases a1 p v x N with ⟨E,s,rfl⟩|a
  ·exact h.gr E v x s
  ·exact .du a
def St.spare(h:St M J X D w us U I){b:Nat}(l:J d=W b)(B:I[d]?=W (.cells e)){ws:wk}{T9:TypeId}{fz:Nat×Nat}(G:w.heap[b]?=W (.cells ws T9 fz))(H:e.length+r.length<=ws.size):
  Ext X M J w M J (setRow w b (bA ws e.length r) T9 fz)/\Kp J w I J (setRow w b (bA ws e.length r) T9 fz) I/\St M J X D (setRow w b (bA ws e.length r) T9 fz) us U I:=by
 have hX:=h.wd.cV d b l;have vs:=h.wd.dv d b l;have⟨O,hO,K⟩:=h.wd.obj d b l;rw[B]at hO;cases hO;obtain⟨L,Q,F,R,h2,h3,S,h5⟩:=K;rw[G]at R;cases R;have g:∀j,j<e.length->(bA ws e.length r)[j]?=ws[j]?:=λj K=>by rw[BH r ws e.length j Y,O3 Y]
 have a:∀q c,q≠d->J q=W c->I[q]?≠W O.gone->b≠c:=λq c o t L cs=>o (h.wd.inj q d c t (cs▸l) L (by rw[B];simp));have y:∀p v x,At J (setRow w b (bA ws e.length r) T9 fz) us U I p v x->At J w us U I p v x:=by
  intro p v x z;cases p with
  |s i=>exact z
  |c q i=>
   obtain⟨V,n,Q,F,f,C,E,m,s,N⟩:=z;by_cases o:q=d
   ·subst o;rw[l]at C;cases C;rw[setRow_heap,A9a rfl,A9a vs]at E;cases E;rw[B]at m;cases m;rw[g i (wy.1 N).1]at s;exact⟨b,ws,T9,fz,e,l,G,B,s,N⟩
   ·rw[setRow_heap,O3 (a q V o C (by rw[m];simp))]at E;exact⟨V,n,Q,F,f,C,E,m,s,N⟩
 have A:∀q c f,J q=W c->I[q]?=W (.cells f)->∀i,i<f.length->(setRow w b (bA ws e.length r) T9 fz).cell? ⟨c,i,none⟩=w.cell? ⟨c,i,none⟩:=λq c f o m i n=>by
  by_cases k:q=d
  ·subst k;rw[l]at o;cases o;rw[B]at m;cases m;rw[Hr G,Hr (w:=setRow w b (bA ws e.length r) T9 fz) (ws:=bA ws e.length r) (T9:=T9) (fz:=fz) (by rw[setRow_heap,A9a rfl,A9a vs]),g i n]
  ·unfold World.cell?;rw[setRow_heap,O3 (a q c k o (by rw[m];simp))]
 refine⟨Ext.setRow hX _ _ _,⟨vE _,λ_ _=>rfl,λq c i o H=>⟨H,?_⟩⟩,
  ⟨⟨λc i u P => ?_,λq c o => ?_,λq c o=>by rw[setRow_size];exact h.wd.dv q c o,h.wd.inj,λc t=>by rw[setRow_size];exact h.wd.ef c t,h.wd.cV,λc p m=>by rw[setRow_size];exact h.wd.dC c p m,λc n s=>h.wd.i' G (Hp _ _ _) c n s⟩,
   h.bC,λp v x c z t=>h.own p v x c (y p v x z) t,λp v x z=>(h.gr p v x (y p v x z)).setRow λc t=>λcs => ?_⟩⟩
 ·obtain⟨f,x,C,E,_⟩:=H;exact A q c f o C i (wy.1 E).1
 ·have m:b≠c:=λcs=>by subst cs;rw[S]at P;cases P
  have:=h.wd.mem c i u P;simp only[World.cell?,setRow_heap,O3 m];simpa[World.cell?]using this
 ·have⟨s,m,n⟩:=h.wd.obj q c o;refine⟨s,m,?_⟩;by_cases k:q=d
  ·subst k;rw[l]at o;cases o;rw[B]at m;cases m;refine⟨bA ws e.length r,T9,fz,by rw[setRow_heap,A9a rfl,A9a vs],?_,h3,S,h5⟩;have:(bA ws e.length r).toList.take e.length=ws.toList.take e.length:=by
    apply Hk;intro j;rw[xP,xP];split
    ·rw[Hg,Hg,g j (by assumption)]
    ·rfl
   rw[this];exact h2
  ·by_cases N:s=.gone
   ·subst N;trivial
   ·exact n.setRow (a q c k o (by rw[m];simpa using N))
 ·subst cs;exact(h.wd.dC _ _ (h.own p v x _ (y p v x z) t)).2.1 d l
def Weo(h:St M J X D w a.tmps.toList U I)(hG:dJ G M J){x y:Arg}{str:Bool}{bytes:Nat}{t:TypeId}(ho:j.op=.call {callee:=.builtin .append,args := #[i8,l5],argTypes := #[t,i0]})(hp:Qar i8 x)(hq:Qar l5 y)(ht:g_ x true)(hc:DK P str i4 d bytes t i0){d1:FuncId->uZ->hN->R6}(A:Qa4 d1 (arg G U) (cD G U) I (.gE str i4 d bytes x y)=some (g,f)):wc P a j M J X w I (put (bM U x true) j.dst g) f:=by
 have hA:=fN.bl h.bC hG;have a2:=Qi8 h.bC hG hp;have b8:=hA.ok _ _ hq;obtain⟨e,i,g3,hu,hi,e5,hz,d2,g4,d3,a5⟩:=Qhl hc;obtain⟨Q,b9,d4⟩:=hz;have d5:i.zero=some Q:=by unfold Pe at b9;rw[hi]at b9;exact b9
 have e6:i.bytes=bytes:=by rw[hi]at d2;simpa using d2
 subst e5 e6;have d6:∀ {u:Value} {w':World},(Builtin.append_ #[t,i0] j.type #[a.eval i8,a.eval l5]).run P w=.ok u w'->(execOp a.eval j).run P w=.ok (.value u) w':=by intro u w' k;obtain⟨g5,op,g2,g6,e7,guard⟩:=j;simp only at ho k;subst ho;rw[Qob,vl];simp only[Uj,xc,Xbx,k,Result.andThen];rfl
 have d7:∀ {M':vn} {J':bk} {D':cY} {w':World} {I2:hN},St M' J' X D' w' a.tmps.toList U I2->St M' J' X D' w' a.tmps.toList (bM U x true) I2:=by
  intro M' J' D' w' I2 hs;unfold bM;split
  ·exact hs.dy _
  ·exact hs
 have a6:∀ {u:Value} {x':V} {w':World} {M':vn} {J':bk} {D':cY} {I2:hN},(Builtin.append_ #[t,i0] j.type #[a.eval i8,a.eval l5]).run P w=.ok u w'->Ext X M J w M' J' w'->Kp J w I J' w' I2->St M' J' X D' w' a.tmps.toList U I2->aB M' J' u x'->aJ u x'=none->
   wc P a j M J X w I (put (bM U x true) j.dst x') I2:=
  λh1 h2 hk h3 h4 h5=>⟨_,_,_,_,_,_,d6 h1,.inl rfl,⟨h2,hk,λd8=>by rw[ho]at d8;cases d8⟩,(d7 h3).be h4 h5 _⟩
 simp only[Qa4,u7,vh]at A;obtain⟨q,b5,A⟩:=A;split at A
 ·rename_i oo ag s g7 hT;rw[hT]at a2;simp only[vh]at A;obtain⟨m,e8,A⟩:=A;split at A
  ·rename_i K;obtain⟨rfl,B,a7,a3⟩:=K;have R:=xz e8;obtain⟨p,hS,a8⟩:=UO h.wd a5 b8 b5 B;have c0:=(C8 B).1;have C:p.length=q.length*i.size:=hS.newsLen;generalize a4:a.eval i8=pv at a2;cases a2 with
   |hg _ _ _ _ b cap n E hn d9 hr=>
   obtain⟨_,z,T9,fz,hb,e0,e2⟩:=h.wd.gg b n hn;obtain⟨O,hO,e9⟩:=h.wd.obj oo b E;rw[R]at hO;cases hO;obtain⟨g8,T',g9,h1,h2,h3,h4,h5⟩:=e9;rw[hb]at h1;cases h1;cases L:q with
   |nil=>rw[L]at A hS;simp only[vU,A9g]at A;obtain⟨rfl,rfl⟩:=A;have f0:p=[]:=CP.1 (by rw[C,L];simp);rw[f0]at hS;exact a6 (by rw[a4];exact O8 hu hi hS d9) (Ext.refl ..) (Kp.refl ..) h (.hg _ _ _ _ b cap n E hn d9 hr) rfl
   |cons y0 yr=>
    rw[L]at A;simp only[vU,A9g]at A;obtain⟨rfl,rfl⟩:=A;rw[<-L];have c1:0<q.length:=by rw[L];simp
    have S:=Uq B;have H:=y_ c0;by_cases N:ag+q.length<=cap
    ·
     have a0:m.length+p.length<=z.size:=by rw[a7,C,<-I8,e0];exact zr (DY _ N) hr
     have k:=UQ (P:=P) (ty:=j.type) hu hi hS N hb (off:=0) (by rw[xr,<-a7];exact a0) (λv _ hj=>e2 v Y);rw[xr,<-a7]at k;obtain⟨l,f1,f2⟩:=h.spare E R hb a0;have c2:=h.wd.dv oo b E;have b6:(setRow w b (bA z m.length p) T9 fz).heap[b]?=some (.cells (bA z m.length p) T9 fz):=by rw[setRow_heap,A9a rfl,A9a c2]
     have e3:∀v,(bA z m.length p)[v]?=if m.length<=v/\v<m.length+p.length then p[v-m.length]? else z[v]?:=λv=>BH p z m.length v a0
     obtain⟨J',D',c3,a9,b0,c4,c5⟩:=f2.kU (ds:=(q.flatMap V.cells).map V.ng) E R b6 b6 (λv hj=>e2 v (by rw[Hp]at hj;omega)) h4 (h.wd.cV oo b E) (.inl rfl) (λp' c6=>(h.wd.dC b p' c6).2.1 oo E) (λ_ _=>rfl)
      (by
       have f3:(bA z m.length p).toList.length=z.size:=by rw[DR];exact Hp _ _ _
       refine⟨by rw[GQ,f3,vW,wq,H,<-C];exact Nat.min_eq_left a0,λv u c r b1 => ?_⟩;rw[xP]at r;split at r
       ·rename_i f4;rw[Hg,e3 v]at r;rw[JI]at b1;by_cases c7:v<m.length
        ·rw[A9a c7]at b1;rw[O3 Y]at r;exact h2.2 v u c (by rw[xP,A9a c7];simpa using r) b1
        ·rw[O3 c7]at b1;rw[vW,wq,H,<-C]at f4;rw[A9a ⟨by omega,by omega⟩]at r;exact a8.ng.2 _ u c r b1
       ·cases r) (ye S) EL
     have c8:Ext X M J w M J' (setRow w b (bA z m.length p) T9 fz):=⟨l.m,c3,l.mX,l.size,l.cG,l.os,l.tape,l.output⟩
     exact a6 (by rw[a4];exact k) c8 (f1.trans (.refl _) c4) c5 (.hg _ _ _ _ b cap _ a9 b0 N (by rw[Hp,e0];exact hr)) rfl
    ·
     have b3:Builtin.nextslicecap (ag+q.length) cap*i.bytes<=281474976710656:=growslice_fits Y a3;have c9:(Builtin.firstCells i.size ag (.slice (some ⟨b,0,none⟩) ag cap)).run P w.drew=.ok ((z.toList.take m.length)).toArray w.drew:=by
      refine Qgp (cap:=cap) (by rw[h2.1,a7]) (λv u r => ?_) ag;rw[xP]at r;split at r
      ·show w.drew.cell? ⟨b,0+v,none⟩=some u;rw[xr];have:=Hr hb v;rw[show w.drew.cell? ⟨b,v,none⟩=w.cell? ⟨b,v,none⟩from rfl,this];simpa using r
      ·cases r
     have k:=run_append_grow_src (P:=P) w t i0 j.type e i Q hu hi d5 (some ⟨b,0,none⟩) ag cap _ c9 (a.eval l5) q.length p hS Y (by have:=K1 a3 d3;omega) b3;have a1:=grownCap_ge w (ag+q.length) cap e;have d0:=size_zeroCells Q.cells (grownCap w (ag+q.length) cap e-(ag+q.length));have hd:=h.drew;have b4:=hd.push (.cells ((z.toList.take m.length++p).toArray++Builtin.zeroCells Q.cells (grownCap w (ag+q.length) cap e-(ag+q.length))) e (0,0)) [] (λi u hu=>by simp at hu);have b7:(z.toList.take m.length).length=m.length:=h2.1;generalize hW:(Obj.cells ((z.toList.take m.length++p).toArray++Builtin.zeroCells Q.cells (grownCap w (ag+q.length) cap e-(ag+q.length))) e (0,0))=ob at b4;have f5:(Ag {w with drawn:=w.drawn+1} ob).heap[w.heap.size]?=some (.cells ((z.toList.take m.length++p).toArray++Builtin.zeroCells Q.cells (grownCap w (ag+q.length) cap e-(ag+q.length))) e (0,0)):=(EI _ _).trans (by rw[<-hW]);have c2:=h.wd.dv oo b E;have b6:(Ag {w with drawn:=w.drawn+1} ob).heap[b]?=some (.cells z T9 fz):=(RO _ ob (c:=b) c2).trans hb;have hM:=hd.wd.dT [];have e4:∀v,v<m.length->((z.toList.take m.length++p).toArray++Builtin.zeroCells Q.cells (grownCap w (ag+q.length) cap e-(ag+q.length)))[v]?=z[v]?:=λv hj=>by have f6:((z.toList.take m.length++p).toArray).toList=z.toList.take m.length++p:=rfl;rw[<-Hg,KS,f6,AH (by rw[vW,b7];omega),AH (by rw[b7];exact hj),xP,A9a hj,Hg]
     obtain⟨J',D',c3,a9,b0,c4,c5⟩:=b4.kU E R b6 f5 (λv _=>by unfold Qbg;simp) (λv=>by show TF M w.heap.size [] w.heap.size v=none;rw[Ow];simp)
      (λhx=>by have:=h.wd.ef _ hx;omega) (.inr λq' f7=>ki h.wd q' f7) (λp' c6=>by have:=(h.wd.dC _ p' c6).2.2;omega) e4
      (by
       have e1:(((z.toList.take m.length++p).toArray++Builtin.zeroCells Q.cells (grownCap w (ag+q.length) cap e-(ag+q.length))).toList.take (m++(q.flatMap V.cells).map V.ng).length)=z.toList.take m.length++p:=by
        rw[KS,show((z.toList.take m.length++p).toArray).toList=z.toList.take m.length++p from rfl,vW,wq,H,<-C];have h9:m.length+p.length=(z.toList.take m.length++p).length:=by rw[vW,b7]
        rw[h9];exact Ul
       rw[e1];exact(h2.append a8.ng).mono hM (.refl _)) (ye S) EL
     have c8:Ext X M J w (TF M w.heap.size []) J' (Ag {w with drawn:=w.drawn+1} ob):=by have l:=(Ext.drew X M J w).trans (Ext.push hd.wd ob []);exact⟨l.m,c3,l.mX,l.size,l.cG,l.os,l.tape,l.output⟩
     have F:((z.toList.take m.length++p).toArray++Builtin.zeroCells Q.cells (grownCap w (ag+q.length) cap e-(ag+q.length))).size=grownCap w (ag+q.length) cap e*i.size:=by rw[Uh,d0,d4,Qw,vW,b7,C,a7,<-I8,<-I8];congr 1;omega
     refine a6 (by rw[a4,<-hW];exact k) c8 (Kp.trans (Kp.same _ _ (h.wd.ig ob _)) (.refl _) c4) c5 (.hg _ _ _ _ w.heap.size _ _ a9 b0 a1 (Nat.le_of_eq F.symm)) rfl
  ·cases A
 ·rename_i hT;rw[hT]at a2;generalize a4:a.eval i8=pv at a2;cases a2;split at A
  ·cases A;have B:ZS i4 i.size []:=rfl;obtain⟨p,hS,a8⟩:=UO h.wd a5 b8 b5 B;have f8:=Wed (str:=str) hS rfl;exact a6 (by rw[a4];exact O8 hu hi f8 (vE _)) (Ext.refl ..) (Kp.refl ..) h .ad rfl
  ·rename_i y0 yr;split at A
   ·rename_i K;obtain⟨B,a3⟩:=K;cases A;generalize L:y0::yr=q at b5 B a3;have c1:0<q.length:=by rw[<-L];simp
    obtain⟨p,hS,a8⟩:=UO h.wd a5 b8 b5 B;have c0:=(C8 B).1;have C:p.length=q.length*i.size:=hS.newsLen;have S:=Uq B;have H:=y_ c0;have b3:Builtin.nextslicecap (0+q.length) 0*i.bytes<=281474976710656:=growslice_fits Y (by rw[xr];exact a3);have k:=run_append_grow_src w t i0 j.type e i Q hu hi d5 none 0 0 [] rfl (a.eval l5) q.length p hS Y (by have:=K1 a3 d3;omega) b3;have a1:=grownCap_ge w (0+q.length) 0 e;have d0:=size_zeroCells Q.cells (grownCap w (0+q.length) 0 e-(0+q.length));obtain⟨M',J',f9,a9,g0,g1,b0⟩:=h.drew.newObj (h.wd.h' (vE _)) (([]++p).toArray++Builtin.zeroCells Q.cells (grownCap w (0+q.length) 0 e-(0+q.length))) e (0,0) ((q.flatMap V.cells).map V.ng)
     (by
      have e1:((([]++p).toArray++Builtin.zeroCells Q.cells (grownCap w (0+q.length) 0 e-(0+q.length))).toList.take ((q.flatMap V.cells).map V.ng).length)=p:=by rw[KS,show(([]++p:vB).toArray).toList=p from rfl,wq,H,<-C];exact Ul
      rw[e1];exact a8.ng) (λv _=>by unfold Qbg;simp) (ye S) EL
    have F:(([]++p).toArray++Builtin.zeroCells Q.cells (grownCap w (0+q.length) 0 e-(0+q.length))).size=grownCap w (0+q.length) 0 e*i.size:=by rw[Uh,d0,d4,Qw,xQ,C,<-I8];congr 1;omega
    rw[xr]at k a1 F;refine a6 (by rw[a4];rw[xr]at*; exact k) ((Ext.drew X M J w).trans f9) (Kp.newObj h.wd (h.wd.ig _ _) g1 _) g0 (.hg _ _ _ _ w.heap.size _ _ a9 b0 a1 (by rw[<-F];simp)) rfl
   ·cases A
 ·cases A
end
def Wep:Ins->Bool
 | .call .. | .dR .. | .dS .. | .cw .. => true
 |_=>false
section
variable{P:Program}{M:vn}{J:bk}{X:Nat->Prop}{D:cY}{w:World}{U:uZ}{I:hN}{G:GV}{a:Act}
def JB(h:St M J X D w a.tmps.toList U I)(e:dJ G M J){i:Ins}(o:w9 P j.op i)(c:∀y,i≠.conv .bz y)(d:(do let g <-Cs (arg G U) I i;some (g.ng,I))=some (g,f)):wc P a j M J X w I (put U j.dst g) f:=by simp only[u7,vh,vU,A9g]at d;obtain⟨x,v,rfl,rfl⟩:=d;have⟨u,b,I'⟩:=Qzc h.wd (fN.bl h.bC e) o c v;exact v7 b (h.be I'.ng (w7 _ _) _)
def Weq(h:St M J X D w a.tmps.toList U I)(v:dJ G M J){y:Arg}(I':w9 P j.op (.gD y d))(c:(do let g <-eX d (arg G U y);some (g.aI,I))=some (g,f)):wc P a j M J X w I (put U j.dst g) f:=by simp only[u7,vh,vU,A9g]at c;obtain⟨x,o,rfl,rfl⟩:=c;have⟨u,b,i⟩:=Qzc h.wd (fN.bl h.bC v) I' (λy e=>by cases e) o;exact v7 b (h.be i.aI (Wd0 _ _) _)
def Qzf(h:St M J X D w a.tmps.toList U I)(E:dJ G M J){s:Step}(hd:j.dst=s.dst)(d:w9 P j.op s.ins)(hn:Wep s.ins=false){call:FuncId->uZ->hN->R6}(he:j_ G call s U I=some (e,f)):wc P a j M J X w I e f:=by
 obtain⟨m,gd,i⟩:=s;simp only at hd d hn;subst hd;unfold j_ at he;simp only[u7,vh]at he;obtain⟨⟨v,I2⟩,l,he⟩:=he;simp only[vU,A9g]at he;obtain⟨rfl,rfl⟩:=he;cases i<;>(try (exact JB h E d (λy U'=>by cases U') l))
 case gD=>exact Weq h E d l
 case call=>cases hn
 case dR=>cases hn
 case dS=>cases hn
 case cw=>cases hn
 case gZ=>
  obtain⟨m,u,g,A,o,guard⟩:=j;simp only at d;cases u<;>(try (cases d;done));rename_i t r;simp only[Qa4,vU,A9g]at l;obtain⟨rfl,rfl⟩:=l;refine Wem h rfl ?_;cases r with
  |none=>exact .inl rfl
  |some x=>
   cases x<;>(try (cases d;done));rename_i v;cases v<;>(try (cases d;done));simp only[w9]at d;split at d
   ·rename_i kt U' R;exact .inr ⟨_,_,_,_,rfl,R⟩
   ·cases d
 case uT kk m' k' x'=>
  obtain⟨m,u,g,A,o,guard⟩:=j;simp only at d;cases u<;>(try (cases d;done))
  all_goals
   simp only[w9,vc]at d;obtain⟨⟨⟨H,Q⟩,B⟩,h4⟩:=d;split at H
   ·rename_i kt U' R
    first
     |exact Jy h E (.inl rfl) R H Q B h4 l
     |exact Jy h E (.inr rfl) R H Q B h4 l
   ·cases H
 case kN y=>
  obtain⟨m,u,g,A,o,guard⟩:=j;simp only at d;cases u<;>(try (cases d;done));simp only[w9,vc]at d;simp only[Qa4]at l;split at l
  ·rename_i s hy;cases l;exact Wkl h E rfl (GZ d.1) d.2 hy
  ·cases l
 case kH y=>
  obtain⟨m,u,g,A,o,guard⟩:=j;simp only at d;cases u<;>(try (cases d;done));rename_i x b;cases b
  ·cases d
  ·exact Wkm h E rfl d l
 case lA str sz x' y'=>
  obtain⟨m,u,g,A,o,guard⟩:=j;simp only at d;cases u<;>(try (cases d;done));rename_i c;obtain⟨n,C,I'⟩:=c;cases n<;>(try (cases d;done));rename_i b;cases b<;>(try (cases d;done));simp only[w9,vc]at d;obtain⟨H,B⟩:=d;obtain⟨p,q,K,S,hq⟩:=Xr H;split at B
  ·rename_i t tx L;have N:I'=#[t,tx]:=by apply AU;simpa using L
   have O:C=#[p,q]:=by apply AU;simpa using K
   subst N O;split at B
   ·rename_i U' R;simp only[vc,A9f]at B;exact Wkn h E rfl R B.1.1 B.2 S hq l
   ·cases B
  ·cases B
 case lb sz z x'=>
  obtain⟨m,u,g,A,o,guard⟩:=j;simp only at d;cases u<;>(try (cases d;done));rename_i c;obtain⟨n,C,I'⟩:=c;cases n<;>(try (cases d;done));rename_i b;cases b<;>(try (cases d;done));simp only[w9,vc]at d;obtain⟨H,B⟩:=d;obtain⟨p,K,S⟩:=Qhn H;split at B
  ·rename_i t L;have N:I'=#[t]:=by apply AU;simpa using L
   have O:C=#[p]:=by apply AU;simpa using K
   subst N O;split at B
   ·rename_i U' R;simp only[vc,A9f]at B;exact Wko h E rfl R B.1.1 B.1.2 B.2 S l
   ·cases B
  ·cases B
 case gE str ag sz bytes x' y'=>
  obtain⟨m,u,g,A,o,guard⟩:=j;simp only at d;cases u<;>(try (cases d;done));rename_i c;obtain⟨n,C,I'⟩:=c;cases n<;>(try (cases d;done));rename_i b;cases b<;>(try (cases d;done));simp only[w9,vc]at d;obtain⟨⟨H,Q⟩,B⟩:=d;obtain⟨p,q,K,S,hq⟩:=Xr H;split at B
  ·rename_i t tx L;have N:I'=#[t,tx]:=by apply AU;simpa using L
   have O:C=#[p,q]:=by apply AU;simpa using K
   subst N O;exact Weo h E rfl S hq Q B l
  ·cases B
 case jU=>cases d
 case mv y tk=>
  obtain⟨m,u,g,A,o,guard⟩:=j;simp only[Qa4,vU,A9g]at l;obtain⟨rfl,rfl⟩:=l;simp only at d;cases u<;>(try (cases d;done))
  all_goals
   simp only[w9,vc]at d
   first
    |exact Weh h E (.inl rfl) d.1 d.2
    |exact Weh h E (.inr rfl) d.1 d.2
 case alloc z=>
  obtain⟨m,u,g,A,o,guard⟩:=j;simp only at d;cases u<;>(try (cases d;done));simp only[w9]at d;split at d
  ·rename_i zv V;simp only[Qa4]at l;split at l
   ·cases l;exact Wcu h rfl V d
   ·cases l
  ·cases d
 case box y=>
  obtain⟨m,u,g,A,o,guard⟩:=j;simp only at d;cases u<;>(try (cases d;done));simp only[w9]at d;simp only[Qa4]at l;split at l
  ·cases l;exact Wkk h E rfl d (by assumption)
  ·cases l
 case aw ag sz len z qs hh=>
  obtain⟨m,u,g,A,o,guard⟩:=j;simp only at d;cases u<;>(try (cases d;done));simp only[w9]at d;split at d
  ·rename_i U' hE;simp only[vc,zH,w4,A9f]at d;obtain⟨⟨⟨⟨rfl,V⟩,F⟩,a0⟩,a1⟩:=d;exact Js h E rfl hE V F a0 a1 l
  ·cases d
 case d_ ag sz len z qs=>
  obtain⟨m,u,g,A,o,guard⟩:=j;simp only at d;cases u<;>(try (cases d;done));simp only[w9]at d;split at d
  ·rename_i U' hE;simp only[vc,zH,w4,A9f]at d;obtain⟨⟨⟨⟨rfl,V⟩,F⟩,a0⟩,a1⟩:=d;exact V4 h E rfl hE V F a0 a1 l
  ·cases d
 case mark y=>
  obtain⟨m,u,g,A,o,guard⟩:=j;simp only at d;cases u<;>(try (cases d;done));simp only[w9,vc,w4]at d;obtain⟨⟨⟨rfl,hs⟩,hx⟩,ht⟩:=d;split at hs
  ·rename_i U' a2;exact Wej h E rfl a2 (Jb hs) hx ht l
  ·cases hs
 case loadT y=>obtain⟨m,u,g,A,o,guard⟩:=j;simp only at d;cases u<;>(try (cases d;done));simp only[w9,vc]at d;simp only[Qa4,u7]at l;refine Wct h E rfl d.1 d.2 (Eq.trans ?_ l);cases arg G U y<;>rfl
 case store sz p' y tk=>obtain⟨m,u,g,A,o,guard⟩:=j;simp only at d;cases u<;>(try (cases d;done));simp only[w9,vc,A9f]at d;exact Wcs h E rfl d.1.1.1 d.1.1.2 d.1.2 d.2 l
 case app str ag sz bytes x' y' tk=>
  obtain⟨m,u,g,A,o,guard⟩:=j;simp only at d;cases u<;>(try (cases d;done));rename_i c;obtain⟨n,C,I'⟩:=c;cases n<;>(try (cases d;done));rename_i b;cases b<;>(try (cases d;done));simp only[w9,vc]at d;obtain⟨⟨H,Q⟩,B⟩:=d;obtain⟨p,q,K,S,hq⟩:=Xr H;split at B
  ·rename_i t tx L;have N:I'=#[t,tx]:=by apply AU;simpa using L
   have O:C=#[p,q]:=by apply AU;simpa using K
   subst N O;simp only[Qa4,u7,vh,vU,A9g]at l;obtain⟨ys,a3,v',hv,rfl,rfl⟩:=l;exact Wkj h E rfl S hq Q B a3 hv
  ·cases B
 case conv k y=>
  by_cases hk:k=.bz
  ·subst hk;obtain⟨m,u,g,A,o,guard⟩:=j;simp only at d;cases u<;>(try (cases d;done));simp only[w9,vc]at d;obtain⟨H,Q⟩:=d;split at Q<;>(try (cases Q;done))<;>(try (rename_i hk _ _;cases hk;done));rename_i hs hd;simp only[Qa4,u7,vh,vU,A9g]at l;obtain⟨v',hv,rfl,rfl⟩:=l;exact W9 h E rfl hs hd (Jb Q) H hv
  ·refine JB h E d (λy' U'=>hk (by cases U';rfl)) (?_:_=some (v,I2));rw[<-l];cases k<;>first|rfl|exact absurd rfl hk
 case ey y=>
  obtain⟨m,u,g,A,o,guard⟩:=j;simp only at d;cases u<;>(try (cases d;done));simp only[w9,vc]at d;obtain⟨H,Q⟩:=d;split at Q
  ·rename_i hs hd;simp only[Qa4]at l;split at l
   ·rename_i bs hy;cases l;exact KG h E rfl hs hd (Jb Q) H hy
   ·cases l
  ·cases Q
 case da ag sz bytes z l' c' hh=>
  obtain⟨m,u,g,A,o,guard⟩:=j;simp only at d;cases u<;>(try (cases d;done));simp only[w9]at d;split at d
  ·rename_i U' hE;simp only[vc,A9f]at d;obtain⟨⟨⟨⟨⟨⟨V,a4⟩,F⟩,a5⟩,a6⟩,hl⟩,a7⟩:=d;exact Wo h E rfl hE V a4 F a5 a6 hl a7 l
  ·cases d
end
def lE(P:Program)(f:FuncId)(vs:wk)(w:World)(R:Value->World->Prop):Prop:=
 ((callFunc f vs).run P w=.ok (.enter f vs) w/\Calls P f vs w (λe a=>∃v,e=.returned v/\R v a))\/∃v a,(callFunc f vs).run P w=.ok (.value v) a/\R v a
def bL(P:Program)(G:GV)(f:FuncId)(h:uZ->hN->R6):Prop:=
 ∀a I r b,h a I=some (r,b)->∀M J X D w (e:wk),St M J X D w e.toList a I->dJ G M J->
  lE P f e w λv c=>∃g d i,(Ext X M J w g d c/\Kp J w I d c b)/\St g d X i c [v] [r] b
variable{i:FuncId}{m:World}{p:vn}{i5:cY}{j0:Exit->Act->World->Prop}
section
variable{P:Program}{M:vn}{J:bk}{X:Nat->Prop}{D:cY}{w:World}{us:vB}{U:uZ}{I:hN}{G:GV}{a:Act}
def aB.nu{v:Value}(h:aB M J v (.fn i e K)):∃ars bs,v=.func (.func i) ars bs/\aq M J ars.toList e/\aq M J bs.toList K:=by
 cases h with
 |fn _ ars bs _ _ g j b c=>exact⟨ars,bs,rfl,⟨by simpa using g,λf u y d first=>b f u y (by simpa using d) first⟩,⟨by simpa using j,λf u y d first=>c f u y (by simpa using d) first⟩⟩
def EO(X:Nat->Prop)(D:cY)(b:Nat):Prop:=X b\/∃n,D b=some (.s n)
def IE(D:cY):cY:=λb=>match D b with|some (.c o i)=>some (.c o i)|_=>none
def PU{b:Nat}{p:Pl}(h:IE i5 b=W p):∃o i,p=.c o i/\i5 b=W (.c o i):=by
 unfold IE at h;split at h
 ·cases h;exact⟨_,_,rfl,‹_›⟩
 ·cases h
def St.callee(h:St M J X D w us U I)(k:aq M J r e)(xs:∀x∈e,∀v,aJ v x=none):St M J (EO X D) (IE D) w r e I:=by
 have a:∀(i:Nat) v x,e[i]?=W x->aJ v x=none:=λi v x f=>xs x (Ah f) v;refine⟨⟨h.wd.mem,h.wd.obj,h.wd.dv,h.wd.inj,λb d => ?_,λo b j d => ?_,λb p l => ?_,h.wd.gg⟩,k,λp v x b g d => ?_,λp v x g => ?_⟩
 ·rcases d with d|⟨n,xs⟩
  ·exact h.wd.ef b d
  ·exact(h.wd.dC b _ xs).2.2
 ·rcases d with d|⟨n,xs⟩
  ·exact h.wd.cV o b j d
  ·exact(h.wd.dC b _ xs).2.1 o j
 ·obtain⟨o,i,rfl,c⟩:=PU l;have⟨m,q,vs⟩:=h.wd.dC b _ c;refine⟨λf => ?_,q,vs⟩;rcases f with f|⟨n,xs⟩
  ·exact m f
  ·rw[c]at xs;cases xs
 ·cases p with
  |s i=>rw[a i v x g.2]at d;cases d
  |c o i=>have:=h.own (.c o i) v x b g d;unfold IE;rw[this]
 ·cases p with
  |s i=>exact .du (a i v x g.2)
  |c o i=>exact h.gr (.c o i) v x g
def St.behind(h:St M J X D w us U I){E:bk}{v:Value}(F:Ext (EO X D) M J w p E m)(a:St p E (EO X D) i5 m [v] [g] f)(d:AQ):
  ∃C,Ext X M J w p E m/\St p E X C m (fR us d v) (put U d g) f:=by
 have H:aB p E v g:=a.bC.2 0 v g rfl rfl
 let C:cY:=λb=>match D b with
  |some (.s n)=>W (.s n)
  |_=>match i5 b with
   |some (.c o i)=>W (.c o i)
   |some (.s _)=>d.map Pl.s
   |none=>none
 have R:∀b n,D b=W (.s n)->C b=W (.s n):=λb n e=>by show(match D b with|some (.s n)=>_|_=>_)=_;rw[e]
 have K:∀b,(∀n,D b≠W (.s n))->C b=match i5 b with
   |some (.c o i)=>W (.c o i)
   |some (.s _)=>d.map Pl.s
   |none=>none:=λb e=>by
  simp only[C]
 have t:∀b D',i5 b=W D'->∀n,D b≠W (.s n):=λb D' e n y=>(a.wd.dC b D' e).1 (.inr ⟨n,y⟩);have z:∀(i:Nat) u x,us[i]?=W u->U[i]?=W x->dL p m u x:=λi u x B w'=>by
  cases k:aJ u x with
  |none=>exact .du k
  |some b=>
   have q:At J w us U I (.s i) u x:=⟨B,w'⟩
   have I':=h.own _ _ _ _ q k;have G:EO X D b:=.inr ⟨i,I'⟩;refine⟨λS j s P L N Q => ?_⟩;have⟨g1,g2,ws,T9,fz,g3,g4⟩:=(h.gr _ _ _ q).ok S j s P L N Q;have c:P.block=b:=by subst s Q;simp only[aJ,vU]at k;exact k
   exact⟨g1,λj q=>by rw[c,F.mX b j G,<-c];exact g2 j q,ws,T9,fz,by rw[c,F.cG b G,<-c];exact g3,g4⟩
 have l:∀(i:Nat) u x,(fR us d v)[i]?=W u->(put U d g)[i]?=W x->(d=W i/\u=v/\x=g)\/(us[i]?=W u/\U[i]?=W x):=by
  intro i u x B w';cases d with
  |none=>exact .inr ⟨B,w'⟩
  |some d=>
   simp only[fR,put,AZ]at B w';by_cases c:d=i
   ·subst c;rw[A9a rfl]at B w';split at B
    ·split at w'
     ·cases B;cases w';exact .inl ⟨rfl,rfl,rfl⟩
     ·cases w'
    ·cases B
   ·rw[O3 c]at B w';exact .inr ⟨B,w'⟩
 refine⟨C,F.less λb k=>.inl k,⟨⟨a.wd.mem,a.wd.obj,a.wd.dv,a.wd.inj,λb k=>a.wd.ef b (.inl k),λo b c k=>a.wd.cV o b c (.inl k),λb D' O => ?_,a.wd.gg⟩,?_,λD' u x b A k => ?_,λD' u x A => ?_⟩⟩
 ·by_cases y:∃n,D b=W (.s n)
  ·obtain⟨n,y⟩:=y;have G:EO X D b:=.inr ⟨n,y⟩;exact⟨(h.wd.dC b _ y).1,λo c=>a.wd.cV o b c G,a.wd.ef b G⟩
  ·rw[K b (λn e=>y ⟨n,e⟩)]at O;cases I':i5 b with
   |none=>rw[I']at O;cases O
   |some q=>have⟨c,j,s⟩:=a.wd.dC b q I';exact⟨λw'=>c (.inl w'),j,s⟩
 ·have:=h.bC.mono F.m F.i;cases d with
  |none=>exact this
  |some d=>exact this.set H d
 ·cases D' with
  |c o i=>have I':i5 b=W (.c o i):=a.own (.c o i) u x b A k;rw[K b (t b _ I'),I']
  |s i=>
   rcases l i u x A.1 A.2 with ⟨rfl,rfl,rfl⟩|⟨B,w'⟩
   ·have I':i5 b=W (.s 0):=a.own (.s 0) u x b ⟨rfl,rfl⟩ k;rw[K b (t b _ I'),I'];rfl
   ·exact R b i (h.own (.s i) u x b ⟨B,w'⟩ k)
 ·cases D' with
  |c o i=>exact a.gr (.c o i) u x A
  |s i=>
   rcases l i u x A.1 A.2 with ⟨rfl,rfl,rfl⟩|⟨B,w'⟩
   ·exact a.gr (.s 0) u x ⟨rfl,rfl⟩
   ·exact z i u x B w'
theorem E':∀ {xs:List Operand} {a:List Arg},VQ xs a->∀ {j:Nat} {y:Arg},a[j]?=W y->∃p,xs[j]?=W p/\Qar p y
 |[],[],_,j,y,b=>by simp at b
 |x::xs,z::a,h,j,y,b=>by
  simp only[VQ,vc]at h;cases j with
  |zero=>simp at b;subst b;exact⟨x,rfl,h.1⟩
  |succ j=>simpa using E' h.2 (j:=j) (by simpa using b)
 |[],_::_,h,_,_,_=>by simp[VQ]at h
 |_::_,[],h,_,_,_=>by simp[VQ]at h
def Wc(h:St M J X D w a.tmps.toList U I)(hG:dJ G M J){s:Step}(hd:j.dst=s.dst)(B:w9 P j.op s.ins){call:FuncId->uZ->hN->R6}(hS:∀I',bL P G I' (call I'))(he:j_ G call s U I=some (e,f)){next:Act->World->Prop}(hn:∀v w' M' O D',Ext X M J w M' O w'->Kp J w I O w' f->St M' O X D' w' (a.put j.dst v).tmps.toList e f->next (a.put j.dst v) w'):j.wp P a w next j0:=by
 cases K:Wep s.ins with
 |false=>
  obtain⟨nx,v,w',M',O,D',b,c5,⟨d,hk,_⟩,R⟩:=Qzf h hG hd B K he;rw[<-ZN]at R;unfold Oper.wp;rw[b];rcases c5 with rfl|⟨rfl,rfl⟩
  ·exact hn v w' M' O D' d hk R
  ·exact hn undef w' M' O D' d hk R
 |true=>
  have hA:=fN.bl h.bC hG;have F:∀(I':FuncId) (N:wk) (xs:uZ) (r:V) (D1 b1:cY) (U1:uZ),(execOp a.eval j).run P w=(callFunc I' N).run P w->St M J X D1 w a.tmps.toList U1 I->St M J (EO X D1) b1 w N.toList xs I->call I' xs I=some (r,f)->e=put U1 s.dst r->j.wp P a w next j0:=by
   intro I' N xs r D1 b1 U1 b c6 c7 b3 H;have:=hS I' xs I r f b3 M J _ _ w N c7 hG;unfold Oper.wp;rw[b];have done:∀v w',(∃M' O D',(Ext (EO X D1) M J w M' O w'/\Kp J w I O w' f)/\St M' O (EO X D1) D' w' [v] [r] f)->next (a.put j.dst v) w':=by intro v w' ⟨M',O,D',⟨d,hk⟩,R⟩;obtain⟨D3,c8,L⟩:=c6.behind d R j.dst;rw[<-ZN]at L;rw[hd]at L ⊢;rw[<-H]at L;exact hn v w' M' O D3 c8 hk (by rw[hd];exact L) |> λq=>by rw[hd]at q;exact q
   rcases this with ⟨h1,h2⟩|⟨v,w',h1,h2⟩
   ·rw[h1];exact Calls.mono h2 λo w' ⟨v,he,hR⟩=>by subst he;exact done v w' hR
   ·rw[h1];exact done v w' h2
  have a4:∀(I':FuncId) (N:wk) (xs:uZ) (r:V),(execOp a.eval j).run P w=(callFunc I' N).run P w->aq M J N.toList xs->(∀x∈xs,x.ng=x)->call I' xs I=some (r,f)->e=put U s.dst r->j.wp P a w next j0:=
   λI' N xs r b hr S b3 H=>F I' N xs r D _ U b h (h.callee hr λx d v=>by rw[<-S x d];exact w7 _ _) b3 H
  obtain⟨d8,gd,i⟩:=s;obtain⟨a9,op,b0,b7,a0,guard⟩:=j;simp only at hd B K;subst hd;unfold j_ at he;simp only[u7,vh]at he;obtain⟨⟨v,I2⟩,l,he⟩:=he;simp only[vU,A9g]at he;obtain⟨rfl,rfl⟩:=he;cases i<;>(try (cases K;done))
  case call I' ys=>
   cases op<;>(try (cases B;done));rename_i c;obtain⟨callee,args,argTypes⟩:=c;cases callee<;>(try (cases B;done));rename_i fv;cases fv<;>(try (cases B;done));rename_i g;simp only[w9,vc,w4]at B;obtain⟨rfl,a5⟩:=B;simp only[Qa4]at l;refine a4 I' (args.map a.eval) (ys.map (arg G U)) v ?_ (by rw[OU];exact hA.args a5) (λx d => ?_) l rfl
   ·simp only[execOp,resolve,Deferred.ofValue,invoke,vl,Act.eval];simp[vF,Result.andThen]
   ·obtain⟨y,_,rfl⟩:=wa.1 d;exact V.ck _
  case dR y ys=>
   cases op<;>(try (cases B;done));rename_i c;obtain⟨callee,args,argTypes⟩:=c;cases callee<;>(try (cases B;done));rename_i fv;simp only[w9,vc]at B;simp only[Qa4]at l;split at l
   ·rename_i I' first b8 hy
    have hv:=hA.ok _ _ B.1;rw[hy]at hv;obtain⟨c9,bs,d0,d1,d2⟩:=hv.nu;refine a4 I' ((c9++args.map a.eval)++bs) (((first++ys.map (arg G U))++b8).map V.ng) v ?_ ?_ (λx d => ?_) l rfl
    ·simp only[execOp,resolve,d0,Deferred.ofValue,invoke,vl];simp[vF,Result.andThen]
    ·simp only[KS,OU];exact((d1.append (hA.args B.2)).append d2).ng
    ·obtain⟨y,_,rfl⟩:=wa.1 d;exact V.ck _
   ·cases l
  case dS y ms ys=>
   cases op<;>(try (cases B;done));rename_i c;obtain⟨callee,args,argTypes⟩:=c;cases callee<;>(try (cases B;done));rename_i xo name;simp only[w9,vc,AI]at B;obtain⟨⟨C,b9⟩,c0⟩:=B;simp only[Qa4]at l;split at l
   ·rename_i t y0 hy;have hv:=hA.ok _ _ C;rw[hy]at hv;generalize d3:a.eval xo=d9 at hv;cases hv with
    |bE _ v0 _ c1=>
    have a1:∀I' u,(method (P.types.size+Made.depth) t v0 name).run P w=.ok (I',u) w->(execOp a.eval ⟨a9,.call {callee:=.invoke xo name,args:=args,argTypes:=argTypes},b0,b7,a0,guard⟩).run P w=(callFunc I' (#[u]++args.map a.eval)).run P w:=by
     intro I' u hm;have h0(x:Value)(A:wk):(#[x]++A)[0]?=some x:=by simp[Array.getElem?_append]
     have h1(x:Value)(A:wk):(#[x]++A).extract 1 (#[x]++A).size=A:=by apply AU;simp[Qs]
     have c2:((do
      let p <-Sem.program Sem.pure
      method (p.types.size+Made.depth) t v0 name):Sem (FuncId×Value)).run P w=.ok (I',u) w:=hm
     simp only[execOp,resolve,d3,invoke,vl,vF,Result.andThen,h0,h1,callMethod,program];simp only[vl]at c2;simp only[Sem.run,Result.andThen]at c2 ⊢;rw[hm]
    split at l
    ·rename_i t' I' hf;have ht:t'=t:=by simpa using List.find?_some hf
     subst ht;have a2:=c0 _ (Xb hf);refine a4 I' (#[v0]++args.map a.eval) (y0.ng::ys.map (arg G U)) v (a1 I' v0 (Wcr a2 v0)) ?_ (λx d => ?_) l rfl
     ·simp only[KS,OU];exact aq.cons c1.ng (hA.args b9)
     ·rcases vZ.1 d with rfl|d
      ·exact V.ck _
      ·obtain⟨y,_,rfl⟩:=wa.1 d;exact V.ck _
    ·rename_i t' I' a6 sz hf;have ht:t'=t:=by simpa using List.find?_some hf
     subst ht;have a2:=c0 _ (Xb hf);simp only[u7,vh]at l;obtain⟨z,hz,l⟩:=l;unfold P7 at hz;cases y0<;>(try (cases hz;done));rename_i cs;cases c1 with
     |agg N _ hl d4=>
     have hr:=aB.cc.1 (.agg N cs hl d4);unfold Ev.part at hz;simp only[A9c]at hz;split at hz
     ·rename_i e0;cases hz;refine a4 I' (#[.agg (N.extract a6 (a6+sz))]++args.map a.eval) (.agg (((cs.drop a6).take sz).map V.ng)::ys.map (arg G U)) v (a1 I' _ (Qwm a2 N)) ?_ (λx d => ?_) l rfl
      ·simp only[KS,OU];refine aq.cons (aB.cc.2 ?_) (hA.args b9);have:=((hr.drop a6).take sz).ng;rw[Uc,Qs];simpa using this
      ·rcases vZ.1 d with rfl|d
       ·rfl
       ·obtain⟨y,_,rfl⟩:=wa.1 d;exact V.ck _
     ·cases hz
    ·cases l
   ·cases l
  case cw I' ys Q=>
   cases op<;>(try (cases B;done));rename_i c;obtain⟨callee,args,argTypes⟩:=c;cases callee<;>(try (cases B;done));rename_i fv;cases fv<;>(try (cases B;done));rename_i g;simp only[w9,vc,w4]at B;obtain⟨⟨rfl,a5⟩,b4⟩:=B;split at b4
   case h_2=>cases b4
   rename_i yj a3;obtain⟨n,rfl⟩:=Qoc b4;have b:(execOp a.eval ⟨a9,.call {callee:=.value (.func I'),args:=args,argTypes:=argTypes},b0,b7,a0,guard⟩).run P w=(callFunc I' (args.map a.eval)).run P w:=by simp only[execOp,resolve,Deferred.ofValue,invoke,vl,Act.eval];simp[vF,Result.andThen]
   simp only[Qa4]at l;have hR:aq M J (args.map a.eval).toList (ys.map (arg G U)):=by rw[OU];exact hA.args a5
   have d5:cD G U (.t n)=U.getD n .undef:=rfl;have a7:bM U (Ins.cw I' ys Q).cj.1 (Ins.cw I' ys Q).cj.2=U.set n (U.getD n .undef).ng:=by show bM U (ys.getD Q (.c .undef)) true=_;rw[y9,a3];rfl
   have c3:(ys.zipIdx.map λp=>if p.2=Q then cD G U p.1 else arg G U p.1)=(ys.map (arg G U)).set Q (U.getD n .undef):=by
    apply Hk;intro k;rw[ym,List.getElem?_zipIdx,AZ];by_cases hk:Q=k
    ·subst hk;rw[A9a rfl,A9a (by simpa using(wy.1 a3).1),a3];simp[d5]
    ·rw[O3 hk,ym];cases ys[k]? with
     |none=>rfl
     |some y=>simp[show ¬k=Q from λo=>hk o.symm]
   rw[c3]at l;have E:(args.map a.eval).toList[Q]?=some (a.tmps.toList.getD n Go.undef):=by obtain⟨u,hu,_⟩:=hR.get (c:=arg G U (.t n)) (by rw[ym,a3];rfl);have a2:∃p,args.toList[Q]?=some p/\Qar p (.t n):=E' a5 a3;obtain⟨p,hp,d6⟩:=a2;rw[Qky d6]at hp;rw[OU,ym,hp];simp only[A0];rw[Jz]
   have S:∀x∈ys.map (arg G U),∀v,aJ v x=none:=λx d v=>by obtain⟨y,_,rfl⟩:=wa.1 d;exact w7 _ _
   rw[a7]at F;by_cases hn:n<U.length
   ·have d7:n<a.tmps.toList.length:=by rw[h.bC.1];exact hn
    have hv:a.tmps.toList[n]?=some (a.tmps.toList[n]):=vO d7;have H:U[n]?=some U[n]:=vO hn;have e1:U.getD n .undef=U[n]:=by simp[List.getD,H]
    have e2:a.tmps.toList.getD n Go.undef=a.tmps.toList[n]:=by simp only[List.getD,hv,Cr]
    rw[e1]at l F;rw[e2]at E;have a8:(args.map a.eval).toList.set Q (a.tmps.toList[n])=(args.map a.eval).toList:=Qkr E;cases b5:aJ (a.tmps.toList[n]) U[n]with
    |none=>have b6:=h.dy n;rw[e1]at b6;have C:=(b6.callee hR S).eA (h.bC.2 n _ _ hv H) b5 Q;rw[a8]at C;exact F I' (args.map a.eval) _ v D _ _ b b6 C l rfl
    |some bb=>
     obtain⟨D1,c4,hf,hg⟩:=h.gh hv H b5;obtain⟨b1,C⟩:=(c4.callee hR S).jx (h.bC.2 n _ _ hv H) b5 ⟨by unfold IE;rw[hf.k],(λd=>by
      rcases d with d|⟨m,hm⟩
      ·exact hf.x d
      ·rw[hf.k]at hm;cases hm),hf.i,hf.lt⟩ hg Q
     rw[a8]at C;exact F I' (args.map a.eval) _ v D1 _ _ b c4 C l rfl
   ·have e1:U.getD n .undef=.undef:=by simp[List.getD,B0 (AT.1 hn)]
    rw[e1]at l F;rw[Xc (AT.1 hn)]at F;have e2:a.tmps.toList.getD n Go.undef=Go.undef:=by
     have:¬n<a.tmps.toList.length:=by rw[h.bC.1];exact hn
     simp[List.getD,B0 (AT.1 this)]
    rw[e2]at E;have a8:(args.map a.eval).toList.set Q Go.undef=(args.map a.eval).toList:=Qkr E;have C:=(h.callee hR S).eA (v:=Go.undef) (x:=.undef) .undef rfl Q;rw[a8]at C;exact F I' (args.map a.eval) _ v D _ _ b h C l rfl
end
def Wkp(a:Array Oper):Option (Nat×Bool)->Option (Nat×Bool)->Bool
 |none,none=>true
 |some (g,b),some (t,c)=>b==c&&((a[g]?).bind (·.dst))==some t
 |_,_=>false
def Qgq(P:Program)(a:Array Oper)(o:Oper)(s:Step):Bool:=o.dst==s.dst&&w9 P o.op s.ins&&Wkp a o.guard s.gd
def OJ(P:Program)(a:Array Oper):List Oper->List Step->Bool
 |[],[]=>true
 |o::b,s::c=>Qgq P a o s&&OJ P a b c
 |_,_=>false
def jo(a:Act)(M:vn)(J:bk)(X:Nat->Prop)(w:World)(I:hN)(U':uZ)(I':hN)(c:Act)(w':World):Prop:=
 c.defers=a.defers/\∃d b e,Ext X M J w d b w'/\Kp J w I b w' I'/\St d b X e w' c.tmps.toList U' I'
variable{i1:Act->World->Prop}{i6:Value}
section
variable{P:Program}{M:vn}{J:bk}{X:Nat->Prop}{D:cY}{w:World}{us:vB}{U:uZ}{I:hN}{G:GV}{a:Act}{z:Array Oper}{Q:Exit->Act->World->Prop}
def ZQ(v:Value):(w2.put k5 v).defers=w2.defers:=by cases k5<;>rfl
def aB.kj(h:aB M J i6 .undef):i6=Go.undef:=by cases h;rfl
def Qof(h:aq M J i3.toList U){gd:Option (Nat×Bool)}{b:Bool}(e:Wkp z j.guard gd)(c:wanted U gd=W b):Region.wanted j (yielded z i3)=b:=by
 unfold Region.wanted;cases k:j.guard with
 |none=>
  rw[k]at e;cases gd with
  |none=>simp only[wanted,vU]at c;exact c
  |some _=>cases e
 |some p=>
  obtain⟨g,f⟩:=p;rw[k]at e;cases gd with
  |none=>cases e
  |some q=>
   obtain⟨t,r⟩:=q;simp only[Wkp,vc,w4]at e;obtain⟨rfl,m⟩:=e;have i:=Qks h t;simp only[wanted]at c;unfold yielded;simp only[m,va];split at c
   ·rename_i l n;rw[n]at i;have d:=i.cA;have:i3[t]?=W (.bool l):=by
     rw[List.getD]at d;cases a:i3.toList[t]? with
     |none=>rw[a]at d;simp only[JK]at d;cases d
     |some u=>rw[a]at d;simp only[Cr]at d;subst d;simpa using a
    rw[this];cases c;cases l<;>cases f<;>rfl
   ·rename_i l;rw[l]at i;have d:=i.kj;have:i3[t]?=W undef\/i3[t]?=none:=by
     rw[List.getD]at d;cases a:i3.toList[t]? with
     |none=>right;simpa using a
     |some u=>rw[a]at d;simp only[Cr]at d;subst d;left;simpa using a
    cases c;rcases this with h|h<;>rw[h]<;>rfl
   ·cases c
def Wer(h:St M J X D w a.tmps.toList U I)(m:dJ G M J){s:Step}(n:z[d]?=W j)(g:Qgq P z j s)(p:∀i,bL P G i (m0 i))(U':Zx G m0 s U I=W (e,f))(c:∀k w',jo a M J X w I e f k w'->i1 k w'):wpOp P z Q d i1 a w:=by
 simp only[Qgq,vc,w4]at g;obtain⟨⟨l,q⟩,r⟩:=g;unfold Zx at U';simp only[u7,vh]at U';obtain⟨b,t,U'⟩:=U';have u:=Qof h.bC r t;unfold wpOp;simp only[n,u];cases b with
 |true=>simp only[A9c]at U' ⊢;exact .inl (Wc h m l q p U' λv w' x y A B C I'=>c _ _ ⟨ZQ _ _ _,x,y,A,B,C,I'⟩)
 |false=>simp only[vD,A9d,vU,A9g]at U' ⊢;obtain⟨rfl,rfl⟩:=U';refine c _ _ ⟨ZQ _ _ _,M,J,D,Ext.refl ..,Kp.refl ..,?_⟩;rw[ZN,<-l];exact h.be .undef rfl _
def jo.trans{a n b:Act}{w' c:World}{d:uZ}{I' e:hN}{o:vn}{f:bk}(q:n.defers=a.defers)(p:Ext X M J w o f w')(r:Kp J w I f w' I')(h:jo n o f X w' I' d e b c):
  jo a M J X w I d e b c:=by
 obtain⟨g,i,j,k,l,m,s⟩:=h;exact⟨g.trans q,i,j,k,p.trans l,r.trans p.i m,s⟩
theorem Qzg{c:FuncId->uZ->hN->R6}(n:∀f,bL P G f (c f)):∀(os:List Oper) (d:List Step) (i:Nat) (M:vn) (J:bk) (D:cY) (w:World) (a:Act) (U:uZ) (I:hN) (U':uZ) (I':hN),
  St M J X D w a.tmps.toList U I->dJ G M J->z.toList.drop i=os->OJ P z os d->zq G c d U I=W (U',I')->(∀j w',jo a M J X w I U' I' j w'->Q .normal j w')->
  wpOps P z Q (List.range' i os.length) a w
 |[],[],i,M,J,D,w,a,U,I,U',I',h,k,b,l,e,g=>by simp only[zq,vU,A9g]at e;obtain⟨rfl,rfl⟩:=e;exact g _ _ ⟨rfl,M,J,D,Ext.refl ..,Kp.refl ..,h⟩
 |[],s::d,i,M,J,D,w,a,U,I,U',I',h,g,b,e,k,l=>by cases e
 |o::os,[],i,M,J,D,w,a,U,I,U',I',h,g,b,e,k,l=>by cases e
 |o::os,s::d,i,M,J,D,w,a,U,I,U',I',h,p,b,k,q,r=>by
  simp only[OJ,vc]at k;simp only[zq,u7,vh]at q;obtain⟨⟨t,u⟩,v,x⟩:=q;have y:z[i]?=some o:=by
   have:(z.toList.drop i)[0]?=some o:=by rw[b];rfl
   simpa using this
  have l:z.toList.drop (i+1)=os:=by have:=A9e List.tail b;simpa using this
  rw[vT,List.range'_succ,wpOps_cons];refine Wer h p y k.1 n v λj w' e => ?_;obtain⟨A,B,C,E,m,F,H⟩:=e;exact Qzg n os d (i+1) B C E w' j t u U' I' H (p.mono m.m m.i) l k.2 x λK L g=>r _ _ (jo.trans A m F g)
def Wes{b:FuncId->uZ->hN->R6}(U':∀I',bL P G I' (b I'))(h:St M J X D w a.tmps.toList U I)(g:dJ G M J){id:Nat}{c:List Step}(i:OJ P z z.toList c)(j:zq G b c U I=W (e,f))(k:∀d w',jo a M J X w I e f d w'->Q .normal d w'):(Code.region id z T).wp P Q a w:=by
 refine wp_region ?_;have:=Qzg U' z.toList c 0 M J D w a U I e f h g rfl i j k
 rwa[List.range_eq_range',<-DR]
end
def Ins.args:Ins->List Arg
 | .mv x _=>[x]
 | .pick c a b=>[c,a,b]
 | .alloc _=>[]
 | .box x=>[x]
 | .build _ e=>e.map (·.2.2)
 | .aw _ _ _ _ e _=>e.map (·.2)
 | .load _ _ x=>[x]
 | .loadT x=>[x]
 | .store _ p x _=>[p,x]
 | .dh x=>[x]
 | .bin _ _ x y=>[x,y]
 | .un _ x=>[x]
 | .conv _ x=>[x]
 | .ga x f g=>x::(f.toList++g.toList)
 | .cut _ x f g h=>x::(f.toList++g.toList++h.toList)
 | .gb _ _ _ x f g=>x::(f.toList++g.toList)
 | .cu _ x=>[x]
 | .field _ _ _ x=>[x]
 | .bT _ x i=>[x,i]
 | .fQ _ _ x i=>[x,i]
 | .idx x i=>[x,i]
 | .kL _ _ _ x i=>[x,i]
 | .fc x=>[x]
 | .len x=>[x]
 | .app _ _ _ _ x y _=>[x,y]
 | .jU _ _ _ _ x y=>[x,y]
 | .ey x=>[x]
 | .call _ d=>d
 | .dR x d=>x::d
 | .iZ _ a b=>a++b
 | .kg _ x=>[x]
 | .gD x _=>[x]
 | .da _ _ _ _ l c _=>[l,c]
 | .mm _ d=>d
 | .gZ=>[]
 | .uT _ m k x=>[m,k,x]
 | .kM _ _ m k _=>[m,k]
 | .d_ _ _ _ _ e=>e.map (·.2)
 | .mark x=>[x]
 | .no=>[]
 | .eQ _ x=>[x]
 | .cg _ _ x=>[x]
 | .dS x _ d=>x::d
 | .cw _ d _=>d
 | .kN x=>[x]
 | .kH x=>[x]
 | .lA _ _ x y=>[x,y]
 | .lb _ _ x=>[x]
 | .gE _ _ _ _ x y=>[x,y]
variable{i7:Type}
def UC{b:Type}{f g:i7->b}{o:Option i7}(h:∀x∈o.toList,f x=g x):o.map f=o.map g:=by
 cases o with
 |none=>rfl
 |some x=>simp[h x u0]
def JE{A A':Arg->V}{I:hN}{i:Ins}(h:∀x∈i.args,A x=A' x):Cs A I i=Cs A' I i:=by
 cases i
 case build z ps=>simp only[Cs];rw[Fb (f:=λp:Nat×Nat×Arg=>(p.1,p.2.1,A p.2.2)) (g:=λp=>(p.1,p.2.1,A' p.2.2)) λp d=>by rw[h p.2.2 (wa.2 ⟨p,d,rfl⟩)]]
 case ga x lo hi=>simp only[Cs];rw[h x (by simp[Ins.args]),UC (f:=A) (g:=A') λy c=>h y (by simp only[Ins.args,vZ,xf];exact .inr (.inl c)),UC (f:=A) (g:=A') λy c=>h y (by simp only[Ins.args,vZ,xf];exact .inr (.inr c))]
 case cut sz x lo hi mx=>simp only[Cs];rw[h x (by simp[Ins.args]),UC (f:=A) (g:=A') λy c=>h y (by simp only[Ins.args,vZ,xf];exact .inr (.inl (.inl c))),UC (f:=A) (g:=A') λy c=>h y (by simp only[Ins.args,vZ,xf];exact .inr (.inl (.inr c))),UC (f:=A) (g:=A') λy c=>h y (by simp only[Ins.args,vZ,xf];exact .inr (.inr c))]
 case gb n sz ag x lo hi=>simp only[Cs];rw[h x (by simp[Ins.args]),UC (f:=A) (g:=A') λy c=>h y (by simp only[Ins.args,vZ,xf];exact .inr (.inl c)),UC (f:=A) (g:=A') λy c=>h y (by simp only[Ins.args,vZ,xf];exact .inr (.inr c))]
 case iZ f a b=>simp only[Cs];rw[Fb λy c=>h y (ET _ c),Fb λy c=>h y (JG _ c)]
 case mm mx ars=>have d:ars.map A=ars.map A':=Fb λy c=>h y c;simp only[Cs,d]
 all_goals first|rfl|(simp only[Cs];simp only[Ins.args,vZ,AS,R7,forall_eq_or_imp,forall_eq]at h;simp only[h])
def V_{call:FuncId->uZ->hN->R6}{A A' T9 e:Arg->V}{I:hN}{i:Ins}(h:∀x∈i.args,A x=A' x)(k:∀x∈i.args,T9 x=e x):Qa4 call A T9 I i=Qa4 call A' e I i:=by
 have a:=JE (I:=I) h;cases i
 case aw ag sz len z ps hh=>simp only[Qa4];rw[Fb (f:=λp:Nat×Arg=>(p.1,A p.2)) (g:=λp=>(p.1,A' p.2)) λp a=>by rw[h p.2 (wa.2 ⟨p,a,rfl⟩)]]
 case d_ ag sz len z ps=>simp only[Qa4];rw[Fb (f:=λp:Nat×Arg=>(p.1,A p.2)) (g:=λp=>(p.1,A' p.2)) λp a=>by rw[h p.2 (wa.2 ⟨p,a,rfl⟩)]]
 case call f ars=>have b:ars.map A=ars.map A':=Fb λy d=>h y d;simp only[Qa4,b]
 case dR x ars=>have b:ars.map A=ars.map A':=Fb λy d=>h y (wh _ d);simp only[Qa4,b,h x (wA ..)]
 case dS x ms ars=>have b:ars.map A=ars.map A':=Fb λy d=>h y (wh _ d);simp only[Qa4,b,h x (wA ..)]
 case cw f ars j=>
  have b:(ars.zipIdx.map λp=>if p.2=j then T9 p.1 else A p.1)=ars.zipIdx.map λp=>if p.2=j then e p.1 else A' p.1:=Fb λp a=>by
   have:p.1∈ars:=by obtain⟨y,q⟩:=p;have:=List.mem_zipIdx a;simp only at this ⊢;rw[this.2.2];exact Na _
   rw[h p.1 this,k p.1 this]
  simp only[Qa4,b]
 case conv c x=>cases c<;>first|(simp only[Qa4];rw[a])|(simp only[Qa4];rw[h x (wA ..)])
 all_goals first
  |rfl
  |(simp only[Qa4];rw[a])
  |(simp only[Qa4];simp only[Ins.args,vZ,AS,R7,forall_eq_or_imp,forall_eq]at h k;simp only[h,k])
def Step.wr(s:Step):wi:=s.dst.toList++(match s.ins.cj with|(.t n,true)=>[n]|_=>[])
def Arg.slot:Arg->AQ
 | .t n=>some n
 |_=>none
def Step.rd(s:Step):wi:=s.ins.args.filterMap Arg.slot++(s.gd.map Prod.fst).toList
def Wet(i:Ins)(h:i.cj=(.t d,true)):.t d∈i.args:=by
 cases i
 case cw f ars j=>
  simp only[Ins.cj,A9g,and_true]at h;simp only[Ins.args];rw[y9]at h;cases a:ars[j]? with
  |none=>rw[a]at h;cases h
  |some y=>rw[a]at h;simp at h;subst h;exact Ah a
 all_goals (simp[Ins.cj]at h<;>simp[Ins.args,h])
section
variable{G:GV}{q:FuncId->uZ->hN->R6}{U U' H:uZ}{I u:hN}{s:Step}
def Qqj{x:Arg}(h:∀n,x.slot=W n->U'.getD n .undef=U.getD n .undef):cD G U' x=cD G U x:=by cases x<;>first|rfl|exact h _ rfl
def V7{gd:Option (Nat×Bool)}(h:∀n∈(gd.map Prod.fst).toList,U'.getD n .undef=U.getD n .undef):wanted U' gd=wanted U gd:=by
 cases gd with
 |none=>rfl
 |some p=>obtain⟨g,b⟩:=p;simp only[wanted];rw[h g u0]
def RL(t:Nat):(put U k5 v4)[t]?=if k5=W t then(if t<U.length then W v4 else none)else U[t]?:=by
 cases k5 with
 |none=>simp[put]
 |some k5=>
  simp only[put,AZ,vU];by_cases a:k5=t
  ·subst a;rfl
  ·rw[O3 a,O3 a]
def Qrw:(put U k5 v4).length=U.length:=by cases k5<;>simp[put]
def CT(x:Arg)(a:Bool):(bM U x a).length=U.length:=by unfold bM;split<;>simp
def Jp(x:Arg)(a:Bool)(t:Nat):Bool:=a&&x.slot==some t
def xv{x:Arg}{t:Nat}:Jp x i4 t=true↔x=.t t/\i4:=by unfold Jp;cases i4<;>cases x<;>simp[Arg.slot]
def Qlx(x:Arg)(c:Bool)(t:Nat):(bM U x c)[t]?=if Jp x c t=true then(U[t]?).map V.ng else U[t]?:=by
 by_cases a:Jp x c t
 ·rw[A9a a];obtain⟨rfl,rfl⟩:=xv.1 a;simp only[bM,AZ,A9c];by_cases b:t<U.length
  ·rw[A9a b];simp[List.getD,vO b]
  ·rw[O3 b];simp[B0 (AT.1 b)]
 ·rw[O3 a];unfold bM;split
  ·rename_i n;rw[CQ (λe=>a (xv.2 ⟨by rw[e],rfl⟩))]
  ·rfl
def Woe{t:Nat}(h:s.dst=W t):t∈s.wr:=by simp[Step.wr,h]
def Wqf{t:Nat}(h:Jp s.ins.cj.1 s.ins.cj.2 t):t∈s.wr:=by have⟨a,b⟩:=xv.1 h;have:s.ins.cj=(Arg.t t,true):=Prod.ext a b;simp[Step.wr,this]
def Qzh{t:Nat}(h:t∈s.wr):s.dst=W t\/Jp s.ins.cj.1 s.ins.cj.2 t:=by
 simp only[Step.wr,xf]at h;rcases h with h|h
 ·cases a:s.dst with
  |none=>rw[a]at h;simp at h
  |some d=>rw[a]at h;simp at h;rw[h];exact .inl rfl
 ·split at h
  ·rename_i n a;simp at h;subst h;exact .inr (xv.2 ⟨by rw[a],by rw[a]⟩)
  ·simp at h
def OC(h:Zx G q s U I=W (H,u)):H.length=U.length/\∀t,t∉s.wr->H[t]?=U[t]?:=by
 unfold Zx j_ at h;simp only[u7,vh]at h;obtain⟨b,_,h⟩:=h;cases b with
 |true=>simp only[A9c,vh,vU,A9g]at h;obtain⟨⟨v,c⟩,_,rfl,rfl⟩:=h;refine⟨by rw[Qrw,CT],λt a => ?_⟩;rw[RL,O3 (λe=>a (Woe e)),Qlx,O3 (λe=>a (Wqf e))]
 |false=>simp only[vD,A9d,vU,A9g]at h;obtain⟨rfl,rfl⟩:=h;refine⟨Qrw ..,λt a => ?_⟩;rw[RL,O3 (λe=>a (Woe e))]
def Ac(h:Zx G q s U I=W (H,u))(j:U'.length=U.length)(k:∀t∈s.rd,U'[t]?=U[t]?):
  ∃l,Zx G q s U' I=W (l,u)/\∀t∈s.wr,l[t]?=H[t]?:=by
 have e:∀t∈s.rd,U'.getD t .undef=U.getD t .undef:=λt c=>by simp only[List.getD,k t c]
 have o:wanted U' s.gd=wanted U s.gd:=V7 λn g=>e n (JG _ g);have m:∀x∈s.ins.args,cD G U' x=cD G U x:=λx i=>Qqj λn g=>e n (ET _ (KU.2 ⟨x,i,g⟩));have p:∀x∈s.ins.args,arg G U' x=arg G U x:=λx i=>by unfold arg;rw[m x i]
 unfold Zx j_ at h ⊢;simp only[u7,vh]at h;obtain⟨b,r,h⟩:=h;simp only[u7,o,r,va];have a:∀t,s.ins.cj=(Arg.t t,true)->U'[t]?=U[t]?:=λt c=>k t (ET _ (KU.2 ⟨_,Wet _ c,rfl⟩));cases b with
 |true=>
  simp only[A9c,vh,vU,A9g]at h ⊢;obtain⟨⟨v,w⟩,y,rfl,rfl⟩:=h;refine⟨_,⟨(v,w),by rw[V_ p m];exact y,rfl,rfl⟩,λt c => ?_⟩;simp only;rw[RL,RL,CT,CT,j];by_cases f:s.dst=W t
  ·rw[A9a f,A9a f]
  ·have d:=(Qzh c).resolve_left f;have⟨z,A⟩:=xv.1 d;rw[O3 f,O3 f,Qlx,Qlx,A9a d,A9a d,a t (Prod.ext z A)]
 |false=>
  simp only[vD,A9d,vU,A9g]at h ⊢;obtain⟨rfl,rfl⟩:=h;refine⟨_,⟨rfl,rfl⟩,λt c => ?_⟩;rw[RL,RL,j];by_cases d:s.dst=W t
  ·rw[A9a d,A9a d]
  ·have f:=(Qzh c).resolve_left d;have⟨v,w⟩:=xv.1 f;rw[O3 d,O3 d,a t (Prod.ext v w)]
end
def neutral:Ins->Bool
 | .mv .. | .pick .. | .build .. | .dh _ | .bin .. | .un .. | .ga .. | .cut .. | .gb .. | .cu .. | .field .. | .bT .. | .fQ .. | .idx .. | .kL .. | .fc _ | .len _ | .iZ .. | .kg .. | .gD .. | .mm .. | .eQ .. | .cg .. => true
 | .conv .bh _=>false
 | .conv .. => true
 | .aw _ _ _ _ _ h=>!h
 | .da _ _ _ _ _ _ h=>!h
 | .d_ .. => true
 |_=>false
def gQ:Ins->Bool
 | .load .. | .loadT _ | .alloc _ | .box _ | .da .. => true
 |i=>neutral i
def DM{A T9:Arg->V}{I2:hN}{i:Ins}(e:neutral i)(h:Qa4 m0 A T9 f i=W (g,B)):B=f/\Qa4 m0 A T9 I2 i=W (g,I2):=by
 have pure:∀(x:AW),(do let g <-x;some (g.ng,f))=some (g,B)->B=f/\(do let g <-x;some (g.ng,I2))=some (g,I2):=by
  intro x b;cases x with
  |none=>cases b
  |some y=>simp only[u7,va,vU,A9g,and_true]at b ⊢;exact⟨b.2.symm,b.1⟩
 cases i<;>(try (cases e;done))<;>(try (exact pure _ h))
 case mv x tk=>simp only[Qa4,vU,A9g,and_true]at h ⊢;exact⟨h.2.symm,h.1⟩
 case gD x j=>
  simp only[Qa4]at h ⊢;cases d:eX j (A x)with
  |none=>rw[d]at h;cases h
  |some y=>rw[d]at h;simp only[u7,va,vU,A9g,and_true]at h ⊢;exact⟨h.2.symm,h.1⟩
 case conv k x=>
  have c:∀k,k≠.bh->eC f k (A x)=eC I2 k (A x):=λk v=>by cases k<;>first|(unfold eC;cases A x<;>rfl)|exact absurd rfl v
  cases k
  case bh=>cases e
  case bz=>
   simp only[Qa4]at h ⊢;rw[c _ u0]at h;cases d:eC I2 .bz (A x)with
   |none=>rw[d]at h;cases h
   |some y=>rw[d]at h;simp only[u7,va,vU,A9g,and_true]at h ⊢;exact⟨h.2.symm,h.1⟩
  all_goals
   simp only[Qa4,Cs]at h ⊢;rw[c _ u0]at h;exact pure _ h
 case aw ag sz len z ps hh=>
  cases hh with
  |true=>cases e
  |false=>
   simp only[Qa4,u7,vh,vD,A9d]at h ⊢;obtain⟨I,b,h⟩:=h;split at h
   ·cases h;exact⟨rfl,I,b,by rw[A9a (by assumption)]⟩
   ·cases h
 case d_ ag sz len z ps=>
  simp only[Qa4,u7,vh]at h ⊢;obtain⟨I,b,h⟩:=h;split at h
  ·cases h;exact⟨rfl,I,b,by rw[A9a (by assumption)]⟩
  ·cases h
 case da ag sz bytes z l c hh=>
  cases hh with
  |true=>cases e
  |false=>
   simp only[Qa4,u7,vh,vD,A9d]at h ⊢;obtain⟨l,v,c,j,h⟩:=h;split at h
   ·cases h;exact⟨rfl,l,v,c,j,by rw[A9a (by assumption)]⟩
   ·cases h
variable{j2:Nat->Prop}{m1:List DS}{n1:Program}
section
variable(P:Program)(ops:Array Oper)(l:List DS)
def aD(l:List DS)(p:Nat):DS:=l.getD p ⟨⟨none,none,.gZ⟩,0,[]⟩
def place(l:List DS)(i:Nat):Nat:=l.findIdx (·.op==i)
def dU(ops:Array Oper)(l:List DS)(p:Nat):wi:=
 match ops[(aD l p).op]? with
 |some o=>(o.after.toList.filter (Region.binds .any)).map λe=>place l e.on
 |none=>[]
def Weu(ops:Array Oper)(l:List DS):Nat->List wi->List wi
 |0,a=>a
 |n+1,a=>
  let b:=dU ops l a.length
  Weu ops l n (a++[(List.range a.length).filter λq=>b.contains q||b.any λr=>(a.getD r []).contains q])
def apart(a b:Step):Bool:=a.wr.all (λt=>!b.wr.contains t && !b.rd.contains t)&&b.wr.all (λt=>!a.rd.contains t)
structure cN (P:Program) (ops:Array Oper) (l:List DS) (dp:List (List Nat)):Prop where
 len:l.length=ops.size
 step:∀p,p<l.length->∃o,ops[(aD l p).op]?=some o/\Qgq P ops o (aD l p).s=true
 inj:∀p q,p<l.length->q<l.length->(aD l p).op=(aD l q).op->p=q
 all:∀i,i<ops.size->place l i<l.length
 lF:∀p,p<l.length->∀q∈dU ops l p,q<p
 qB:∀p,p<l.length->∀q∈dp.getD p [],q∈dU ops l p\/∃r∈dU ops l p,q∈dp.getD r []
 pair:∀p,p<l.length->∀q,q<p->q∈dp.getD p []\/(apart (aD l q).s (aD l p).s=true/\gQ (aD l q).s.ins=true/\(gQ (aD l p).s.ins=true\/neutral (aD l q).s.ins=true\/q∈(aD l p).un))
 un:∀p,p<l.length->gQ (aD l p).s.ins=true->(aD l p).un=[]
 th:∀p,p<l.length->∀k∈(aD l p).un,k<p
 sub:∀p,p<l.length->∀q∈dU ops l p,q∈dp.getD p []
def Tj(P:Program)(ops:Array Oper)(l:List DS):Bool:=
 let a:=Weu ops l l.length []
 let r:=List.range l.length
 decide (l.length=ops.size) &&
 r.all (λp=>match ops[(aD l p).op]? with|some o=>Qgq P ops o (aD l p).s|none=>false) &&
 r.all (λp=>decide (place l (aD l p).op=p)) &&
 (List.range ops.size).all (λi=>decide (place l i<l.length)) &&
 r.all (λp=>(dU ops l p).all λq=>decide (q<p)) &&
 r.all (λp=>(a.getD p []).all λq=>(dU ops l p).contains q||(dU ops l p).any λr=>(a.getD r []).contains q) &&
 r.all (λp=>(List.range p).all λq=>(a.getD p []).contains q||(apart (aD l q).s (aD l p).s&&gQ (aD l q).s.ins&&(gQ (aD l p).s.ins||neutral (aD l q).s.ins||(aD l p).un.contains q))) &&
 r.all (λp=>!gQ (aD l p).s.ins||(aD l p).un.isEmpty) &&
 r.all (λp=>(aD l p).un.all λk=>decide (k<p)) &&
 r.all (λp=>(dU ops l p).all λq=>(a.getD p []).contains q)
def Ws{ops:Array Oper}(h:Tj n1 ops m1):∃f,cN n1 ops m1 f:=by
 unfold Tj at h;simp only[vc,A9f,AI,KX]at h;obtain⟨⟨⟨⟨⟨⟨⟨⟨⟨g,i⟩,d⟩,j⟩,n⟩,o⟩,r⟩,s⟩,t⟩,c⟩:=h;refine⟨Weu ops m1 m1.length [],g,λp a => ?_,λp q a b e => ?_,j,n,λp a q b => ?_,λp a q b => ?_,λp a u => ?_,t,λp a q b=>by have:=c p a q b;rwa[Ub]at this⟩
 ·have:=i p a;split at this
  ·exact⟨_,by assumption,this⟩
  ·cases this
 ·rw[<-d p a,<-d q b,e]
 ·have:=o p a q b;simp only[zH,Ub,OV]at this;exact this
 ·have:=r p a q b;simp only[zH,vc,Ub]at this;rcases this with h|⟨⟨h,k⟩,m⟩
  ·exact .inl h
  ·exact .inr ⟨h,k,by rcases m with (m|m)|m<;>simp[m]⟩
 ·have:=s p a;rw[u]at this;simpa using this
def CU{a b:Step}(h:apart a b):(∀t∈a.wr,t∉b.wr/\t∉b.rd)/\∀t∈b.wr,t∉a.rd:=by unfold apart at h;simp only[vc,AI,Qv,List.contains_eq_mem,decide_eq_false_iff_not]at h;exact h
def Wqg{ops:Array Oper}{c:List wi}(d:cN n1 ops m1 c)(h:∀p,j2 p->p<m1.length->∀q∈dU ops m1 p,j2 q):
  ∀p,p<m1.length->(∀q∈dU ops m1 p,j2 q)->∀q∈c.getD p [],j2 q:=by
 intro p;induction p using Nat.strongRecOn with
 |_ p i=>
  intro e f q a;rcases d.qB p e q a with a|⟨r,g,a⟩
  ·exact f q a
  ·have b:=d.lF p e r g;exact i r b Y (h r (f r g) Y) q a
end
section
variable(G:GV)(q:FuncId->uZ->hN->R6)
def bJ(l:List DS)(R:Nat->uZ)(S:Nat->hN)(k:Nat):Rd:=
 if(wanted (R k) (aD l k).s.gd).getD false then reads (arg G (R k)) (S k) (aD l k).s.ins else .none
def Qwt(past:Nat->Rd)(d:DS)(U U':uZ)(I I':hN):Prop:=
 ∃a b,Hs I ((d.un.map past).filterMap Rd.cell)=some a/\Zx G q d.s U a=some (U',b)/\TS b ((d.un.map past).filterMap Rd.cell)=some I'/\∀k∈d.un,bt I I' (past k)=true
theorem Qzj:∀(l:List DS) (past:List Rd) (U:uZ) (I:hN) (a:uZ) (b:hN),zI G q past l U I=W (a,b)->
  ∃(R:Nat->uZ) (S:Nat->hN),R 0=U/\S 0=I/\R l.length=a/\S l.length=b/\
   ∀j,j<l.length->Qwt G q (λk=>(past++(List.range j).map (bJ G l R S)).getD k .none) (aD l j) (R j) (R (j+1)) (S j) (S (j+1))
 |[],past,U,I,a,b,h=>by simp only[zI,vU,A9g]at h;obtain⟨rfl,rfl⟩:=h;exact⟨λ_=>U,λ_=>I,rfl,rfl,rfl,rfl,λj c=>absurd c u0⟩
 |d::l,past,U,I,a,b,h=>by
  simp only[zI,u7,vh]at h;obtain⟨g,s,⟨x,f⟩,t,u,v,i⟩:=h;split at i
  ·rename_i m;have⟨R,S,w,p,n,o,c⟩:=Qzj l _ _ _ _ _ i;refine⟨λ| 0=>U|j+1=>R j,λ| 0=>I|j+1=>S j,rfl,rfl,n,o,λj r => ?_⟩;cases j with
   |zero=>
    refine⟨g,f,?_,?_,?_,?_⟩
    ·show Hs I ((d.un.map _).filterMap Rd.cell)=W g;simpa using s
    ·show Zx G q d.s U g=W (R 0,f);rw[w];exact t
    ·show TS f _=W (S 0);rw[p];show TS f ((d.un.map _).filterMap Rd.cell)=W u;simpa using v
    ·intro k e;show bt I (S 0) _;rw[p];have:=AI.1 m (past.getD k .none) (wa.2 ⟨k,e,rfl⟩);simpa using this
   |succ j=>
    have:=c j (by simpa using r);have e:(λk=>((past++[if(wanted U d.s.gd).getD T=true then reads (arg G U) I d.s.ins else .none])++(List.range j).map (bJ G l R S)).getD k .none)=
      λk=>(past++(List.range (j+1)).map (bJ G (d::l) (λ| 0=>U|j+1=>R j) (λ| 0=>I|j+1=>S j))).getD k .none:=by
     rw[List.range_succ_eq_map,xc,Ni,wL];rfl
    rw[e]at this;exact this
  ·cases i
end
mutual
theorem V.beq_eq:∀(x y:V),V.beq x y->x=y
 | .any,y,h=>by cases y<;>simp[V.beq]at h<;>rfl
 | .undef,y,h=>by cases y<;>simp[V.beq]at h<;>rfl
 | .c_,y,h=>by cases y<;>simp[V.beq]at h<;>rfl
 | .ad,y,h=>by cases y<;>simp[V.beq]at h<;>rfl
 | .bc,y,h=>by cases y<;>simp[V.beq]at h<;>rfl
 | .dt,y,h=>by cases y<;>simp[V.beq]at h<;>rfl
 | .cg,y,h=>by cases y<;>simp[V.beq]at h<;>rfl
 | .bool a,y,h=>by cases y<;>simp[V.beq]at h;rw[h]
 | .int k a,y,h=>by cases y<;>simp[V.beq]at h;rw[h.1,h.2]
 | .str a,y,h=>by cases y<;>simp[V.beq]at h;rw[h]
 | .ptr a i,y,h=>by cases y<;>simp[V.beq]at h;rw[h.1,h.2]
 | .ai a i,y,h=>by cases y<;>simp[V.beq]at h;rw[V.dw _ _ h.1,h.2]
 | .sl a i,y,h=>by cases y<;>simp[V.beq]at h;rw[V.dw _ _ h.1,h.2]
 | .hs a b c d e,y,h=>by cases y<;>simp[V.beq]at h;obtain⟨⟨⟨⟨f,g⟩,i⟩,j⟩,k⟩:=h;rw[f,g,i,j,k]
 | .agg a,y,h=>by cases y<;>simp[V.beq]at h;rw[V.dw _ _ h]
 | .aR a,y,h=>by cases y<;>simp[V.beq]at h;rw[V.dw _ _ h]
 | .bE t a,y,h=>by cases y<;>simp[V.beq]at h;rw[h.1,V.beq_eq _ _ h.2]
 | .fn f a b,y,h=>by cases y<;>simp[V.beq]at h;rw[h.1.1,V.dw _ _ h.1.2,V.dw _ _ h.2]
 | .mp a,y,h=>by cases y<;>simp[V.beq]at h;rw[h]
 | .hg a b c d,y,h=>by cases y<;>simp[V.beq]at h;obtain⟨⟨⟨e,f⟩,g⟩,i⟩:=h;rw[e,f,g,i]
 | .eQ k a,y,h=>by cases y<;>simp[V.beq]at h;rw[h.1,V.beq_eq _ _ h.2]
theorem V.dw:∀(x y:uZ),V.fj x y->x=y
 |[],[],_=>rfl
 |[],_::_,h=>by simp[V.fj]at h
 |_::_,[],h=>by simp[V.fj]at h
 |x::a,y::b,h=>by simp only[V.fj,vc]at h;rw[V.beq_eq x y h.1,V.dw a b h.2]
end
variable{p1:bU}{v5:O}
section
variable{P:Program}{M:vn}{J:bk}{X:Nat->Prop}{D:cY}{w:World}{us:vB}{U:uZ}{I:hN}
def Wew{c':bU}(h:aB M J i6 (.sl e p1))(f:c'≠.fx)(g:∀s,c'≠.gr s):aB M J i6 (.sl e c'):=by
 cases h with
 |jt a _ _=>exact .jt a c' g
 |sl _ _ b a d i us j k l m n o=>exact .sl e c' b a d i us j k l m n (λv=>absurd v f)
def Qly(h:d≠k):(f.set d v5)[k]?=f[k]?:=CQ h
def Qne(off:I[d]?=W (.cells e)){i:Nat}:gi (I.set d (.cells (e.set k g))) i9 i↔if(i9,i)=(d,k)then(g.dg/\k<e.length)else gi I i9 i:=by
 have a:d<I.length:=(wy.1 off).1;by_cases b:d=i9
 ·subst b;by_cases f:k=i
  ·subst f;rw[A9a rfl];constructor
   ·rintro⟨j,x,cs,c,h⟩;rw[Aa a]at cs;cases cs;rw[AZ]at c;rw[A9a rfl]at c;split at c
    ·cases c;exact⟨h,by assumption⟩
    ·cases c
   ·rintro⟨c,cs⟩;exact⟨_,g,Aa a,by rw[Aa cs],c⟩
  ·rw[O3 (λcs=>f (by cases cs;rfl))];constructor
   ·rintro⟨o,x,c,h,j⟩;rw[Aa a]at c;cases c;rw[CQ f]at h;exact⟨e,x,off,h,j⟩
   ·rintro⟨o,x,c,h,j⟩;rw[off]at c;cases c;exact⟨_,x,Aa a,by rw[CQ f];exact h,j⟩
 ·rw[O3 (λcs=>b (by cases cs;rfl))];unfold gi;rw[Qly b]
theorem Qt6:∀(l:List (Nat×Nat)) (I I0:hN),Hs I l=W I0->(St M J X D w us U I->St M J X D w us U I0)/\I0.length=I.length/\∀o i,gi I0 o i->gi I o i\/(o,i)∈l
 |[],I,I0,h=>by simp only[Hs,vU]at h;subst h;exact⟨id,rfl,λo i h=>.inl h⟩
 |(o,f)::r,I,I0,h=>by
  simp only[Hs]at h;split at h
  ·rename_i u b;split at h
   ·rename_i g c j;have⟨k,m,n⟩:=Qt6 r _ _ h;have d:=xz b;refine⟨λp=>k (p.ia d j rfl (λv q=>Wew q u0 u0) (λv => ?_)),by rw[m,GR],λt i a => ?_⟩
    ·exact Qlv (λg s e=>by cases e)
    ·rcases n t i a with a|a
     ·rw[Qne d]at a;split at a
      ·rename_i e;right;rw[e];exact wA ..
      ·exact .inl a
     ·exact .inr (wh _ a)
   ·cases h
  ·cases h
theorem Qt7:∀(l:List (Nat×Nat)) (I I0:hN),TS I l=W I0->(St M J X D w us U I->St M J X D w us U I0)/\I0.length=I.length/\(∀o i,gi I0 o i->gi I o i/\(o,i)∉l)/\∀p∈l,gi I p.1 p.2
 |[],I,I0,h=>by simp only[TS,vU]at h;subst h;exact⟨id,rfl,λo i h=>⟨h,u0⟩,λp hp=>by simp at hp⟩
 |(o,g)::r,I,I0,h=>by
  simp only[TS]at h;split at h
  ·rename_i j c;split at h
   ·rename_i k f;have⟨m,n,q,t⟩:=Qt7 r _ _ h;have b:=xz c;refine⟨λu=>m (u.ia b f rfl (λv x=>Wew x u0 u0) (λv => ?_)),by rw[n,GR],λy i a => ?_,λp hp => ?_⟩
    ·exact Qlv (λk s e=>by cases e)
    ·have⟨a,e⟩:=q y i a;rw[Qne b]at a;split at a
     ·exact absurd a.1 (by simp[V.dg])
     ·rename_i d;exact⟨a,λhm=>by
       rcases vZ.1 hm with hm|hm
       ·exact d hm
       ·exact e hm⟩
    ·rcases vZ.1 hp with rfl|hp
     ·exact⟨j,_,b,f,rfl⟩
     ·have:=t p hp;rw[Qne b]at this;split at this
      ·exact absurd this.1 (by simp[V.dg])
      ·exact this
   ·cases h
  ·cases h
def St.snoc(h:St M J X D w us U I)(O:O):St M J X D w us U (I++[O]):=by
 have d:∀p v x,At J w us U (I++[O]) p v x->At J w us U I p v x:=by
  intro p v x a;cases p with
  |s i=>exact a
  |c o i=>obtain⟨b,g,j,fz,k,e,l,f,m,n⟩:=a;rw[AH (h.wd.dK e)]at f;exact⟨b,g,j,fz,k,e,l,f,m,n⟩
 exact⟨⟨h.wd.mem,λo b e=>by have⟨i,hO,j⟩:=h.wd.obj o b e;exact⟨i,by rw[AH (h.wd.dK e)];exact hO,j⟩,h.wd.dv,λq k c f g l m=>h.wd.inj q k c f g (by rwa[AH (h.wd.dK f)]at l) (by rwa[AH (h.wd.dK g)]at m),h.wd.ef,h.wd.cV,h.wd.dC,h.wd.gg⟩,h.bC,λp v x b a n=>h.own p v x b (d p v x a) n,λp v x a=>h.gr p v x (d p v x a)⟩
def St.ti(h:St M J X D w us U I)(l:J d=none)(H:I[d]?=W (.cells e))(ars:wk)(T9:TypeId)(fz:Nat×Nat)(L:aq M J (ars.toList.take e.length) e)(E:∀i,i<e.length->Qbg fz i=T)(m:∀c∈e,c.one)(F:∀c∈e,∀v,aJ v c=none):
  ∃K A,Ext X M J w K A (Ag w (.cells ars T9 fz))/\A d=W w.heap.size/\St K A X D (Ag w (.cells ars T9 fz)) us U I/\∀o,o≠d->A o=J o:=by
 have cs:=h.push (.cells ars T9 fz) [] (λi u N=>by simp at N);have G:=h.wd.dT [];have g:=h.wd.j' (n:=none) l;have q o:J.more d w.heap.size none o=if o=d then W w.heap.size else J o:=rfl
 refine⟨TF M w.heap.size [],J.more d w.heap.size none,⟨G,g,λb i r=>yf (by have:=h.wd.ef b r;omega),by rw[wW];omega,λb r=>RO w _ (h.wd.ef b r),rfl,rfl,rfl⟩,by rw[q,A9a rfl],⟨⟨cs.wd.mem,?_,?_,?_,cs.wd.ef,?_,?_,?_⟩,cs.bC.mono (.refl _) g,?_,?_⟩,λo a=>by rw[q,O3 a]⟩
 ·intro o b f;rw[q]at f;by_cases a:o=d
  ·subst a;rw[A9a rfl]at f;cases f;refine⟨.cells e,H,ars,T9,fz,EI w _,L.mono G g,E,λi=>by rw[Ow];simp,m⟩
  ·rw[O3 a]at f;have⟨O,hO,k⟩:=h.wd.obj o b f;exact⟨O,hO,k.push h.wd G (λb i f=>yf Y) g _ (h.wd.dv o b f)⟩
 ·intro o b f;rw[q]at f;by_cases a:o=d
  ·rw[A9a a]at f;cases f;rw[wW];omega
  ·rw[O3 a]at f;exact cs.wd.dv o b f
 ·intro o B b k f P Q;rw[q]at k f;by_cases a:o=d
  ·by_cases s:B=d
   ·rw[a,s]
   ·rw[A9a a]at k;rw[O3 s]at f;cases k;exact absurd f (ki h.wd B)
  ·by_cases s:B=d
   ·rw[O3 a]at k;rw[A9a s]at f;cases f;exact absurd k (ki h.wd o)
   ·rw[O3 a]at k;rw[O3 s]at f;exact h.wd.inj o B b k f P Q
 ·intro o b f;rw[q]at f;by_cases a:o=d
  ·rw[A9a a]at f;cases f;intro r;have:=h.wd.ef _ r;omega
  ·rw[O3 a]at f;exact h.wd.cV o b f
 ·intro b p k;have⟨t,y,C⟩:=h.wd.dC b p k;refine⟨t,λo a => ?_,by rw[wW];omega⟩;rw[q]at a;by_cases f:o=d
  ·rw[A9a f]at a;cases a;omega
  ·rw[O3 f]at a;exact y o a
 ·intro b k f;rw[Qg]at f;by_cases s:b=w.heap.size
  ·rw[A9a s]at f;cases f
  ·rw[O3 s]at f;have⟨⟨o,a⟩,y⟩:=cs.wd.gg b k f;exact⟨⟨o,g.le o b a⟩,y⟩
 all_goals
  have z:∀p v x,At (J.more d w.heap.size none) (Ag w (.cells ars T9 fz)) us U I p v x->At J (Ag w (.cells ars T9 fz)) us U I p v x\/aJ v x=none:=by
   intro p v x j;cases p with
   |s i=>exact .inl j
   |c o i=>
    obtain⟨b,B,P,f,k,t,y,C,Q,s⟩:=j;rw[q]at t;by_cases a:o=d
    ·subst a;rw[H]at C;cases C;exact .inr (F x (Ah s) v)
    ·rw[O3 a]at t;exact .inl ⟨b,B,P,f,k,t,y,C,Q,s⟩
 ·intro p v x b j f;rcases z p v x j with j|k
  ·exact cs.own p v x b j f
  ·rw[k]at f;cases f
 ·intro p v x j;rcases z p v x j with j|f
  ·exact cs.gr p v x j
  ·exact .du f
end
variable{j1:Rd}
section
variable{P:Program}{z:Array Oper}{l:List DS}{dp:List wi}{G:GV}{u:FuncId->uZ->hN->R6}{R:Nat->uZ}{S:Nat->hN}
def wE(G:GV)(u:FuncId->uZ->hN->R6)(l:List DS)(R:Nat->uZ)(S:Nat->hN):Prop:=
 ∀j,j<l.length->Qwt G u (bJ G l R S) (aD l j) (R j) (R (j+1)) (S j) (S (j+1))
def Wkq(g:cN P z l dp)(h:∀j,j<l.length->Qwt G u (λk=>(([]:List Rd)++(List.range j).map (bJ G l R S)).getD k .none) (aD l j) (R j) (R (j+1)) (S j) (S (j+1))):wE G u l R S:=by
 intro j c;have⟨i,m,d,n,f,o⟩:=h j c;have e:∀k∈(aD l j).un,(([]:List Rd)++(List.range j).map (bJ G l R S)).getD k .none=bJ G l R S k:=λk a=>by have b:=g.th j c k a;simp[List.getD,b]
 have em:=Fb e;rw[em]at d f;exact⟨i,m,d,n,f,λk a=>by rw[<-e k a];exact o k a⟩
def wE.frame(h:wE G u l R S)(a:d<l.length):(R (d+1)).length=(R d).length/\∀t,t∉(aD l d).s.wr->(R (d+1))[t]?=(R d)[t]?:=by have⟨c,p,_,b,_⟩:=h d a;exact OC b
def wE.len(h:wE G u l R S):∀p,p<=l.length->(R p).length=(R 0).length
 |0,_=>rfl
 |p+1,a=>(h.frame Y).1.trans (h.len p Y)
def Qqk(l:List DS)(R:Nat->uZ)(L:Nat->Prop)(U:uZ):Prop:=
 U.length=(R 0).length/\∀t m,m<=l.length->(∀q,q<m->t∈(aD l q).s.wr->L q)->(∀q,m<=q->q<l.length->t∈(aD l q).s.wr->¬L q)->U[t]?=(R m)[t]?
structure gG (l:List DS) (dp:List (List Nat)) (L:Nat->Prop):Prop where
 lt:∀p,L p->p<l.length
 qB:∀p,L p->∀q∈dp.getD p [],L q
variable{L:Nat->Prop}{U:uZ}
def Wex(f:cN P z l dp)(j:gG l dp L)(k:Qqk l R L U)(m:d<l.length)(g:¬L d)(n:∀q∈dp.getD d [],L q){t:Nat}(a:t∈(aD l d).s.rd\/t∈(aD l d).s.wr):U[t]?=(R d)[t]?:=by
 refine k.2 t d Y (λq i p => ?_) (λq i e p b => ?_)
 ·rcases f.pair d m q i with h|⟨h,_⟩
  ·exact n q h
  ·have:=(CU h).1 t p;rcases a with a|a
   ·exact absurd a this.2
   ·exact absurd a this.1
 ·rcases Hn d q with c|c
  ·rcases f.pair q e d c with h|⟨h,_⟩
   ·exact g (j.qB q b d h)
   ·rcases a with a|a
    ·exact(CU h).2 t p a
    ·exact((CU h).1 t a).1 p
  ·have:q=d:=by omega
   subst this;exact g b
def Wey(o:cN P z l dp)(r:wE G u l R S)(s:gG l dp L)(i:Qqk l R L U)(v:d<l.length)(w:¬L d)(b:e.length=U.length)(x:∀t∈(aD l d).s.wr,e[t]?=(R (d+1))[t]?)(U':∀t,t∉(aD l d).s.wr->e[t]?=U[t]?):Qqk l R (λq=>L q\/q=d) e:=by
 refine⟨b.trans i.1,λt m y j n => ?_⟩;by_cases c:t∈(aD l d).s.wr
 ·have A:d<m:=by
   rcases Hn d m with h|h
   ·exact h
   ·exact absurd (.inr rfl) (n d h v c)
  rw[x t c];have p:∀k,d+1+k<=m->(R (d+1))[t]?=(R (d+1+k))[t]?:=by
   intro k;induction k with
   |zero=>intro _;rfl
   |succ k B=>
    intro C;have g:d+1+k<l.length:=by omega
    rw[B Y,show d+1+(k+1)=(d+1+k)+1 from rfl,(r.frame g).2 t ?_];intro a;have f:=(j (d+1+k) Y a).resolve_right Y;rcases o.pair (d+1+k) g d Y with h|⟨h,_⟩
    ·exact w (s.qB _ f d h)
    ·exact((CU h).1 t c).1 a
  have:=p (m-(d+1)) Y
  rwa[show d+1+(m-(d+1))=m from by omega]at this
 ·rw[U' t c];refine i.2 t m y (λq p a => ?_) (λq p f a g=>n q p f a (.inl g));rcases j q p a with h|rfl
  ·exact h
  ·exact absurd a c
def lI(x:V):Prop:=∀a s,x≠.sl a (.gr s)
def Same(I I':hN):Rd->Prop
 | .same d o a n=>∃b c,hN.get I o=some b/\hN.get I' o=some c/\b.length=c.length/\(if d then(b.drop a).take n=(c.drop a).take n else((b.drop a).take n).map V.ng=((c.drop a).take n).map V.ng)
 | .made o=>∃b,hN.get I o=some b/\hN.get I' o=some b
 |_=>True
def ij(I:hN):Rd->Prop
 | .same true o b n=>∀a,hN.get I o=some a->∀x∈(a.drop b).take n,lI x
 | .made o=>∀a,hN.get I o=some a->∀x∈a,lI x
 |_=>True
def Qwu(h:bt f B j1):Same f B j1:=by
 cases j1 with
 |none=>trivial
 |cE=>trivial
 |same a o b n=>
  simp only[bt]at h;split at h
  ·rename_i c d e I';simp only[vc,A9f]at h;refine⟨c,d,e,I',h.1,?_⟩;cases a
   ·simp only[vD,A9d]at h ⊢; exact V.dw _ _ h.2
   ·simp only[A9c]at h ⊢; exact V.dw _ _ h.2
  ·cases h
 |made o=>
  simp only[bt]at h;split at h
  ·rename_i a d b c;have:=V.dw _ _ h;subst this;exact⟨a,b,c⟩
  ·cases h
def Same.trans{I I' a:hN}{r:Rd}(h:Same I I' r)(k:Same I' a r):Same I a r:=by
 cases r with
 |none=>trivial
 |cE=>trivial
 |same e o f n=>obtain⟨g,t,i,j,l,b⟩:=h;obtain⟨m,p,c,q,s,d⟩:=k;rw[j]at c;cases c;refine⟨g,p,i,q,l.trans s,?_⟩;cases e<;>simp only[vD,A9d,A9c]at b d ⊢<;>exact b.trans d
 |made o=>obtain⟨c,d,e⟩:=h;obtain⟨g,b,f⟩:=k;rw[e]at b;cases b;exact⟨c,d,f⟩
def ij.same(h:ij f j1)(k:Same f B j1):ij B j1:=by
 cases j1 with
 |none=>trivial
 |cE=>trivial
 |same d o e n=>
  cases d with
  |false=>trivial
  |true=>obtain⟨I',j,g,i,l,a⟩:=k;intro m b x c;rw[i]at b;cases b;simp only[A9c]at a;rw[<-a]at c;exact h I' g x c
 |made o=>obtain⟨b,c,d⟩:=k;intro I' a x e;rw[d]at a;cases a;exact h b c x e
inductive jy (I:hN):hN->Prop
 |stay:jy I I
 |cE (o off:Nat) (cs xs:List V) (s:Nat) (h:I[o]?=some (.cells cs)) (hx:cs[off]?=some (.sl xs (.gr s))):jy I (I.set o (.cells (cs.set off (.sl xs .no))))
 |made (cs:List V):jy I (I++[.cells cs])
def JP(h:f[d]?=W (.cells e)):hN.get f d=some e:=by unfold hN.get;rw[h]
def Qrx:(((e.set i9 g).drop d).take k)=if d<=i9/\i9<d+k then((e.drop d).take k).set (i9-d) g else(e.drop d).take k:=by
 apply Hk;intro j;split
 ·rename_i h;rw[xP,AZ,xP,DT,DT,AZ];by_cases b:j<k
  ·rw[A9a b,A9a b];by_cases a:i9=d+j
   ·subst a;rw[show d+j-d=j from by omega];simp only[A9c,GQ,zj];by_cases c:d+j<e.length
    ·rw[A9a c,A9a Y]
    ·rw[O3 c,O3 Y]
   ·rw[O3 a,O3 Y]
  ·rw[O3 b,O3 b];split
   ·rw[O3 yZ]
   ·rfl
 ·rename_i h;rw[xP,xP,DT,DT,AZ];by_cases a:j<k
  ·rw[A9a a,A9a a,O3 Y]
  ·rw[O3 a,O3 a]
def Wj{b:Type}{l:List b}{x:b}(h:l[d]?=W x):l.set d x=l:=by
 apply Hk;intro j;rw[AZ];split
 ·rename_i a;subst a;rw[A9a (wy.1 h).1,h]
 ·rfl
def Wez(i:jy f B)(j:ij f j1)(I':∃I0,Same I0 f j1):Same f B j1:=by
 obtain⟨I0,I'⟩:=I';cases j1 with
 |none=>trivial
 |cE=>trivial
 |same q o c n=>
  obtain⟨_,d,_,a,_,_⟩:=I';cases i with
  |stay=>exact⟨d,d,a,a,rfl,by split<;>rfl⟩
  |made e=>have b:=xz a;refine⟨d,d,a,JP ?_,rfl,by split<;>rfl⟩;rw[AH (wy.1 b).1];exact b
  |cE t b v l s h u=>
   by_cases m:t=o
   ·subst m;have k:=xz a;rw[h]at k;cases k;have g:=(wy.1 h).1;refine⟨d,_,a,JP (Aa g),u0,?_⟩;rw[Qrx];by_cases e:c<=b/\b<c+n
    ·rw[A9a e];have p:((d.drop c).take n)[b-c]?=W (.sl l (.gr s)):=by rw[xP,A9a Y,DT,show c+(b-c)=b from by omega];exact u
     cases q with
     |true=>exact absurd rfl (j d a _ (Ah p) l s)
     |false=>simp only[vD,A9d];rw[List.map_set];refine(Wj ?_).symm;rw[ym,p];rfl
    ·rw[O3 e];split<;>rfl
   ·have e:=xz a;exact⟨d,d,a,JP (by rw[Qly m];exact e),rfl,by split<;>rfl⟩
 |made o=>
  obtain⟨c,_,a⟩:=I';have b:=xz a;cases i with
  |stay=>exact⟨c,a,a⟩
  |made d=>refine⟨c,a,JP ?_⟩;rw[AH (wy.1 b).1];exact b
  |cE g d m k s h l=>
   by_cases e:g=o
   ·subst e;rw[h]at b;cases b;exact absurd rfl (j c a _ (Ah l) k s)
   ·exact⟨c,a,JP (by rw[Qly e];exact b)⟩
end
section
variable{P:Program}{N:Array Oper}{l:List DS}{dp:List wi}{G:GV}{u:FuncId->uZ->hN->R6}{R:Nat->uZ}{S:Nat->hN}
def Qjg(p:cN P N l dp)(e:wE G u l R S)(c:d<l.length)(f:gQ (aD l d).s.ins):Zx G u (aD l d).s (R d) (S d)=W (R (d+1),S (d+1)):=by have⟨h,i,a,g,b,_⟩:=e d c;rw[p.un d c f]at a b;simp only[Xbx,List.filterMap_nil,Hs,TS,vU]at a b;rw[a,<-b];exact g
def DN{A:Arg->V}{i:Ins}(h:neutral i):reads A f i=.none:=by
 cases i<;>first|rfl|(cases h;done)|skip
 case da ag sz bytes z l c hh=>
  cases hh with
  |false=>rfl
  |true=>cases h
inductive ik (G:GV) (l:List DS) (R:Nat->List V) (S:Nat->hN) (p:Nat):Prop
 |none (h1:S (p+1)=S p) (h2:bJ G l R S p=.none)
 |same (ex:Bool) (o off n:Nat) (h1:S (p+1)=S p) (h2:bJ G l R S p=.same ex o off n) (h3:Same (S p) (S p) (.same ex o off n)) (h4:ij (S p) (.same ex o off n))
 |cE (o off:Nat) (cs xs:List V) (s:Nat) (h1:(S p)[o]?=some (.cells cs)) (h2:cs[off]?=some (.sl xs (.gr s))) (h3:S (p+1)=(S p).set o (.cells (cs.set off (.sl xs .no)))) (h4:bJ G l R S p=.cE o off)
 |made (cs:List V) (h1:S (p+1)=S p++[.cells cs]) (h2:bJ G l R S p=.made (S p).length) (h3:∀x∈cs,lI x)
def QE(h:g.ng=g):lI g:=λa s e=>by subst e;cases h
def Ut(L:cN P N l dp)(X:wE G u l R S)(O:d<l.length)(F:gQ (aD l d).s.ins):ik G l R S d:=by
 have h:=Qjg L X O F;have⟨Q,a0,f⟩:=L.step d O;simp only[Qgq,vc]at f;have p:=f.1.2;have t:∀b,wanted (R d) (aD l d).s.gd=W b->bJ G l R S d=if b then reads (arg G (R d)) (S d) (aD l d).s.ins else .none:=λb D=>by unfold bJ;rw[D];rfl
 unfold Zx j_ at h;simp only[u7,vh]at h;obtain⟨b,D,h⟩:=h;cases b with
 |false=>simp only[vD,A9d,vU,A9g]at h;exact .none h.2.symm (by rw[t _ D];rfl)
 |true=>
  simp only[A9c,vh,vU,A9g]at h;obtain⟨⟨v,I2⟩,a,-,m⟩:=h;simp only at m;subst m;have g:=t _ D;simp only[A9c]at g;by_cases E:neutral (aD l d).s.ins
  ·have⟨e,_⟩:=DM (I2:=S d) E a;exact .none e (by rw[g,DN E])
  ·generalize U:(aD l d).s.ins=H at*;cases H<;>(try (exact absurd F E))<;>(try (cases F;done))
   case load ag sz x=>
    simp only[Qa4,Cs,u7,vh,vU,A9g]at a;obtain⟨y,k,_,m⟩:=a;simp only[reads]at g;split at g
    ·rename_i o i w;rw[w]at k;simp only[eL,u7,vh]at k;obtain⟨n,f,_⟩:=k;exact .same T o i _ m.symm g ⟨n,n,f,f,rfl,rfl⟩ trivial
    ·exact .none m.symm g
   case loadT x=>
    simp only[Qa4]at a;simp only[reads]at g;split at a
    ·rename_i o i w;rw[w]at g;simp only[u7,vh]at a;obtain⟨n,f,c,q,a⟩:=a;simp only[f,va,q]at g;split at a
     ·rename_i e s;simp only[vU,A9g]at a;exact .cE o i n e s (xz f) q a.2.symm g
     ·cases a
     ·rename_i A _;simp only[vU,A9g]at a;have K:bJ G l R S d=.same true o i 1:=by
       rw[g];split
       ·rename_i I s e;cases e;exact absurd rfl (A I s)
       ·rfl
      refine .same true o i 1 a.2.symm K ⟨n,n,f,f,rfl,rfl⟩ (λds B y k => ?_);rw[f]at B;cases B;have⟨j,C⟩:=Qt.1 k;rw[xP]at C;split at C
      ·rename_i a1;rw[DT,show i+j=i from by omega,q]at C;cases C;exact λI s e=>A I s e
      ·cases C
    ·rename_i n i w;rw[w]at g;simp only[u7,vh,vU,A9g]at a;obtain⟨_,_,_,m⟩:=a;exact .none m.symm g
    ·cases a
   case alloc z=>
    simp only[Qa4]at a;split at a
    ·simp only[vU,A9g]at a;refine .made z a.2.symm g (λy k => ?_);cases r:Q.op<;>rw[r]at p<;>(try (cases p;done));simp only[w9]at p;split at p
     ·exact QE ((zS (M:=λ_ _=>none) (J:=⟨λ_=>none,λ_=>none⟩) p).2.1 y k).2
     ·cases p
    ·cases a
   case box x=>
    simp only[Qa4]at a;split at a
    ·simp only[vU,A9g]at a;refine .made _ a.2.symm g (λy k => ?_);obtain⟨z,_,rfl⟩:=wa.1 k;exact QE (V.ck z)
    ·cases a
   case da ag sz bytes z l' c' hh=>
    cases hh with
    |false=>exact absurd rfl E
    |true=>
     simp only[reads,A9c]at g;cases r:Q.op<;>rw[r]at p<;>(try (cases p;done));simp only[w9]at p;split at p
     ·simp only[vc,A9f]at p;have c:=p.1.1.1.1.1.1;unfold IM at c;split at c
      ·have e:=(zS (M:=λ_ _=>none) (J:=⟨λ_=>none,λ_=>none⟩) c).2.1;simp only[Qa4,A9c,u7,vh]at a;obtain⟨s,_,A,_,a⟩:=a;split at a
       ·simp only[vU,A9g]at a;refine .made _ a.2.symm g (λy k => ?_);have⟨q,j,k⟩:=Fc.1 k;rw[Hf j]at k;exact QE (e y k).2
       ·cases a
      ·cases c
     ·cases p
def ik.late(h:ik G l R S d):jy (S d) (S (d+1)):=by
 cases h with
 |none a=>rw[a];exact .stay
 |same c o b n a=>rw[a];exact .stay
 |cE o a c p s b e f=>rw[f];exact .cE o a c p s b e
 |made b a=>rw[a];exact .made b
def jy.len{I:hN}(h:jy I f):I.length<=f.length:=by cases h<;>simp
def cB(L:Nat->Prop)(c p:Nat):Prop:=p<c/\¬L p
def XR(X:Nat->Prop)(L:Nat->Prop)(c:Nat)(a:Nat->AQ)(b:Nat):Prop:=X b\/∃p,cB L c p/\a p=some b
structure qL (S:Nat->hN) (M:vn) (J:bk) (w:World) (rs:Nat->Option Nat) (p o off:Nat) (xs:List V) (s b bb:Nat) (v:Value) (cs:List V):Prop where
 i:J o=some b
 cell:w.cell? ⟨b,off,none⟩=some v
 bC:aB M J v (.sl xs (.gr s))
 own:aJ v (.sl xs (.gr s))=some bb
 rs:rs p=some bb
 gr:dL M w v (.sl xs (.gr s))
 obj:(S p)[o]?=some (.cells cs)
 val:cs[off]?=some (.sl xs (.gr s))
structure Inv (G:GV) (l:List DS) (dp:List (List Nat)) (R:Nat->List V) (S:Nat->hN) (X:Nat->Prop) (L:Nat->Prop) (c:Nat) (us:List Value) (U:List V) (w:World) (M:vn) (J:bk) (D:cY) (rs:Nat->Option Nat):Prop where
 cn:c<=l.length
 cl:gG l dp L
 lt:∀p,L p->p<c
 sX:∀p,p<c->gQ (aD l p).s.ins=false->L p
 slot:Qqk l R L U
 st:St M J (XR X L c rs) D w us U (S c)
 sY:∀p b,cB L c p->rs p=some b->¬X b
 sZ:∀p q b,cB L c p->cB L c q->rs p=some b->rs q=some b->p=q
 same:∀p,cB L c p->Same (S (p+1)) (S c) (bJ G l R S p)
 quiet:∀p,cB L c p->ij (S c) (bJ G l R S p)
 made:∀p o,cB L c p->bJ G l R S p=.made o->J o=none
 ka:∀p q o,cB L c p->cB L c q->bJ G l R S p=.made o->bJ G l R S q=.made o->p=q
 cE:∀p o off,cB L c p->bJ G l R S p=.cE o off->o<(S c).length/\((J o=none/\∀q,cB L c q->bJ G l R S q≠.made o)\/∃xs s b bb v cs,qL S M J w rs p o off xs s b bb v cs)
section
variable{X:Nat->Prop}{L:Nat->Prop}{c:Nat}{us:vB}{U:uZ}{w:World}{M:vn}{J:bk}{D:cY}{rs:Nat->AQ}
def St.mi(h:St M J X D w us U f)(c:∀b,j2 b->b<w.heap.size)(d:∀o b,J o=W b->¬j2 b)(e:∀b p,D b=W p->¬j2 b):St M J j2 D w us U f:=
 ⟨⟨h.wd.mem,h.wd.obj,h.wd.dv,h.wd.inj,c,d,λb p a=>⟨e b p a,(h.wd.dC b p a).2⟩,h.wd.gg⟩,h.bC,h.own,h.gr⟩
def St.gR{X':Nat->Prop}(h:St M J X D w us U f)(c:∀b,X' b->X b):St M J X' D w us U f:=
 h.mi (λb a=>h.wd.ef b (c b a)) (λo b d a=>h.wd.cV o b d (c b a)) (λb p e a=>(h.wd.dC b p e).1 (c b a))
def p5(h:cB j2 (d+1) k):k=d\/cB j2 d k:=by
 rcases Hn k d with a|b
 ·exact .inr ⟨a,h.2⟩
 ·left;have:=h.1;omega
def Inv.advance(hk:cN P N l dp)(hc:wE G u l R S)(h:Inv G l dp R S X L c us U w M J D rs)(b4:c<l.length)(hd:gQ (aD l c).s.ins):∃D' m,Inv G l dp R S X L (c+1) us U w M J D' m:=by
 have c3:¬L c:=λhl=>by have:=h.lt c hl;omega
 have z:=Ut hk hc b4 hd;have A:=z.late;have c2:=A.len;have B:=λp hp=>Wez A (h.quiet p hp) ⟨_,h.same p hp⟩;have a4:∀p,p<c+1->gQ (aD l p).s.ins=false->L p:=λp hp a1=>by
  rcases Hn p c with b5|c4
  ·exact h.sX p b5 a1
  ·have:p=c:=by omega
   subst this;rw[hd]at a1;cases a1
 have b6:∀p,L p->p<c+1:=λp hp=>by have:=h.lt p hp;omega
 have C:∀(D':cY) (m:Nat->AQ),(∀p,cB L c p->m p=rs p)->St M J (XR X L (c+1) m) D' w us U (S (c+1))->(∀b,m c=some b->¬X b)->(∀p b,cB L c p->rs p=some b->m c=some b->False)->
   Same (S (c+1)) (S (c+1)) (bJ G l R S c)->ij (S (c+1)) (bJ G l R S c)->(∀o,bJ G l R S c=.made o->J o=none/\o=(S c).length)->
   (∀o k,bJ G l R S c=.cE o k->o<(S (c+1)).length/\((J o=none/\∀q,cB L c q->bJ G l R S q≠.made o)\/∃xs s b I v K,qL S M J w m c o k xs s b I v K))->
   Inv G l dp R S X L (c+1) us U w M J D' m:=by
  intro D' m E F hx a5 b7 hq V b8;refine⟨by omega,h.cl,b6,a4,h.slot,F,λp b hp i => ?_,λp q b hp f i d => ?_,λp hp => ?_,λp hp => ?_,λp o hp g => ?_,λp q o hp f g a2 => ?_,λp o k hp g => ?_⟩
  ·rcases p5 hp with rfl|hp
   ·exact hx b i
   ·rw[E p hp]at i;exact h.sY p b hp i
  ·rcases p5 hp with rfl|hp
   ·rcases p5 f with rfl|f
    ·rfl
    ·rw[E q f]at d;exact absurd i (λe=>a5 q b f d e)
   ·rw[E p hp]at i;rcases p5 f with rfl|f
    ·exact absurd d (λe=>a5 p b hp i e)
    ·rw[E q f]at d;exact h.sZ p q b hp f i d
  ·rcases p5 hp with rfl|hp
   ·exact b7
   ·exact(h.same p hp).trans (B p hp)
  ·rcases p5 hp with rfl|hp
   ·exact hq
   ·exact(h.quiet p hp).same (B p hp)
  ·rcases p5 hp with rfl|hp
   ·exact(V o g).1
   ·exact h.made p o hp g
  ·have a6:∀q o,cB L c q->bJ G l R S q=.made o->o<(S c).length:=λq o hq g=>by have:=h.same q hq;rw[g]at this;obtain⟨K,_,j⟩:=this;exact(wy.1 (xz j)).1
   rcases p5 hp with rfl|hp
   ·rcases p5 f with rfl|f
    ·rfl
    ·have:=a6 q o f a2;have:=(V o g).2;omega
   ·rcases p5 f with rfl|f
    ·have:=a6 p o hp g;have:=(V o a2).2;omega
    ·exact h.ka p q o hp f g a2
  ·rcases p5 hp with rfl|hp
   ·obtain⟨t,j⟩:=b8 o k g;refine⟨t,j.imp (λ⟨a,b⟩=>⟨a,λq f hm => ?_⟩) id⟩;rcases p5 f with rfl|f
    ·rw[g]at hm;cases hm
    ·exact b q f hm
   ·obtain⟨t,j⟩:=h.cE p o k hp g;refine⟨by omega,j.imp (λ⟨a,b⟩=>⟨a,λq f hm => ?_⟩) λ⟨xs,s,b,I,v,K,ht⟩=>⟨xs,s,b,I,v,K,ht.i,ht.cell,ht.bC,ht.own,by rw[E p hp];exact ht.rs,ht.gr,ht.obj,ht.val⟩⟩;rcases p5 f with rfl|f
    ·have:=(V o hm).2;omega
    ·exact b q f hm
 have r:∀ {I':hN},S (c+1)=I'->St M J (XR X L c rs) D w us U I'->St M J (XR X L (c+1) (λp=>if p=c then none else rs p)) D w us U (S (c+1)):=by
  intro I' e F;rw[e];refine F.gR λb i => ?_;rcases i with i|⟨p,hp,i⟩
  ·exact .inl i
  ·rcases p5 hp with rfl|hp
   ·simp at i
   ·refine .inr ⟨p,hp,?_⟩;have a3:p≠c:=by have:=hp.1;omega
    simpa only[O3 a3]using i
 have y:∀p,cB L c p->(λp=>if p=c then none else rs p) p=rs p:=λp hp=>by simp only;rw[O3 (by have:=hp.1;omega)]
 cases z with
 |none t j=>exact⟨D,_,C D _ y (r t h.st) (λb i=>by simp at i) (λp b _ _ i=>by simp at i) (by rw[j];trivial) (by rw[j];trivial) (λo g=>by rw[j]at g;cases g) (λo k g=>by rw[j]at g;cases g)⟩
 |same ex o k n t j h3 Q=>exact⟨D,_,C D _ y (r t h.st) (λb i=>by simp at i) (λp b _ _ i=>by simp at i) (by rw[j,t];exact h3) (by rw[j,t];exact Q) (λo g=>by rw[j]at g;cases g) (λo k g=>by rw[j]at g;cases g)⟩
 |made K t j h3=>
  have H:hN.get (S (c+1)) (S c).length=some K:=JP (by rw[t];simp);exact⟨D,_,C D _ y (r t (h.st.snoc _)) (λb i=>by simp at i) (λp b _ _ i=>by simp at i) (by rw[j];exact⟨K,H,H⟩) (by
   rw[j];intro ds a7;rw[H]at a7;cases a7;exact h3) (λo g=>by
   rw[j]at g;cases g;exact⟨h.st.wd.h' (vE _),rfl⟩) (λo k g=>by rw[j]at g;cases g)⟩
 |cE o k K xs s t j h3 Q=>
  have c5:=(wy.1 t).1;cases hi:J o with
  |none=>have F:=h.st.ib t j rfl;refine⟨D,_,C D _ y (r h3 F) (λb i=>by simp at i) (λp b _ _ i=>by simp at i) (by rw[Q];trivial) (by rw[Q];trivial) (λo g=>by rw[Q]at g;cases g) (λo' a8 g => ?_)⟩;rw[Q]at g;cases g;refine⟨by omega,.inl ⟨hi,λq hq hm => ?_⟩⟩;have:=h.quiet q hq;rw[hm]at this;exact this K (JP t) _ (Ah j) xs s rfl
  |some b=>
   obtain⟨O,hO,b9⟩:=h.st.wd.obj o b hi;rw[t]at hO;cases hO;obtain⟨ws,T9,fz,i,c0,c6,hM,c1⟩:=b9;obtain⟨v,hv,a9⟩:=c0.get j;have b0:ws[k]?=some v:=by
    rw[xP]at hv;split at hv
    ·simpa using hv
    ·cases hv
   obtain⟨I,b1⟩:∃I,aJ v (.sl xs (.gr s))=some I:=by
    cases a9 with
    |sl=>exact⟨_,rfl⟩
    |jt a c hg=>exact absurd rfl (hg _)
   obtain⟨D',hs,hf,hg⟩:=h.st.jw hi i t b0 j b1;refine⟨D',λp=>if p=c then some I else rs p,C D' _ (λp hp=>O3 (by have:=hp.1;omega)) ?_ (λx d => ?_) (λp x hp d a0 => ?_) (by rw[Q];trivial) (by rw[Q];trivial) (λo g=>by rw[Q]at g;cases g) (λo' a8 g => ?_)⟩
   ·rw[h3];have hX:∀x,XR X L (c+1) (λp=>if p=c then some I else rs p) x->x=I\/XR X L c rs x:=λx d=>by
     rcases d with d|⟨p,hp,d⟩
     ·exact .inr (.inl d)
     ·rcases p5 hp with rfl|hp
      ·simp at d;exact .inl d.symm
      ·have a3:p≠c:=by have:=hp.1;omega
       exact .inr (.inr ⟨p,hp,by simpa only[O3 a3]using d⟩)
    refine hs.mi (λx d => ?_) (λo' x b3 d => ?_) (λx p hp d => ?_)
    ·rcases hX x d with rfl|d
     ·exact hf.lt
     ·exact hs.wd.ef x d
    ·rcases hX x d with rfl|d
     ·exact hf.i o' b3
     ·exact hs.wd.cV o' x b3 d
    ·rcases hX x d with rfl|d
     ·rw[hf.k]at hp;cases hp
     ·exact(hs.wd.dC x p hp).1 d
   ·simp at d;subst d;exact λhx=>hf.x (.inl hx)
   ·simp at a0;subst a0;exact hf.x (.inr ⟨p,hp,d⟩)
   ·rw[Q]at g;cases g;exact⟨by omega,.inr ⟨xs,s,b,I,v,K,hi,by rw[Hr i];exact b0,a9,b1,u0,hg,t,j⟩⟩
end
end
section
variable{P:Program}{z:Array Oper}{l:List DS}{N:List wi}{G:GV}{u:FuncId->uZ->hN->R6}{R:Nat->uZ}{S:Nat->hN}{Q:Exit->Act->World->Prop}
variable{X:Nat->Prop}{L:Nat->Prop}{c:Nat}{us:vB}{U:uZ}{w:World}{M:vn}{J:bk}{D:cY}{rs:Nat->AQ}{a:Act}
def Qoj{a:Op}{i:Ins}(b:gQ i)(c:w9 P a i):nr a=T:=by unfold nr;split<;>first|rfl|(exfalso;cases i<;>first|(cases b;done)|(cases c;done))
def Wcw{i:Ins}(a:gQ i):Wep i=T:=by cases i<;>first|rfl|cases a
def We0(h:St M J X D w a.tmps.toList U f)(y:dJ G M J){s:Step}(A:z[d]?=W j)(q:Qgq P z j s)(k:gQ s.ins)(c:Zx G u s U f=W (e,B))(l:∀m w' i I D',m.defers=a.defers->Ext X M J w i I w'->Kp J w f I w' B->HK J w w'->St i I X D' w' m.tmps.toList e B->i1 m w'):wpOp P z Q d i1 a w:=by
 simp only[Qgq,vc,w4]at q;obtain⟨⟨g,n⟩,I'⟩:=q;unfold Zx at c;simp only[u7,vh]at c;obtain⟨b,C,c⟩:=c;have E:=Qof h.bC I' C;unfold wpOp;simp only[A,E];cases b with
 |true=>
  simp only[A9c]at c ⊢;have⟨F,v,w',i,I,D',U',p,⟨r,t,x⟩,o⟩:=Qzf h y g n (Wcw k) c;rw[<-ZN]at o;refine .inl ?_;unfold Oper.wp;rw[U'];rcases p with rfl|⟨rfl,rfl⟩
  ·exact l _ w' i I D' (ZQ _ _ _) r t (x (Qoj k n)) o
  ·exact l _ w' i I D' (ZQ _ _ _) r t (x (Qoj k n)) o
 |false=>simp only[vD,A9d,vU,A9g]at c ⊢;obtain⟨rfl,rfl⟩:=c;refine l _ _ M J D (ZQ _ _ _) (Ext.refl ..) (Kp.refl ..) (HK.refl _ _) ?_;rw[ZN,<-g];exact h.be .undef rfl _
def dL.cG{b:Nat}(h:dL M w i6 g)(w':aJ i6 g=W b)(v:∀i,p b i=M b i)(n:m.heap[b]?=w.heap[b]?):dL p m i6 g:=by
 refine⟨λo f c k d e l => ?_⟩;have⟨q,r,s,t,fz,u,y⟩:=h.ok o f c k d e l;have a:k.block=b:=by subst c l;simp only[aJ,vU]at w';exact w'
 exact⟨q,λj z=>by rw[a,v,<-a];exact r j z,s,t,fz,by rw[a,n,<-a];exact u,y⟩
def dF(L:Nat->Prop)(p q:Nat):Prop:=L q\/q=p
def wQ(h:cB (dF L d) c k):cB L c k/\k≠d:=⟨⟨h.1,λa=>h.2 (.inl a)⟩,λe=>h.2 (.inr e)⟩
def gG.dF(h:gG l N L)(c:d<l.length)(p:∀q∈N.getD d [],L q):gG l N (dF L d):=
 ⟨λq a=>by rcases a with a|rfl;exact h.lt q a;exact c,λq a r b=>by
  rcases a with a|rfl
  ·exact .inl (h.qB q a r b)
  ·exact .inl (p r b)⟩
def Qww{b:Nat}(h:XR X (dF L d) c rs b):XR X L c rs b:=by
 rcases h with h|⟨q,a,p⟩
 ·exact .inl h
 ·exact .inr ⟨q,(wQ a).1,p⟩
def Inv.qM(h:Inv G l N R S X L c us U w M J D rs)(t:cB L c d)(H:∀q∈N.getD d [],L q)(g:Qqk l R (dF L d) e)(k:Ext (XR X L c rs) M J w p v m)(f:∀o,o<(S c).length->bJ G l R S d≠.made o->v o=J o)(I:HK J w m)(z:St p v (XR X (dF L d) c rs) i5 m r e (S c)):Inv G l N R S X (dF L d) c r e m p v i5 rs:=by
 have K:=h.cn;refine⟨h.cn,h.cl.dF (by have:=t.1;omega) H,λq a => ?_,λq a A=>.inl (h.sX q a A),g,z,λq b a=>h.sY q b (wQ a).1,λq y b a D'=>h.sZ q y b (wQ a).1 (wQ D').1,
  λq a=>h.same q (wQ a).1,λq a=>h.quiet q (wQ a).1,λq o a n => ?_,λq y o a D'=>h.ka q y o (wQ a).1 (wQ D').1,λq o B a n => ?_⟩
 ·rcases a with a|rfl
  ·exact h.lt q a
  ·exact t.1
 ·have⟨a,U'⟩:=wQ a;have i:=h.same q a;rw[n]at i;obtain⟨u,_,s⟩:=i;rw[f o (wy.1 (xz s)).1 (λw'=>U' (h.ka q d o a t n w'))];exact h.made q o a n
 ·have⟨a,O⟩:=wQ a;have⟨E,C⟩:=h.cE q o B a n;refine⟨E,?_⟩;rcases C with ⟨C,F⟩|⟨Q,s,b,x,u,P,U'⟩
  ·exact .inl ⟨by rw[f o E (F d t)];exact C,λy D'=>F y (wQ D').1⟩
  ·have w':XR X L c rs x:=.inr ⟨q,a,U'.rs⟩;exact .inr ⟨Q,s,b,x,u,P,k.i.le _ _ U'.i,by unfold World.cell?; rw[I o b U'.i];exact U'.cell,U'.bC.mono k.m k.i,U'.own,U'.rs,U'.gr.cG U'.own (λi=>k.mX x i w') (k.cG x w'),U'.obj,U'.val⟩
def JC(b:cN P z l N)(p:wE G u l R S)(h:Inv G l N R S X L c us U w M J D rs)(a:d<l.length)(e:¬L d)(f:∀q∈N.getD d [],L q):
  U.length=(R d).length/\(∀t∈(aD l d).s.rd,U[t]?=(R d)[t]?):=
 ⟨h.slot.1.trans (p.len d Y).symm,λt g=>Wex b h.cl h.slot a e f (.inl g)⟩
def EG(p:cN P z l N)(I:wE G u l R S)(h:Inv G l N R S X L c us U w M J D rs)(a:d<l.length)(H:¬L d)(b:Zx G u (aD l d).s U f=W (e,B))(g:∀t∈(aD l d).s.wr,e[t]?=(R (d+1))[t]?):Qqk l R (dF L d) e:=
 Wey p I h.cl h.slot a H (OC b).1 g (OC b).2
def Inv.exec(m:cN P z l N)(s:wE G u l R S)(E:dJ G M J)(h:Inv G l N R S X L c a.tmps.toList U w M J D rs)(n:cB L c d)(A:∀q∈N.getD d [],L q)(e:gQ (aD l d).s.ins)(t:∀H,Zx G u (aD l d).s U (S d)=W (H,S (d+1))->Zx G u (aD l d).s U (S c)=W (H,S c))(F:∀f w' r g D' U',f.defers=a.defers->Ext (XR X L c rs) M J w r g w'->(∀o,o<(S c).length->bJ G l R S d≠.made o->g o=J o)->HK J w w'->Inv G l N R S X (dF L d) c f.tmps.toList U' w' r g D' rs->i1 f w'):wpOp P z Q (aD l d).op i1 a w:=by
 have K:d<l.length:=by have:=n.1;have:=h.cn;omega
 have⟨o,i,v⟩:=m.step d K;have⟨I,O⟩:=JC m s h K n.2 A;have⟨H,V,b⟩:=Ac (Qjg m s K e) I O;have j:=t H V;refine We0 h.st E i v e j λf w' r g D' x B k C y => ?_;exact F f w' r g D' H x B (λo i _=>k.mh o i) C (h.qM n A (EG m s h K n.2 j b) B (λo i _=>k.mh o i) C (y.gR λb K=>Qww K))
end
section
variable{P:Program}{N:Array Oper}{l:List DS}{z:List wi}{G:GV}{u:FuncId->uZ->hN->R6}{R:Nat->uZ}{S:Nat->hN}{Q:Exit->Act->World->Prop}
variable{X:Nat->Prop}{L:Nat->Prop}{c:Nat}{us:vB}{U:uZ}{w:World}{M:vn}{J:bk}{D:cY}{q:Nat->AQ}{a:Act}
def Qwx{A A':Arg->V}{i:Ins}(h:∀x∈i.args,A x=A' x):reads A f i=reads A' f i:=by cases i<;>first|rfl|(simp only[reads];rw[h _ (wA ..)])
def We1(c:e.length=K.length)(a:((e.drop k).take (if i4 then d else 1)).map V.ng=((K.drop k).take (if i4 then d else 1)).map V.ng)(h:part i4 d e k=W g):part i4 d K k=some g:=by
 unfold part at h ⊢;cases i4 with
 |true=>
  simp only[A9c]at h a ⊢;rw[<-c];split at h
  ·rename_i b;rw[A9a b,<-a];exact h
  ·cases h
 |false=>
  simp only[vD,A9d]at h a ⊢;split at h
  ·rename_i ds;rw[A9a ds];have ag:∀b:uZ,(((b.drop k).take 1).map V.ng)[0]?=b[k]?.map V.ng:=λb=>by rw[ym,xP,A9a Y,DT,KY]
   rw[<-ag,<-a,ag];exact h
  ·cases h
def nw{A T9:Arg->V}{I':hN}{i:Ins}(w:gQ i)(h:Qa4 u A T9 f i=W (g,I'))(c:Same f B (reads A f i))(b:∀o off,reads A f i≠.cE o off)(d:∀o,reads A f i≠.made o):Qa4 u A T9 B i=W (g,B):=by
 by_cases k:neutral i
 ·exact(DM k h).2
 ·cases i<;>(try (exact absurd w k))<;>(try (cases w;done))
  case alloc=>exact absurd rfl (d _)
  case box=>exact absurd rfl (d _)
  case da ag sz bytes dp l' c' hh=>
   cases hh with
   |false=>exact absurd rfl k
   |true=>exact absurd rfl (d _)
  case load ag sz x=>
   simp only[Qa4,Cs,u7,vh,vU,A9g,and_true]at h ⊢;obtain⟨y,a,l,_⟩:=h;refine⟨y,?_,l⟩;simp only[reads]at c;unfold eL at a ⊢;split at a
   ·rename_i o off m;simp only[m]at c ⊢;obtain⟨C,z,j,n,I2,I⟩:=c;simp only[vD,A9d]at I;simp only[u7,j,va]at a;simp only[u7,n,va];exact We1 I2 I a
   ·exact a
   ·cases a
  case loadT x=>
   simp only[Qa4]at h ⊢;simp only[reads]at c b;split at h
   ·rename_i o off m;simp only[m]at c b ⊢;simp only[u7,vh]at h;obtain⟨C,v,y,a,h⟩:=h;simp only[v,va,a]at c b;split at h
    ·rename_i e s;exact absurd rfl (b o off)
    ·cases h
    ·rename_i p E;simp only[vU,A9g]at h;have q:Same f B (.same true o off 1):=by
      split at c
      ·rename_i D s e;cases e;exact absurd rfl (p D s)
      ·exact c
     obtain⟨F,z,j,n,I2,I⟩:=q;rw[v]at j;cases j;simp only[A9c]at I;have e:∀r:uZ,((r.drop off).take 1)[0]?=r[off]?:=λr=>by rw[xP,A9a Y,DT,KY]
     have t:z[off]?=some y:=by rw[<-e,<-I,e];exact a
     simp only[u7,n,va,t];rw[<-h.1]
   ·simp only[u7,vh,vU,A9g,and_true]at h ⊢;obtain⟨y,a,l,_⟩:=h;exact⟨y,a,l⟩
   ·cases h
def Wn(f:cN P N l z)(g:wE G u l R S)(h:Inv G l z R S X L c us U w M J D q)(e:cB L c d)(i:∀j∈z.getD d [],L j):
  bJ G l R S d=if(wanted U (aD l d).s.gd).getD T then reads (arg G U) (S d) (aD l d).s.ins else .none:=by
 have b:d<l.length:=by have:=e.1;have:=h.cn;omega
 have⟨r,k⟩:=JC f g h b e.2 i;have a:∀t∈(aD l d).s.rd,U.getD t .undef=(R d).getD t .undef:=λt m=>by simp only[List.getD,k t m]
 unfold bJ;rw[V7 (U':=U) (U:=R d) λn p=>a n (JG _ p)];rw[Qwx (A:=arg G U) (A':=arg G (R d)) λx o=>by unfold arg;rw[Qqj (U':=U) (U:=R d) λn p=>a n (ET _ (KU.2 ⟨x,o,p⟩))]]
def Inv.iW(s:cN P N l z)(t:wE G u l R S)(B:dJ G M J)(h:Inv G l z R S X L c a.tmps.toList U w M J D q)(k:cB L c d)(x:∀C∈z.getD d [],L C)(g:gQ (aD l d).s.ins)(E:S (d+1)=S d)(i:∀o off,bJ G l R S d≠.cE o off)(j:∀o,bJ G l R S d≠.made o)(F:∀m w' y n D' U',m.defers=a.defers->Ext (XR X L c q) M J w y n w'->(∀o,o<(S c).length->bJ G l R S d≠.made o->n o=J o)->HK J w w'->Inv G l z R S X (dF L d) c m.tmps.toList U' w' y n D' q->i1 m w'):wpOp P N Q (aD l d).op i1 a w:=by
 refine h.exec s t B k x g (λH K => ?_) F;have e:=Wn s t h k x;have f:=h.same d k;rw[E]at f;unfold Zx j_ at K ⊢;simp only[u7,vh]at K;obtain⟨b,A,K⟩:=K;simp only[u7,A,va];rw[A]at e;cases b with
 |false=>simp only[vD,A9d,vU,A9g]at K ⊢;exact⟨K.1,trivial⟩
 |true=>simp only[A9c,vh,vU,A9g]at K ⊢;simp only[Cr,A9c]at e;obtain⟨⟨v,O⟩,I,r,_⟩:=K;rw[e]at f i j;exact⟨(v,S c),nw g I f i j,r,rfl⟩
end
section
variable{P:Program}{N:Array Oper}{l:List DS}{q:List wi}{G:GV}{z:FuncId->uZ->hN->R6}{R:Nat->uZ}{S:Nat->hN}{Q:Exit->Act->World->Prop}
variable{X:Nat->Prop}{L:Nat->Prop}{c:Nat}{us:vB}{U:uZ}{w:World}{M:vn}{J:bk}{D:cY}{u:Nat->AQ}{a:Act}
def We2{t:TypeId}{b:Nat}(g:j.op=.load t i8)(f:pJ P t T 1)(c:a.eval i8=.pointer (W ⟨b,d,none⟩))(h:w.cell? ⟨b,d,none⟩=W i6):(execOp a.eval j).run P w=.ok (.value i6) w:=by
 have x:d' P t=some T:=by simp only[pJ,vc,w4]at f;exact f.1.1
 unfold execOp;rw[g];simp only[Instr.loadAt,Instr.sureAddr,c,loadVar,vl,vF,DW x,Result.andThen,vD,A9d,Qm9 h]
def Qql{s:Step}(c:aq M J a.tmps.toList U)(K:N[d]?=W j)(e:Wkp N j.guard s.gd)(f:wanted U s.gd=W true)(b:(execOp a.eval j).run P w=.ok (.value i6) m)(g:i1 (a.put j.dst i6) m):wpOp P N Q d i1 a w:=by have:=Qof c e f;unfold wpOp;simp only[K,this,A9c];refine .inl ?_;unfold Oper.wp;rw[b];exact g
def Inv.km(E:cN P N l q)(hc:wE G z l R S)(hG:dJ G M J)(h:Inv G l q R S X L c a.tmps.toList U w M J D u)(f:cB L c d)(hd:∀F∈q.getD d [],L F)(I:gQ (aD l d).s.ins)(O:bJ G l R S d=.cE k i9)(hn:∀a' w' M' J' D' U',a'.defers=a.defers->Ext (XR X L c u) M J w M' J' w'->(∀k,k<(S c).length->bJ G l R S d≠.made k->J' k=J k)->HK J w w'->Inv G l q R S X (dF L d) c a'.tmps.toList U' w' M' J' D' u->i1 a' w'):wpOp P N Q (aD l d).op i1 a w:=by
 have g:d<l.length:=by have:=f.1;have:=h.cn;omega
 obtain⟨op,a9,V⟩:=E.step d g;obtain⟨hl,hr⟩:=JC E hc h g f.2 hd;obtain⟨H,m,b1⟩:=Ac (Qjg E hc g I) hl hr;have n:=EG E hc h g f.2 m b1;simp only[Qgq,vc,w4]at V;obtain⟨⟨b3,hi⟩,hg⟩:=V;have K:=Wn E hc h f hd;rw[O]at K;unfold Zx j_ at m;simp only[u7,vh]at m;obtain⟨b0,hb,m⟩:=m;rw[hb]at K;cases b0 with
 |false=>cases K
 |true=>
  simp only[A9c,vh,vU,A9g,Cr]at m K;obtain⟨⟨v,I2⟩,a0,b4,_⟩:=m;generalize c0:(aD l d).s.ins=b5 at*;cases b5<;>(try (cases I;done))<;>(try (cases K;done))
  case load ag sz x=>simp only[reads]at K;split at K<;>cases K
  case da=>simp only[reads]at K;split at K<;>cases K
  case loadT y=>
   simp only[reads]at K;split at K
   ·rename_i o' c1 hy;split at K
    ·rename_i xs s j;cases K;rw[vh]at j;obtain⟨cs,a1,a2⟩:=j;simp only[Qa4,hy,a1,a2,u7,va,vU,A9g]at a0;obtain⟨rfl,_⟩:=a0;cases a3:op.op<;>rw[a3]at hi<;>(try (cases hi;done));rename_i t x;simp only[w9,vc]at hi;have hA:=fN.bl h.st.bC hG;have a4:=hA.ok _ _ hi.2;rw[hy]at a4;obtain⟨b,b6,a5⟩:=a4.cZ;obtain⟨c2,r⟩:=h.cE d k i9 f O;rcases r with ⟨a6,_⟩|⟨c3,s',b',off,rs,c4,e⟩
     ·rw[a5]at a6;cases a6
     ·have e1:=e.i;rw[a5]at e1;cases e1;have e2:=e.obj;rw[xz a1]at e2;cases e2;have e3:=e.val;rw[a2]at e3;cases e3;have a7:=We2 a3 hi.1 b6 e.cell;have A:XR X L c u off:=.inr ⟨d,f,e.rs⟩;have B:jv M J (XR X (dF L d) c u) D w off:=by
       refine⟨?_,λhx => ?_,λo' b7=>h.st.wd.cV o' off b7 A,h.st.wd.ef off A⟩
       ·cases b8:D off with
        |none=>rfl
        |some F=>exact absurd A (h.st.wd.dC off F b8).1
       ·rcases hx with hx|⟨F,hq,i⟩
        ·exact h.sY d off f e.rs hx
        ·obtain⟨hq,b9⟩:=wQ hq;exact b9 (h.sZ F d off hq f i e.rs)
      obtain⟨D',C⟩:=(h.st.gR λb hb=>Qww hb).jW e.bC (λb i=>by rw[e.own]at i;cases i;exact⟨B,e.gr⟩) op.dst;rw[<-ZN]at C;have a8:H=put U op.dst (.sl xs (.gr s)):=by rw[b3,<-b4];rfl
      rw[<-a8]at C;exact Qql h.st.bC a9 hg hb a7 (hn _ w M J D' H (ZQ _ _ _) (Ext.refl ..) (λ_ _ _=>rfl) (HK.refl _ _) (h.qM f hd n (Ext.refl ..) (λ_ _ _=>rfl) (HK.refl _ _) C))
    ·cases K
   ·cases K
theorem Inv.kn(hk:cN P N l q)(hc:wE G z l R S)(hG:dJ G M J)(h:Inv G l q R S X L c a.tmps.toList U w M J D u){p:Nat}(hp:cB L c p)(hd:∀dp∈q.getD p [],L dp)(hdl:gQ (aD l p).s.ins=true){o:Nat}(hto:bJ G l R S p=.made o){K:Act->World->Prop}(hn:∀a' w' M' J' D' U',a'.defers=a.defers->Ext (XR X L c u) M J w M' J' w'->(∀o,o<(S c).length->bJ G l R S p≠.made o->J' o=J o)->HK J w w'->Inv G l q R S X (dF L p) c a'.tmps.toList U' w' M' J' D' u->K a' w'):wpOp P N Q (aD l p).op K a w:=by
 have hpl:p<l.length:=by have:=hp.1;have:=h.cn;omega
 obtain⟨op,hop,hck⟩:=hk.step p hpl;obtain⟨hl,hr⟩:=JC hk hc h hpl hp.2 hd;obtain⟨H,he,hwr⟩:=Ac (Qjg hk hc hpl hdl) hl hr;have hslot:=EG hk hc h hpl hp.2 he hwr;simp only[Qgq,vc,w4]at hck;obtain⟨⟨hds,hi⟩,hg⟩:=hck;have hrd:=Wn hk hc h hp hd;rw[hto]at hrd;have hsm:=h.same p hp;rw[hto]at hsm;obtain⟨cs,hs1,hs2⟩:=hsm;have hι0:=h.made p o hp hto;have fin0:∀(ars:wk) (T9:TypeId) (v0:Value) (x0:V),(∀M' J',bk.at' J' o=some w.heap.size->aB M' J' v0 x0)->aJ v0 x0=none->wanted U (aD l p).s.gd=some true->(execOp a.eval op).run P w=.ok (.value v0) (Ag w (.cells ars T9))->H=put U op.dst x0->aq M J ars.toList cs->(∀x∈cs,x.one=true)->(∀x∈cs,x.ng=x)->wpOp P N Q (aD l p).op K a w:=by
  intro ars T9 v0 x0 hv0 ho0 hb hrun hτ hrep hone hng;have hcl:cs.length=ars.size:=by have:=hrep.1;simpa using this.symm
  obtain⟨M',J',hx,hi',hst,hdm⟩:=h.st.ti hι0 (xz hs2) ars T9 (0,0) (by rw[hcl,<-DR,Hl];exact hrep) (λi _=>by unfold Qbg;simp) hone (λx hx v=>by rw[<-hng x hx];exact w7 _ _);have hst2:=(hst.gR (X':=XR X (dF L p) c u) λb hb=>Qww hb).be (hv0 _ _ hi') ho0 op.dst;rw[<-ZN,<-hτ]at hst2;have hdom:∀o',o'<(S c).length->bJ G l R S p≠.made o'->J' o'=J o':=λo' _ hne=>hdm o' (λe=>hne (by rw[hto,e]));exact Qql h.st.bC hop hg hb hrun (hn _ _ M' J' D H (ZQ _ _ _) hx hdom (h.st.wd.bR _) (h.qM hp hd hslot hx hdom (h.st.wd.bR _) hst2))
 have fin:∀(ars:wk) (T9:TypeId),wanted U (aD l p).s.gd=some true->(execOp a.eval op).run P w=.ok (.value (.pointer (some ⟨w.heap.size,0,none⟩))) (Ag w (.cells ars T9))->H=put U op.dst (.ptr o 0)->aq M J ars.toList cs->(∀x∈cs,x.one=true)->(∀x∈cs,x.ng=x)->wpOp P N Q (aD l p).op K a w:=
  λars T9=>fin0 ars T9 _ _ (λM' J' hi=>.ptr o 0 _ hi) rfl
 unfold Zx j_ at he;simp only[u7,vh]at he;obtain⟨b0,hb,he⟩:=he;rw[hb]at hrd;cases b0 with
 |false=>cases hrd
 |true=>
  simp only[A9c,vh,vU,A9g,Cr]at he hrd;obtain⟨⟨v,I2⟩,hev,hτ,hσ⟩:=he;simp only at hσ;subst hσ;have hA:=fN.bl h.st.bC hG;generalize hins:(aD l p).s.ins=ins at*;have last:∀call,S (p+1)=S p++[.cells call]->cs=call:=λcall hz=>by
   cases ins<;>(try (cases hdl;done))<;>(try (cases hrd;done))
   case load=>simp only[reads]at hrd;split at hrd<;>cases hrd
   case loadT=>simp only[reads]at hrd;split at hrd<;>(try (cases hrd;done));split at hrd<;>cases hrd
   case da=>
    simp only[reads]at hrd;split at hrd
    ·cases hrd;have:=xz hs1;rw[hz]at this;simp at this;exact this.symm
    ·cases hrd
   all_goals
    cases hrd;have:=xz hs1;rw[hz]at this;simp at this;exact this.symm
  cases ins<;>(try (cases hdl;done))<;>(try (cases hrd;done))
  case load=>simp only[reads]at hrd;split at hrd<;>cases hrd
  case loadT=>simp only[reads]at hrd;split at hrd<;>(try (cases hrd;done));split at hrd<;>cases hrd
  case alloc call=>
   simp only[Qa4]at hev;split at hev
   ·simp only[vU,A9g]at hev;have hcz:=last call hev.2.symm;subst hcz;cases hoo:op.op<;>rw[hoo]at hi<;>(try (cases hi;done));rename_i e;simp only[w9]at hi;split at hi
    ·rename_i zv hzv;obtain⟨hr1,hr2,_⟩:=zS (M:=M) (J:=J) hi;refine fin zv.cells e hb ?_ ?_ hr1 (λx hx=>(hr2 x hx).1) (λx hx=>(hr2 x hx).2)
     ·unfold execOp;rw[hoo];simp only[Instr.alloc,vl,Qzd hzv,Result.andThen,Qjd,vF]
     ·cases hrd;rw[hds,<-hτ,<-hev.1];rfl
    ·cases hi
   ·cases hev
  case box y=>
   simp only[Qa4]at hev;split at hev
   ·rename_i hok;simp only[vU,A9g]at hev;have hcz:=last _ hev.2.symm;subst hcz;cases hoo:op.op<;>rw[hoo]at hi<;>(try (cases hi;done));rename_i e x;simp only[w9]at hi;have hvx:=hA.ok _ _ hi;refine fin (a.eval x).cells e hb ?_ ?_ ((hvx.cells (zW hok)).ng) (ye (zW hok)) (λx hx=>by obtain⟨y',_,rfl⟩:=wa.1 hx;exact V.ck y')
    ·unfold execOp;rw[hoo];simp only[vl,Qjd,Result.andThen];rfl
    ·cases hrd;rw[hds,<-hτ,<-hev.1];rfl
   ·cases hev
  case da ag sz bytes call l' c' hh=>
   cases hh with
   |false=>simp only[reads,vD,A9d]at hrd;cases hrd
   |true=>
    simp only[reads,A9c]at hrd;cases hoo:op.op<;>rw[hoo]at hi<;>(try (cases hi;done));simp only[w9]at hi;split at hi
    ·rename_i e hE;simp only[vc,A9f]at hi;obtain⟨⟨⟨⟨⟨⟨hz,hzl⟩,hpos⟩,hb0⟩,hby⟩,hl'⟩,hcc⟩:=hi;obtain⟨ln,cn,as',cs',hv,hs',hlc,hrun,hrep,hone,hng⟩:=Wek hA hoo hE hz hzl hpos hb0 hby hl' hcc hev;have hcz:=last cs' hs';subst hcz;cases hrd;exact fin0 as' e _ _ (λM' J' hi=>.hs _ 0 ln sz ag _ cn hi hlc) rfl hb hrun (by rw[hds,<-hτ,hv];rfl) hrep hone hng
    ·cases hi
end
section
variable{P:Program}{N:Array Oper}{l:List DS}{dp:List wi}{G:GV}{z:FuncId->uZ->hN->R6}{R:Nat->uZ}{S:Nat->hN}{Q:Exit->Act->World->Prop}
variable{X:Nat->Prop}{L:Nat->Prop}{c:Nat}{us:vB}{U:uZ}{w w0:World}{M M0:vn}{J J0:bk}{D:cY}{u:Nat->AQ}{a:Act}
def Kp.late(h:St M J X D w us U (S c))(d:jy (S c) f):Kp J w (S c) J w f:=by
 refine⟨d.len,λ_ _=>rfl,λo b i I' a=>⟨?_,rfl⟩⟩;cases d with
 |stay=>exact a
 |cE j e k l s g m=>
  rw[Qne g]at a;split at a
  ·exact absurd a.1 (by simp[V.dg])
  ·exact a
 |made l=>obtain⟨j,x,e,g,k⟩:=a;rw[AH (h.wd.dK I')]at e;exact⟨j,x,e,g,k⟩
structure Acc (G:GV) (l:List DS) (R:Nat->List V) (S:Nat->hN) (X:Nat->Prop) (L:Nat->Prop) (c:Nat) (M0:vn) (J0:bk) (w0:World) (M:vn) (J:bk) (w:World):Prop where
 ext:Ext X M0 J0 w0 M J w
 kp:Kp J0 w0 (S 0) J w (S c)
 s0:∀p o,cB L c p->bJ G l R S p=.made o->(S 0).length<=o
theorem tj(g:cN P N l dp)(i:wE G z l R S):∀(n c:Nat) (D:cY) (u:Nat->AQ),l.length-c=n->Inv G l dp R S X L c us U w M J D u->Acc G l R S X L c M0 J0 w0 M J w->
  ∃c' D' d,Inv G l dp R S X L c' us U w M J D' d/\Acc G l R S X L c' M0 J0 w0 M J w/\(c'<l.length->gQ (aD l c').s.ins=T)
 |0,c,D,u,e,h,a=>⟨c,D,u,h,a,λb=>by omega⟩
 |n+1,c,D,u,q,h,e=>by
  cases j:gQ (aD l c).s.ins with
  |false=>exact⟨c,D,u,h,e,λ_=>j⟩
  |true=>
   have f:c<l.length:=by omega
   have a:=Ut g i f j;have⟨D',d,k⟩:=h.advance g i f j;refine tj g i n (c+1) D' d Y k ⟨e.ext,e.kp.trans e.ext.i (Kp.late h.st a.late),λp o hp b => ?_⟩;rcases p5 hp with rfl|hp
   ·cases a with
    |none _ m=>rw[m]at b;cases b
    |same _ _ _ _ _ m=>rw[m]at b;cases b
    |cE _ _ _ _ _ _ _ _ m=>rw[m]at b;cases b
    |made _ _ m=>rw[m]at b;cases b;exact e.kp.len
   ·exact e.s0 p o hp b
def Acc.qM(a:Acc G l R S X L c M0 J0 w0 M J w)(j:cB L c d)(n:Ext (XR X L c u) M J w p v m)(w':∀o,o<(S c).length->bJ G l R S d≠.made o->v o=J o)(r:HK J w m):
  Acc G l R S X (dF L d) c M0 J0 w0 p v m:=by
 refine⟨a.ext.trans (n.less λb s=>.inl s),⟨a.kp.len,λo f => ?_,λo b i k h => ?_⟩,λq o t f=>a.s0 q o (wQ t).1 f⟩
 ·rw[w' o (Hj f a.kp.len) (λe=>by have:=a.s0 d o j e;omega)];exact a.kp.mh o f
 ·have⟨e,g⟩:=a.kp.lk o b i k h;refine⟨e,?_⟩;have:m.cell? ⟨b,i,none⟩=w.cell? ⟨b,i,none⟩:=by unfold World.cell?; rw[r o b (a.ext.i.le _ _ k)]
  rw[this,g]
def Qt8(h:neutral (aD l d).s.ins):bJ G l R S d=.none:=by unfold bJ;rw[DN h];split<;>rfl
def Inv.effect(hk:cN P N l dp)(hc:wE G z l R S)(hG:dJ G M J)(hS:∀f,bL P G f (z f))(h:Inv G l dp R S X L c a.tmps.toList U w M J D u)(hA:Acc G l R S X L c M0 J0 w0 M J w)(j:c<l.length)(hd:∀q∈dp.getD c [],L q)(a5:gQ (aD l c).s.ins=T)(hn:∀I w' V x D' U',I.defers=a.defers->Inv G l dp R S X (dF L c) (c+1) I.tmps.toList U' w' V x D' u->Acc G l R S X (dF L c) (c+1) M0 J0 w0 V x w'->i1 I w'):wpOp P N Q (aD l c).op i1 a w:=by
 have f:¬L c:=λy=>by have:=h.lt c y;omega
 have⟨op,i1,a6⟩:=hk.step c j;have⟨y,A⟩:=JC hk hc h j f hd;have⟨I0,I1,h1,h2,h3,h4⟩:=hc c j;have⟨H,he,a7⟩:=Ac h2 y A;have B:=EG hk hc h j f he a7;have⟨f,l2,l3⟩:=Qt6 (M:=M) (J:=J) (X:=XR X L c u) (D:=D) (w:=w) (us:=a.tmps.toList) (U:=U) _ _ _ h1;refine Wer (f h.st) hG i1 a6 hS he λI w' f => ?_;obtain⟨a8,V,x,D',O,p,i1⟩:=f;have⟨f,o2,o3,o4⟩:=Qt7 (M:=V) (J:=x) (X:=XR X L c u) (D:=D') (w:=w') (us:=I.tmps.toList) (U:=H) _ _ _ h3;have a0:=f i1;have a1:(S c).length<=(S (c+1)).length:=by have:=p.len;omega
 have g:∀ {q},cB (dF L c) (c+1) q->cB L c q:=λ{q} d=>by
  rcases p5 d with rfl|d
  ·exact absurd (.inr rfl) d.2
  ·exact(wQ d).1
 have f:∀ {q},cB L c q->cB (dF L c) (c+1) q:=λ{q} d=>⟨by have:=d.1;omega,λy=>by
  rcases y with y|rfl
  ·exact d.2 y
  ·exact absurd d.1 (Nat.lt_irrefl _)⟩
 have a2:∀q,cB L c q->bJ G l R S q=.none\/q∈(aD l c).un:=λq d=>by
  rcases hk.pair c j q d.1 with hm|⟨_,_,hm⟩
  ·exact absurd (hd q hm) d.2
  ·rcases hm with hm|hm|hm
   ·rw[a5]at hm;cases hm
   ·exact .inl (Qt8 hm)
   ·exact .inr hm
 have k:∀q,cB L c q->Same (S c) (S (c+1)) (bJ G l R S q):=λq d=>by
  rcases a2 q d with hm|hm
  ·rw[hm];trivial
  ·exact Qwu (h4 q hm)
 have m:∀o,o<(S c).length->x o=J o:=λo t=>p.mh o Y;have f:Kp J w (S c) x w' (S (c+1)):=by refine⟨a1,m,λo b i e C => ?_⟩;have⟨n,s⟩:=o3 o i C;have⟨v,y⟩:=p.lk o b i e n;exact⟨(l3 o i v).resolve_right s,y⟩
 refine hn I w' V x D' H a8 ⟨by omega,h.cl.dF j hd,λq d => ?_,λq d a9 => ?_,B,a0.gR λb E => ?_,λq b d=>h.sY q b (g d),λq r b d A=>h.sZ q r b (g d) (g A),
  λq d=>(h.same q (g d)).trans (k q (g d)),λq d=>(h.quiet q (g d)).same (k q (g d)),λq o d t => ?_,λq r o d A=>h.ka q r o (g d) (g A),λq o F d t => ?_⟩ ⟨hA.ext.trans (O.less λb E=>.inl E),hA.kp.trans hA.ext.i f,λq o d t=>hA.s0 q o (g d) t⟩
 ·rcases d with d|rfl
  ·have:=h.lt q d;omega
  ·omega
 ·rcases Hn q c with e|n
  ·exact .inl (h.sX q e a9)
  ·exact .inr Y
 ·rcases E with E|⟨q,d,E⟩
  ·exact .inl E
  ·exact .inr ⟨q,g d,E⟩
 ·have e:=h.same q (g d);rw[t]at e;obtain⟨s,_,n⟩:=e;rw[m o (wy.1 (xz n)).1];exact h.made q o (g d) t
 ·have⟨g1,g2⟩:=h.cE q o F (g d) t;refine⟨by omega,?_⟩;rcases g2 with ⟨g2,f⟩|⟨xs,s,b,bb,v,cs,n⟩
  ·exact .inl ⟨by rw[m o g1];exact g2,λr A=>f r (g A)⟩
  ·have a3:XR X L c u bb:=.inr ⟨q,g d,n.rs⟩;have a4:(o,F)∈((aD l c).un.map (bJ G l R S)).filterMap Rd.cell:=by refine KU.2 ⟨bJ G l R S q,wa.2 ⟨q,(a2 q (g d)).resolve_left (λe=>by rw[t]at e;cases e),rfl⟩,?_⟩;rw[t];rfl
   have C:=p.lk o b F n.i (o4 _ a4);exact .inr ⟨xs,s,b,bb,v,cs,O.i.le _ _ n.i,by rw[C.2];exact n.cell,n.bC.mono O.m O.i,n.own,n.rs,n.gr.cG n.own (λi=>O.mX bb i a3) (O.cG bb a3),n.obj,n.val⟩
end
section
variable{P:Program}{u:Array Oper}{l:List DS}{N:List wi}{G:GV}{z:FuncId->uZ->hN->R6}{R:Nat->uZ}{S:Nat->hN}{Q:Exit->Act->World->Prop}
variable{X:Nat->Prop}{U:uZ}{I:hN}{w w0:World}{M M0:vn}{J J0:bk}{D:cY}{a:Act}
def left(n:Nat)(listed:Array Bool):Nat:=(List.range n).countP λi=>!listed.getD i false
theorem QG{p q:Nat->Bool}{i:Nat}:∀(xs:wi),(∀x∈xs,q x->p x)->i∈xs->p i->q i=T->xs.countP q+1<=xs.countP p
 |[],_,a,_,_=>by simp at a
 |x::xs,h,j,e,f=>by
  have a:xs.countP q<=xs.countP p:=List.countP_mono_left λy b=>h y (wh _ b);rw[List.countP_cons,List.countP_cons];by_cases g:x=i
  ·subst g;rw[e,f];simp;exact a
  ·have:=QG xs (λy b=>h y (wh _ b)) ((vZ.1 j).resolve_left (Ne.symm g)) e f;have c:=h x (wA ..);cases d:q x
   ·simp only[vD,A9d];split<;>omega
   ·rw[c d];simp only[A9c];omega
def Wkr(a:cN P u l N)(b:d<u.size):(aD l (place l d)).op=d:=by have h:=a.all d b;have:=List.findIdx_getElem (p:=λi:DS=>i.op==d) (xs:=l) (w:=h);unfold aD;rw[List.getD,vO h];exact beq_iff_eq.1 this
def dM(l:List DS)(listed:Array Bool)(p:Nat):Prop:=p<l.length/\listed.getD (aD l p).op false=true
def Wqh(a:cN P u l N)(b:d<l.length):(aD l d).op<u.size:=by have⟨o,c,_⟩:=a.step d b;exact(Fa.1 c).1
def Wks(c:cN P u l N){listed:Array Bool}(a:listed.size=u.size)(b:d<l.length):dM l (listed.setIfInBounds (aD l d).op true)=dF (dM l listed) d:=by
 funext q;apply propext;unfold dM dF;constructor
 ·rintro⟨p,g⟩;by_cases f:q=d
  ·exact .inr f
  ·refine .inl ⟨p,?_⟩
   rwa[getD_set_ne T (λe=>f (c.inj q d p b e.symm))]at g
 ·rintro(⟨p,e⟩|rfl)
  ·exact⟨p,getD_set_true e⟩
  ·refine⟨b,?_⟩;have:=Wqh c b;simp[OR,T5,a,this]
def Qzk(m:cN P u l N){listed:Array Bool}{p:Nat}(n:p<l.length)(k:u[(aD l p).op]?=W j):
  (∀q∈dU u l p,dM l listed q)↔∀e∈j.after,Region.binds .any e->listed.getD e.on T:=by
 have f:∀e∈j.after,Region.binds .any e->place l e.on∈dU u l p:=λe a c=>by unfold dU;rw[k];exact wa.2 ⟨e,I4.2 ⟨by simpa using a,c⟩,rfl⟩
 have g:∀e∈j.after,Region.binds .any e->place l e.on<l.length/\(aD l (place l e.on)).op=e.on:=λe a c=>by
  have h:=m.lF p n _ (f e a c);have b:place l e.on<l.length:=by omega
  refine⟨b,?_⟩;have:=List.findIdx_getElem (p:=λd:DS=>d.op==e.on) (xs:=l) (w:=b);unfold aD;rw[List.getD,vO b];exact beq_iff_eq.1 this
 constructor
 ·intro h e a c;have:=(h _ (f e a c)).2
  rwa[(g e a c).2]at this
 ·intro h q i;unfold dU at i;rw[k]at i;obtain⟨e,a,rfl⟩:=wa.1 i;have⟨o,d⟩:=I4.1 a;have b:e∈j.after:=by simpa using o
  have⟨r,s⟩:=g e b d;exact⟨r,by rw[s];exact h e b d⟩
def We3(g:cN P u l N)(hc:wE G z l R S)(hS:∀f,bL P G f (z f))(b1:dJ G M0 J0){df:List Deferred}(hQ:∀a' w' M' J' D',a'.defers=df->Ext X M0 J0 w0 M' J' w'->Kp J0 w0 (S 0) J' w' (S l.length)->St M' J' X D' w' a'.tmps.toList (R l.length) (S l.length)->Q .normal a' w'):
  ∀(d:Nat) (listed:Array Bool) (a:Act) (c:Nat) (U:uZ) (w:World) (M:vn) (J:bk) (D:cY) (C:Nat->AQ),listed.size=u.size->left u.size listed<=d->a.defers=df->
   Inv G l N R S X (dM l listed) c a.tmps.toList U w M J D C->Acc G l R S X (dM l listed) c M0 J0 w0 M J w->(c<l.length->gQ (aD l c).s.ins=false)->wpAny P .any u Q d listed a w:=by
 have done:∀(listed:Array Bool) (a:Act) (c:Nat) (U:uZ) (w:World) (M:vn) (J:bk) (D:cY) (C:Nat->AQ),a.defers=df->(∀p,p<l.length->dM l listed p)->
   Inv G l N R S X (dM l listed) c a.tmps.toList U w M J D C->Acc G l R S X (dM l listed) c M0 J0 w0 M J w->(c<l.length->gQ (aD l c).s.ins=false)->Q .normal a w:=by
  intro listed a c U w M J D C k v h hA m;have b3:c=l.length:=by
   rcases Hn c l.length with b4|c5
   ·have:=h.lt c (v c b4);omega
   ·have:=h.cn;omega
  subst b3;have b5:U=R l.length:=Hk λt=>h.slot.2 t l.length (vE _) (λq hq _=>v q hq) (λq h1 h2 _=>by omega);subst b5;exact hQ a w M J D k hA.ext hA.kp (h.st.gR λb hb=>.inl hb)
 intro d;induction d with
 |zero=>
  intro listed a c U w M J D C a3 E k h hA m;have F:∀i,i<u.size->listed.getD i false:=λi hi=>by
   have h0:(List.range u.size).countP (λi=>!listed.getD i false)=0:=by unfold left at E;omega
   have:=List.countP_eq_zero.1 h0 i (KX.2 hi);simpa using this
  have v:∀p,p<l.length->dM l listed p:=λp hp=>⟨hp,F _ (Wqh g hp)⟩
  refine⟨?_,done listed a c U w M J D C k v h hA m⟩;cases b6:Region.ready .any u listed with
  |nil=>rfl
  |cons i r=>
   have hm:i∈Region.ready .any u listed:=by rw[b6];exact wA ..
   obtain⟨h1,o,ho,_⟩:=mem_ready.1 hm;have hi:=(Fa.1 ho).1;have h2:=F i hi;have H:i<listed.size:=by omega
   simp[Array.getD,H]at h1 h2;rw[h1]at h2;cases h2
 |succ d ih=>
  intro listed a c U w M J D C a3 E k h hA m;have a4:∀ {p},p<l.length->¬dM l listed p->listed.getD (aD l p).op true=false:=λ{p} hp hn=>by
   have H:(aD l p).op<listed.size:=by have:=Wqh g hp;omega
   have:=λe=>hn ⟨hp,e⟩;simp[Array.getD,H]at this ⊢;exact this
  refine⟨λh0 => ?_,λi hi => ?_⟩
  ·refine done listed a c U w M J D C k (λp => ?_) h hA m;induction p using Nat.strongRecOn with
   |_ p b7=>intro hp;refine Dx λhn => ?_;obtain⟨o,ho,_⟩:=g.step p hp;have he:=(Qzk g (listed:=listed) hp ho).1 (λq hq=>b7 q (g.lF p hp q hq) (by have:=g.lF p hp q hq;omega));have:(aD l p).op∈Region.ready .any u listed:=mem_ready.2 ⟨a4 hp hn,o,ho,he⟩;rw[h0]at this;cases this
  ·obtain⟨h1,o,ho,h2⟩:=mem_ready.1 hi;have a5:=(Fa.1 ho).1;have j:=g.all i a5;have a8:=Wkr g a5;generalize place l i=p at j a8;subst a8;have hn:¬dM l listed p:=λe=>by
    have H:(aD l p).op<listed.size:=by omega
    have e2:=e.2;simp[Array.getD,H]at h1 e2;rw[h1]at e2;cases e2
   have hd:=Wqg g (λq hq b8 r hr=>h.cl.qB q hq r (g.sub q b8 r hr)) p j ((Qzk g j ho).2 h2);have I:=Wks g a3 j;have a1:(listed.setIfInBounds (aD l p).op true).size=u.size:=by rw[Array.size_setIfInBounds];exact a3
   have y:left u.size (listed.setIfInBounds (aD l p).op true)<=d:=by
    have:left u.size (listed.setIfInBounds (aD l p).op true)+1<=left u.size listed:=by
     unfold left;refine QG _ (λx _ hx => ?_) (KX.2 a5) ?_ ?_
     ·cases b9:listed.getD x false
      ·rfl
      ·rw[getD_set_true b9]at hx;cases hx
     ·have:=λe=>hn ⟨j,e⟩;simpa using this
     ·have:=congrFun I p;have c0:dM l (listed.setIfInBounds (aD l p).op true) p:=by rw[this];exact .inr rfl
      rw[c0.2];rfl
    omega
   have K:=b1.mono hA.ext.m hA.ext.i;have next:∀a' w' M' J' D' U',a'.defers=a.defers->Ext (XR X (dM l listed) c C) M J w M' J' w'->(∀o,o<(S c).length->bJ G l R S p≠.made o->J' o=J o)->HK J w w'->cB (dM l listed) c p->
     Inv G l N R S X (dF (dM l listed) p) c a'.tmps.toList U' w' M' J' D' C->wpAny P .any u Q d (listed.setIfInBounds (aD l p).op true) a' w':=by
    intro a' w' M' J' D' U' L hx a9 hh c1 A;have a0:=hA.qM c1 hx a9 hh;rw[<-I]at A a0;exact ih _ a' c U' w' M' J' D' C a1 y (L.trans k) A a0 m
   rcases Nat.lt_trichotomy p c with B|B|B
   ·have hp:cB (dM l listed) c p:=⟨B,hn⟩
    have O:gQ (aD l p).s.ins:=by
     cases hq:gQ (aD l p).s.ins with
     |true=>rfl
     |false=>exact absurd (h.sX p B hq) hn
    have a6:=Ut g hc j O;cases a6 with
    |none g1 g2=>exact h.iW g hc K hp hd O g1 (λo a7 e=>by rw[g2]at e;cases e) (λo e=>by rw[g2]at e;cases e) (λa' w' M' J' D' U' q1 q2 q3 q4 q5=>next a' w' M' J' D' U' q1 q2 q3 q4 hp q5)
    |same ex o a7 n g1 g2=>exact h.iW g hc K hp hd O g1 (λo a7 e=>by rw[g2]at e;cases e) (λo e=>by rw[g2]at e;cases e) (λa' w' M' J' D' U' q1 q2 q3 q4 q5=>next a' w' M' J' D' U' q1 q2 q3 q4 hp q5)
    |cE o a7 cs xs s g1 g2 g3 g4=>exact h.km g hc K hp hd O g4 (λa' w' M' J' D' U' q1 q2 q3 q4 q5=>next a' w' M' J' D' U' q1 q2 q3 q4 hp q5)
    |made cs g1 g2=>exact h.kn g hc K hp hd O g2 (λa' w' M' J' D' U' q1 q2 q3 q4 q5=>next a' w' M' J' D' U' q1 q2 q3 q4 hp q5)
   ·subst B;refine h.effect g hc K hS hA j hd (m j) λa' w' M' J' D' U' L A a0 => ?_;obtain⟨c',c2,c3,V,a2,b0⟩:=tj g hc _ _ _ _ rfl A a0;rw[<-I]at V a2;exact ih _ a' c' U' w' M' J' c2 c3 a1 y (L.trans k) V a2 b0
   ·exfalso;have c4:c<l.length:=by omega
    rcases g.pair p j c B with hm|⟨_,hm,_⟩
    ·have:=h.lt c (hd c hm);omega
    ·rw[m c4]at hm;cases hm
end
section
variable{P:Program}{u:Array Oper}{l:List DS}{G:GV}{z:FuncId->uZ->hN->R6}{Q:Exit->Act->World->Prop}
variable{X:Nat->Prop}{U:uZ}{I:hN}{w:World}{M:vn}{J:bk}{D:cY}{a:Act}
def Wqi:left k6 w3<=k6:=by unfold left;have:=List.countP_le_length (p:=λi=>!w3.getD i T) (l:=List.range k6);simpa using this
def We4(y:P.follows .mixedOrders)(A:∀f,bL P G f (z f))(h:St M J X D w a.tmps.toList U I)(O:dJ G M J){id:Nat}(c:Tj P u l){U':uZ}{I':hN}(f:zI G z [] l U I=W (U',I'))(hQ:∀B w',jo a M J X w I U' I' B w'->Q .normal B w'):(Code.region id u true).wp P Q a w:=by
 have⟨j,C⟩:=Ws c;have⟨R,S,V,n,E,r,F⟩:=Qzj G z l [] U I U' I' f;have i:=Wkq C F;have g:∀p,¬dM l (Array.replicate u.size T) p:=λp e=>by have:=e.2;simp[OR,Array.getElem?_replicate]at this;split at this<;>simp at this
 have d:∀p,¬cB (dM l (Array.replicate u.size T)) 0 p:=λp e=>by have:=e.1;omega
 have k:∀b,XR X (dM l (Array.replicate u.size T)) 0 (λ_=>none) b->X b:=λb m=>by
  rcases m with m|⟨p,e,_⟩
  ·exact m
  ·exact absurd e (d p)
 have s:Inv G l j R S X (dM l (Array.replicate u.size T)) 0 a.tmps.toList U {w with drawn:=w.drawn+1} M J D (λ_=>none):=by
  refine⟨by omega,⟨λp e=>e.1,λp e=>absurd e (g p)⟩,λp e=>absurd e (g p),λp e=>by omega,⟨by rw[V],λt m H L c => ?_⟩,by rw[n];exact h.drew.gR k,
   λp b e=>absurd e (d p),λp q b e=>absurd e (d p),λp e=>absurd e (d p),λp e=>absurd e (d p),λp o e=>absurd e (d p),λp q o e=>absurd e (d p),λp o v e=>absurd e (d p)⟩
  have K:∀m,m<=l.length->(∀q,q<m->t∉(aD l q).s.wr)->(R m)[t]?=(R 0)[t]?:=by
   intro m;induction m with
   |zero=>intro _ _;rfl
   |succ m b=>intro c v;rw[(i.frame (by omega:m<l.length)).2 t (v m Y)];exact b Y (λq b=>v q Y)
  rw[K m H (λq b c=>g q (L q b c)),V]
 have x:Acc G l R S X (dM l (Array.replicate u.size T)) 0 M J w M J {w with drawn:=w.drawn+1}:=
  ⟨Ext.drew ..,Kp.same _ _ (λ_ _ _=>rfl),λp o e=>absurd e (d p)⟩
 have⟨c,b,L,j,k,N⟩:=tj C i _ _ _ _ rfl s x;refine wp_region_any y ?_;refine We3 C i A O (λB w' d e O f g y A => ?_) u.size _ a c U _ M J b L u0 (Wqi _ _) rfl j k N;rw[E,r]at A;rw[n,r]at y;exact hQ B w' ⟨f,d,e,O,g,y,A⟩
end
theorem Co{n:Nat}:∀ {xs:uZ},V.aL n xs=true↔∀x∈xs,V.rb n x
 |[]=>by simp[V.aL]
 |x::xs=>by simp[V.aL,Co (xs:=xs)]
def B5(h:V.aL d e)(a:e[k]?=W g):V.rb d g:=Co.1 h g (Ah a)
def Qzl(h:V.rb d g):V.aL d g.cells:=by cases g<;>first|(simpa[V.cells,V.rb]using h)|(simp only[V.cells,V.aL,CB];exact h)
def Wkt(h:V.aL d e):V.aL d (e.flatMap V.cells):=Co.2 λy a=>by have⟨x,b,a⟩:=Fc.1 a;exact Co.1 (Qzl (Co.1 h x b)) y a
section
variable{M z:vn}{J q:bk}{n:Nat}
def aB.rb(w:de M z)(d:∀o b,o<n->J o=W b->q o=W b/\∀k,J.sz b=W k->q.sz b=W k){v:Value}{x:V}(h:aB M J v x):V.rb n x->aB z q v x:=by
 induction h with
 |any v=>intro _;exact .any v
 |undef=>intro _;exact .undef
 |bool b=>intro _;exact .bool b
 |int k m=>intro _;exact .int k m
 |str s l h=>intro _;exact .str s l h
 |c_=>intro _;exact .c_
 |ptr o a b h=>intro c;exact .ptr o a b (d o b (by simpa[V.rb]using c) h).1
 |ai m f b a p r g t s=>intro e;simp only[V.rb]at e;exact .ai m f b a p r (λi u j=>w.le _ _ _ (g i u j)) (λi u c j l=>s i u c j l (B5 e l))
 |ad=>intro _;exact .ad
 |sl y c b f l A r hs s g B e m t=>intro a;simp only[V.rb]at a;exact .sl y c b f l A r hs s (λi u j=>w.le _ _ _ (g i u j)) (λi u c j p=>t i u c j p (B5 (Wkt a) p)) e m
 |jt a c hg=>intro _;exact .jt a c hg
 |hs o a e i j b c h g=>intro f;exact .hs o a e i j b c (d o b (by simpa[V.rb]using f) h).1 g
 |agg l f g p j=>intro a;simp only[V.rb]at a;exact .agg l f g (λi v c m e=>j i v c m e (B5 a e))
 |aR l f g p j=>intro a;simp only[V.rb]at a;exact .aR l f g (λi v c m e=>j i v c m e (B5 a e))
 |bE t v x h c=>intro a;simp only[V.rb]at a;exact .bE t v x (c a)
 |bc=>intro _;exact .bc
 |fn f l s first e t u y r m p=>intro g;simp only[V.rb,vc]at g;exact .fn f l s first e t u (λi v c j a=>m i v c j a (B5 g.1 a)) (λi v c j a=>p i v c j a (B5 g.2 a))
 |dt=>intro _;exact .dt
 |mp o r h=>intro a;exact .mp o r (d o r (by simpa[V.rb]using a) h).1
 |cg=>intro _;exact .cg
 |hg o c i j b a m h l g e=>intro f;exact .hg o c i j b a m (d o b (by simpa[V.rb]using f) h).1 ((d o b (by simpa[V.rb]using f) h).2 m l) g e
 |eQ k v x h c=>intro a;simp only[V.rb]at a;exact .eQ k v x (c a)
end
theorem yA{j k:Type}{g:j->Option k}:∀ {xs:List j} {c:List k},xs.mapM g=W c->c.length=xs.length/\∀(i:Nat) x y,xs[i]?=W x->c[i]?=W y->g x=W y
 |[],c,h=>by simp at h;subst h;exact⟨rfl,λi x y a=>by simp at a⟩
 |x::xs,c,h=>by
  simp only[xw,u7,vh]at h;obtain⟨y,l,p,d,m⟩:=h;cases m;have⟨n,o⟩:=yA d;refine⟨by simp[n],λi a b e f => ?_⟩;cases i with
  |zero=>simp at e f;subst e f;exact l
  |succ i=>exact o i a b (by simpa using e) (by simpa using f)
def EM{b:Type}{g:i7->Option b}{xs:List i7}{d:List b}(h:xs.mapM g=W d){y:b}(f:y∈d):∃x∈xs,g x=some y:=by
 have⟨j,k⟩:=yA h;have⟨i,e⟩:=Qt.1 f;have a:i<xs.length:=by rw[<-j];exact(wy.1 e).1
 exact⟨xs[i],Na a,k i _ _ (vO a) e⟩
section
variable{M M':vn}{J J':bk}{X:Nat->Prop}{D:cY}{w:World}{I:hN}{n:Nat}
structure Fz (M:vn) (J:bk) (M':vn) (J':bk) (x y:V):Prop where
 bC:∀v,aB M J v x->aB M' J' v y
 len:y.cells.length=x.cells.length
 cells:∀us,aq M J us x.cells->aq M' J' us y.cells
 own:∀v,aJ v y=aJ v x
 one:y.one=x.one
 lk:y.dg=x.dg
 sl:∀ys c,y=.sl ys c->c≠.no->∃xs,x=.sl xs c/\(ys.flatMap V.cells).length=(xs.flatMap V.cells).length/\∀sz,(∀z∈xs,z.cells.length=sz)->∀z∈ys,z.cells.length=sz
def Hb{g:V->AW}(d:∀x y,g x=W y->Fz M J M' J' x y){b:uZ}(h:e.mapM g=W b){us:vB}(c:aq M J us e):aq M' J' us b:=by have⟨xs,f⟩:=yA h;refine⟨by rw[xs];exact c.1,λi u y j k => ?_⟩;have⟨x,l,a⟩:=c.get' j;exact(d x y (f i x y l k)).bC u a
theorem Qry{g:V->AW}(d:∀x y,g x=W y->Fz M J M' J' x y):∀ {xs a:uZ},xs.mapM g=W a->∀ {us:vB},aq M J us (xs.flatMap V.cells)->aq M' J' us (a.flatMap V.cells)
 |[],a,h,us,b=>by simp at h;subst h;have:us=[]:=CP.1 (by simpa using b.1);subst this;exact aq.nil
 |x::xs,a,h,us,b=>by
  simp only[xw,u7,vh]at h;obtain⟨y,i,k,c,j⟩:=h;cases j;simp only[AR]at b ⊢;have e:=b.take x.cells.length;have f:=b.drop x.cells.length;rw[Ul]at e;rw[List.drop_left]at f;have:=((d x y i).cells _ e).append (Qry d c f)
  rwa[List.take_append_drop]at this
theorem Ux{g:V->AW}(c:∀x y,g x=W y->Fz M J M' J' x y):∀ {xs a:uZ},xs.mapM g=W a->(a.flatMap V.cells).length=(xs.flatMap V.cells).length
 |[],a,h=>by simp at h;subst h;rfl
 |x::xs,a,h=>by simp only[xw,u7,vh]at h;obtain⟨y,d,f,b,e⟩:=h;cases e;simp only[AR,vW,(c x y d).len,Ux c b]
def Wu4(h:Wd M J X D w I)(Q:de M M')(hi:∀o b,o<n->J o=W b->J' o=W b/\∀k,J.sz b=W k->J'.sz b=W k)(S:∀o b,n<=o->J o=W b->(∃cs,I[o]?=W (.cells cs))->∀i u,w.cell? ⟨b,i,none⟩=W u->M' b i=W u):
  ∀(f:Nat) (x y:V),fz n I f x=W y->Fz M J M' J' x y:=by
 have K:∀x,V.rb n x->Fz M J M' J' x x:=λx l=>⟨λv s=>s.rb Q hi l,rfl,λus s=>⟨s.1,λi u c j B=>(s.2 i u c j B).rb Q hi (B5 (Qzl l) B)⟩,λ_=>rfl,rfl,rfl,λr c e _=>⟨r,e,rfl,λ_ L=>L⟩⟩
 intro f;induction f with
 |zero=>
  intro x y a;simp only[fz]at a;split at a
  ·rename_i l;cases a;exact K x l
  ·cases a
 |succ f A=>
  intro x y m;simp only[fz]at m;split at m
  ·rename_i l;cases m;exact K x l
  ·rename_i E;have d:x.cells=[x]->y.cells=[y]->(∀v,aB M J v x->aB M' J' v y)->(∀v,aJ v y=aJ v x)->y.one=x.one->y.dg=x.dg->(∀r c,y=.sl r c->c≠.no->∃H,x=.sl H c/\(r.flatMap V.cells).length=(H.flatMap V.cells).length/\∀C,(∀z∈H,z.cells.length=C)->∀z∈r,z.cells.length=C)->Fz M J M' J' x y:=λl G s a R g U=>
    ⟨s,by rw[l,G];rfl,λus F=>by
     rw[l]at F;rw[G];refine⟨F.1,λi u c j B => ?_⟩;cases i with
     |zero=>simp at B;subst B;exact s u (F.2 0 u x j rfl)
     |succ i=>simp at B,a,R,g,U⟩
   split at m
   ·
    rename_i o q;simp only[u7,vh]at m;obtain⟨cs,a,ds,t,he⟩:=m;cases he;refine d rfl rfl (λv hv => ?_) (λv=>by unfold aJ;split<;>simp_all) rfl rfl (λr c e hn=>by first|(cases e;done)|(cases e;exact absurd rfl hn));obtain⟨b,rfl,g⟩:=hv.cZ;have N:n<=o:=by simpa[V.rb]using E
    have⟨O,hO,P⟩:=h.obj o b g;rw[xz a]at hO;cases hO;obtain⟨ws,T9,a1,hb,a0,_,_,_⟩:=P;have p:=Hb A t a0;have:=aB.ai (M:=M') (J:=J') ds q b 0 (ws.toList.take cs.length) p.1 (λi u j=>by
     refine S o b N g ⟨cs,xz a⟩ (0+i) u ?_;rw[Hr hb,xr];rw[xP]at j;split at j
     ·simpa using j
     ·cases j) p.2
    simpa using this
   ·
    rename_i o a g C ag;simp only[u7,vh]at m;obtain⟨cs,q,H,a4,r,p,he⟩:=m;cases he;refine d rfl rfl (λv hv => ?_) (λv=>by unfold aJ;split<;>simp_all) rfl rfl (λr c e hn=>by first|(cases e;done)|(cases e;exact absurd rfl hn));obtain⟨b,a5,rfl,t,a9⟩:=hv.eb;have a0:n<=o:=by simpa[V.rb]using E
    have⟨O,hO,a1⟩:=h.obj o b t;rw[xz q]at hO;cases hO;obtain⟨ws,T9,a8,hb,a2,_,_,N⟩:=a1;have⟨k1,k2,k3⟩:=JU N _ _ _ a4;have a3:aq M J (((ws.toList.take cs.length).drop a).take (g*C)) (H.flatMap V.cells):=by rw[k2];exact((a2.drop a).take (g*C)).ng
    have P:=Qry A p a3;have a6:r.length=g:=by rw[(yA p).1,k1]
    have:=aB.sl (M:=M') (J:=J') r .no b a a5 C _ (λy G=>by
     have⟨x,l,a7⟩:=EM p G;rw[(A x y a7).len];exact k3 x l) P.1 (λi u j=>by
     refine S o b a0 t ⟨cs,xz q⟩ (a+i) u ?_;rw[Hr hb];rw[xP]at j;split at j
     ·rw[DT,xP]at j;split at j
      ·simpa using j
      ·cases j
     ·cases j) P.2 Y (λe=>by cases e)
    rwa[a6]at this
   ·
    rename_i o a C ag;simp only[u7,vh]at m;obtain⟨cs,p,H,a3,r,g,he⟩:=m;cases he;refine d rfl rfl (λv hv => ?_) (λv=>by unfold aJ;split<;>simp_all) rfl rfl (λr c e hn=>by first|(cases e;done)|(cases e;exact absurd rfl hn));have a7:=hv.ng;obtain⟨b,a4,rfl,q,a9⟩:=a7.eb;have P:n<=o:=by simpa[V.rb]using E
    have⟨O,hO,a0⟩:=h.obj o b q;rw[xz p]at hO;cases hO;obtain⟨ws,T9,a8,hb,a1,_,_,t⟩:=a0;have⟨k1,k2,k3⟩:=JU t _ _ _ a3;have a2:aq M J (((ws.toList.take cs.length).drop 0).take (a*C)) (H.flatMap V.cells):=by rw[k2];exact((a1.drop 0).take (a*C)).ng
    have N:=Qry A g a2;have a5:r.length=a:=by rw[(yA g).1,k1]
    have:=aB.sl (M:=M') (J:=J') r .no b 0 a4 C _ (λy G=>by
     have⟨x,l,a6⟩:=EM g G;rw[(A x y a6).len];exact k3 x l) N.1 (λi u j=>by
     refine S o b P q ⟨cs,xz p⟩ (0+i) u ?_;rw[Hr hb];rw[xP]at j;split at j
     ·rw[DT,xP]at j;split at j
      ·simpa using j
      ·cases j
     ·cases j) N.2 Y (λe=>by cases e)
    rwa[a5]at this
   ·
    rename_i cs p;simp only[u7,vh]at m;obtain⟨N,q,P⟩:=m;cases P;refine d rfl rfl (λv hv => ?_) (λv=>by unfold aJ;split<;>simp_all) rfl rfl (λr c e hn=>by first|(cases e;done)|(cases e;exact absurd rfl hn));cases hv with
    |ai _ _ b g us hl t s=>have a:=Hb A q ⟨hl,s⟩;exact .ai N p b g us a.1 (λi u j=>Q.le _ _ _ (t i u j)) a.2
   ·
    rename_i H c;simp only[u7,vh]at m;obtain⟨r,g,he⟩:=m;cases he;refine d rfl rfl (λv hv => ?_) (λv=>by cases c<;>cases v<;>first|rfl|(rename_i p _ _;cases p<;>rfl)) rfl (by cases c<;>rfl) (λzs c' e _=>by cases e;exact⟨H,rfl,Ux A g,λC L y G=>by have⟨x,l,q⟩:=EM g G;rw[(A x y q).len];exact L x l⟩)
    cases hv with
    |sl _ _ b N P C us U hl a0 s a2 a1=>
     have a:=Qry A g ⟨hl,s⟩;have t:=(yA g).1;have:=aB.sl r c b N P C us (λy G=>by have⟨x,l,q⟩:=EM g G;rw[(A x y q).len];exact U x l) a.1 (λi u j=>Q.le _ _ _ (a0 i u j)) a.2 Y (λe=>by rw[t];exact a1 e)
     rwa[t]at this
    |jt a _ t=>
     obtain rfl:r=[]:=by simpa using g
     exact .jt a c t
   ·
    rename_i cs;simp only[u7,vh]at m;obtain⟨N,a,g⟩:=m;cases g;refine⟨λv p => ?_,(yA a).1,λus F=>Hb A a F,λv=>by unfold aJ;split<;>simp_all,rfl,rfl,λr c e _=>by cases e⟩;cases p with
    |agg t _ q s=>exact aB.cc.2 (Hb A a (aB.cc.1 (.agg t cs q s)))
   ·
    rename_i cs;simp only[u7,vh]at m;obtain⟨q,g,t⟩:=m;cases t;refine d rfl rfl (λv N => ?_) (λv=>by unfold aJ;split<;>simp_all) rfl rfl (λr c e P=>by first|(cases e;done)|(cases e;exact absurd rfl P));cases N with
    |aR p _ hl s=>have a:=Hb A g (us:=p.toList) ⟨by simpa using hl,λi u x j l=>s i u x (by simpa using j) l⟩;exact .aR p q (by simpa using a.1) (λi u x j l=>a.2 i u x (by simpa using j) l)
   ·
    rename_i t z;simp only[u7,vh]at m;obtain⟨a,L,p⟩:=m;cases p;refine d rfl rfl (λv q => ?_) (λv=>by unfold aJ;split<;>simp_all) rfl rfl (λr c e N=>by first|(cases e;done)|(cases e;exact absurd rfl N));cases q with
    |bE _ g _ s=>exact .bE t g a ((A z a L).bC g s)
   ·
    rename_i g p q;simp only[u7,vh]at m;obtain⟨p',P,q',hq,a⟩:=m;cases a;refine d rfl rfl (λv t => ?_) (λv=>by unfold aJ;split<;>simp_all) rfl rfl (λr c e N=>by first|(cases e;done)|(cases e;exact absurd rfl N));cases t with
    |fn _ a N _ _ c b t E=>have R:=Hb A P (us:=a.toList) ⟨by simpa using c,λi u x j l=>t i u x (by simpa using j) l⟩;have P:=Hb A hq (us:=N.toList) ⟨by simpa using b,λi u x j l=>E i u x (by simpa using j) l⟩;exact .fn g a N p' q' (by simpa using R.1) (by simpa using P.1) (λi u x j l=>R.2 i u x (by simpa using j) l) (λi u x j l=>P.2 i u x (by simpa using j) l)
   ·cases m
end
variable{h l0 n5:wi}
section
variable{M z:vn}{J N Q:bk}{X:Nat->Prop}{D:cY}{w:World}{us:vB}{U:uZ}{I:hN}{n:Nat}
def s3(M:vn)(J:bk)(z:vn)(N:bk)(x y:V):Prop:=y=.any\/Fz M J z N x y
def We5(a:∀x,V.rb n x->Fz M J z N x x)(j:∀x y,fz n I fzD x=W y->Fz M J z N x y)(h:fb n I (.cells e)=W v5):
  ∃ds,v5=.cells ds/\ds.length=e.length/\∀(i:Nat) c d,e[i]?=W c->ds[i]?=W d->Fz M J z N c d:=by
 simp only[fb]at h;split at h
 ·rename_i b;cases h;exact⟨e,rfl,rfl,λi c d f g=>by rw[f]at g;cases g;exact a c (B5 b f)⟩
 ·rw[xB]at h;obtain⟨ds,b,rfl⟩:=h;have⟨k,l⟩:=yA b;exact⟨ds,rfl,k,λi c d f g=>j c d (l i c d f g)⟩
theorem Qlz:∀(ks:wi) (I:hN) (o:Nat),(VP ks I)[o]?=if o∈ks/\o<I.length then W .gone else I[o]?
 |[],I,o=>by simp[VP]
 |k::ks,I,o=>by
  show(VP ks (I.set k .gone))[o]?=_;rw[Qlz ks,GR,AZ];by_cases a:o∈ks/\o<I.length
  ·rw[A9a a,A9a ⟨wh _ a.1,a.2⟩]
  ·rw[O3 a];by_cases b:k=o
   ·subst b;by_cases c:k<I.length
    ·simp[c]
    ·simp[c]
   ·have c:¬(o∈k::ks/\o<I.length):=λ⟨d,f⟩=>a ⟨by
     rcases vZ.1 d with e|e
     ·exact absurd e.symm b
     ·exact e,f⟩
    rw[O3 b,O3 c]
theorem Ql0:∀(ks:wi) (I:hN),(VP ks I).length=I.length
 |[],I=>rfl
 |k::ks,I=>by show(VP ks (I.set k .gone)).length=_;rw[Ql0 ks,GR]
theorem St.kb:∀(ks:wi) {I:hN},St M J X D w us U I->St M J X D w us U (VP ks I)
 |[],I,h=>h
 |k::ks,I,h=>St.kb ks (h.qJ k).1
def Wku:aJ i6 .any=none:=by unfold aJ;split<;>first|rfl|(rename_i h;cases h)
def ei(n:Nat)(ks:wi)(o:Nat):Nat:=if o<n then o else ks.getD (o-n) 0
open Classical in
noncomputable def fm(M:vn)(J:bk)(w:World)(I:hN)(n:Nat)(ks:List Nat):vn:=λb i=>if ∃o,n<=o/\o∉ks/\J o=some b/\∃a,I[o]?=some (.cells a)then w.cell? ⟨b,i,none⟩else M b i
def gb(J:bk)(n:Nat)(ks:wi)(o:Nat):AQ:=if o<n+ks.length then J (ei n ks o)else none
open Classical in
noncomputable def dj(J:bk)(n:Nat)(ks:List Nat):bk:=⟨gb J n ks,λc=>if ∃o,gb J n ks o=some c then J.sz c else none⟩
open Classical in
def Wkv(b:(dj J n h).sz d=W k):(∃o,dj J n h o=W d)/\J.sz d=some k:=by
 have a:(if ∃o,gb J n h o=W d then J.sz d else none)=some k:=b;split at a
 ·rename_i hex;exact⟨hex,a⟩
 ·cases a
def Qwz:dj J n h d=if d<n+h.length then J (ei n h d)else none:=rfl
def IL{o:Nat}(ks:o<n):dj J n h o=J o:=by rw[Qwz,A9a Y];unfold ei;rw[A9a ks]
open Classical in
def Qrz{k o:Nat}(ks:dj J n h o=W d)(a:J.sz d=W k):(dj J n h).sz d=some k:=by show(if ∃o,gb J n h o=W d then J.sz d else none)=_;rw[A9a ⟨o,ks⟩,a]
def Qzm(ks:d<n\/d∈h/\n<=d):dj J n h (ez n h d)=J d:=by
 unfold ez;rcases ks with ks|⟨ks,b⟩
 ·rw[A9a ks,IL ks]
 ·have a:=List.idxOf_lt_length_of_mem ks;rw[O3 Y,Qwz,A9a Y];unfold ei;rw[O3 Y,Nat.add_sub_cancel_left,y9,vO a,Cr,List.getElem_idxOf]
def Pl.ez(n:Nat)(ks:wi):Pl->Pl
 | .c q i=>.c (Ev.ez n ks q) i
 |p=>p
def Qr0(b:h.Nodup)(c:∀k∈h,n<=k)(ks:d<n+h.length):ez n h (ei n h d)=d/\(n<=d->ei n h d∈h):=by
 unfold ei;by_cases o:d<n
 ·rw[A9a o];unfold ez;rw[A9a o];exact⟨rfl,λks=>by omega⟩
 ·have a:d-n<h.length:=by omega
  rw[O3 o,y9,vO a,Cr];have e:=Na a;unfold ez;rw[O3 (by have:=c _ e;omega),b.idxOf_getElem];exact⟨by omega,λ_=>e⟩
def Qzn(m:∀k∈h,n<=k)(hg:∀g y,fz n f fzD g=W y->Fz M J z (dj J n h) g y)(x:OA n h f g=W y):Fz M J z (dj J n h) g y:=by
 have a:∀ {g y:V},g.cells=[g]->y.cells=[y]->(∀v,aB M J v g->aB z (dj J n h) v y)->(∀v,aJ v y=aJ v g)->y.one=g.one->y.dg=g.dg->(∀d c,y≠.sl d c)->Fz M J z (dj J n h) g y:=λ{g y} p q j ho r s t=>
  ⟨j,by rw[p,q];rfl,λus b=>by
   rw[p]at b;rw[q];refine⟨b.1,λi u c w ks => ?_⟩;cases i with
   |zero=>simp at ks;subst ks;exact j u (b.2 0 u g w rfl)
   |succ i=>simp at ks,ho,r,s,λd c e=>absurd e (t d c)⟩
 have l:∀ {o:Nat},(decide (o<n)||h.contains o)->o<n\/o∈h/\n<=o:=λ{o} ho=>by
  simp only[zH,A9f,Ub]at ho;rcases ho with ho|ho
  ·exact .inl ho
  ·exact .inr ⟨ho,m o ho⟩
 unfold OA at x;split at x
 ·rename_i o ks;split at x
  ·rename_i i;cases x;refine a rfl rfl (λv p => ?_) (λv=>by unfold aJ;split<;>simp_all) rfl rfl (λd c e=>by cases e);obtain⟨b,rfl,q⟩:=p.cZ;exact .ptr _ _ b (by rw[Qzm (l i)];exact q)
  ·exact hg _ _ x
 ·rename_i o p t u w;split at x
  ·rename_i q;cases x;refine a rfl rfl (λv r => ?_) (λv=>by unfold aJ;split<;>simp_all) rfl rfl (λd c e=>by cases e);obtain⟨b,ks,rfl,s,i⟩:=r.eb;exact .hs _ _ _ _ _ b ks (by rw[Qzm (l q)];exact s) i
  ·exact hg _ _ x
 ·rename_i o t w A;split at x
  ·rename_i q;cases x;refine a rfl rfl (λv r => ?_) (λv=>by unfold aJ;split<;>simp_all) rfl rfl (λd c e=>by cases e);cases r with
   |hg _ _ _ _ b i k s u p j=>
    have ks:dj J n h (ez n h o)=some b:=by rw[Qzm (l q)];exact s
    exact .hg _ _ _ _ b i k ks (Qrz ks u) p j
  ·exact hg _ _ x
 ·rename_i o;split at x
  ·rename_i ks;cases x;refine a rfl rfl (λv i => ?_) (λv=>by unfold aJ;split<;>simp_all) rfl rfl (λd c e=>by cases e);obtain⟨b,rfl,p⟩:=i.jX;exact .mp _ b (by rw[Qzm (l ks)];exact p)
  ·cases x
 ·exact hg _ _ x
def Wk(a:∀k∈h,n<=k)(m:∀g y,fz n f fzD g=W y->Fz M J z (dj J n h) g y)(x:gF n h f g=W y):Fz M J z (dj J n h) g y:=by
 unfold gF at x;split at x
 ·rename_i l;rw[xB]at x;obtain⟨r,b,rfl⟩:=x;have j:=λus ks=>Hb (λg y d=>Qzn a m d) b (us:=us) ks;refine⟨λv o => ?_,(yA b).1,j,λv=>by unfold aJ;split<;>simp_all,rfl,rfl,λs c e _=>by cases e⟩;cases o with
  |agg p _ i q=>exact aB.cc.2 (j _ (aB.cc.1 (.agg p l i q)))
 ·rename_i r;rw[xB]at x;obtain⟨s,o,rfl⟩:=x;have l:∀v,aB M J v (.aR r)->aB z (dj J n h) v (.aR s):=λv A=>by
   cases A with
   |aR t _ w l=>have d:=Hb (λg y p=>Qzn a m p) o (us:=t.toList) ⟨by simpa using w,λi u g j q=>l i u g (by simpa using j) q⟩;exact .aR t s (by simpa using d.1) (λi u g j q=>d.2 i u g (by simpa using j) q)
  refine⟨l,rfl,λus ks=>⟨ks.1,λi u c j b => ?_⟩,λv=>by unfold aJ;split<;>simp_all,rfl,rfl,λB c e _=>by cases e⟩;cases i with
  |zero=>simp[V.cells]at b;subst b;exact l u (ks.2 0 u (.aR r) j rfl)
  |succ i=>simp[V.cells]at b
 ·exact Qzn a m x
def St.cG(I':St M J X D w us U I)(hn:n<=I.length)(a3:h.Nodup)(F:∀k∈h,n<=k){U':uZ}(hl:U'.length=U.length)(b7:∀(j:Nat) x y,U[j]?=W x->U'[j]?=W y->y=.any\/fz n (VP h I) fzD x=W y\/gF n h (VP h I) x=W y)(ho:xx n I h=W f):
  ∃D',de M (fm M J w I n h)/\(∀b i,X b->fm M J w I n h b i=M b i)/\St (fm M J w I n h) (dj J n h) X D' w us U' f/\(∀o i,o<n->gi f o i->gi I o i)/\n<=f.length:=by
 have b8:=I'.kb h;have hm:de M (fm M J w I n h):=⟨λb i u G=>by
  unfold fm;split
  ·exact I'.wd.mem b i u G
  ·exact G⟩
 have hi:∀o b,o<n->J o=W b->dj J n h o=W b/\∀k,J.sz b=W k->(dj J n h).sz b=some k:=λo b l e=>by
  have:dj J n h o=some b:=by rw[IL l];exact e
  exact⟨this,λk hk=>Qrz this hk⟩
 have b1:∀o m,(VP h I)[o]?=W (O.cells m)->o∉h/\I[o]?=W (O.cells m):=λo m ho=>by
  rw[Qlz]at ho;split at ho
  ·cases ho
  ·rename_i a7;exact⟨λhk=>a7 ⟨hk,(wy.1 ho).1⟩,ho⟩
 have a4:∀ks x y,fz n (VP h I) ks x=W y->Fz M J (fm M J w I n h) (dj J n h) x y:=Wu4 b8.wd hm hi (λo b a6 C a i u G=>by obtain⟨m,a⟩:=a;unfold fm;rw[A9a ⟨o,a6,(b1 o m a).1,C,m,(b1 o m a).2⟩];exact G)
 have hg:=a4 fzD;have E:∀x,V.rb n x->Fz M J (fm M J w I n h) (dj J n h) x x:=λx hx=>a4 0 x x (by simp[fz,hx]);have hX:∀b i,(∀o m,n<=o->o∉h->J o=W b->I[o]?≠W (.cells m))->fm M J w I n h b i=M b i:=λb i hn=>by unfold fm;rw[O3 (λ⟨o,h1,h2,a,m,h4⟩=>hn o m h1 h2 a h4)]
 have a5:∀(j:Nat) x y,U[j]?=W x->U'[j]?=W y->s3 M J (fm M J w I n h) (dj J n h) x y:=λj x y hx hy=>by
  rcases b7 j x y hx hy with e|e|e
  ·exact .inl e
  ·exact .inr (hg _ _ e)
  ·exact .inr (Wk F hg e)
 unfold xx at ho;simp only[u7,vh,vU]at ho;obtain⟨os,b9,z,S,rfl⟩:=ho;unfold ve at S;have⟨c0,c1⟩:=yA S;have⟨a8,c2⟩:=yA b9;have N:z.length=n:=by rw[c0,GQ,Ql0];omega
 have a0:∀ {o:Nat} {B:O},(z++os)[o]?=W B->o<n+h.length/\∃A,I[ei n h o]?=W A/\((o<n/\fb n (VP h I) A=W B)\/(n<=o/\AO n h (VP h I) A=W B)):=λ{o B} hB=>by
  have a6:=(wy.1 hB).1;rw[vW,N,a8]at a6;refine⟨a6,?_⟩;rw[JI]at hB;split at hB
  ·rename_i l;rw[N]at l;have t:o<((VP h I).take n).length:=by rw[GQ,Ql0];omega
   have a:=vO t;have g:=c1 o _ _ a hB;rw[xP,A9a l,Qlz,O3 (λhk=>by have:=F _ hk.1;omega)]at a;refine⟨_,?_,.inl ⟨l,g⟩⟩;unfold ei;rw[A9a l];exact a
  ·rename_i H;rw[N]at H hB;have t:o-n<h.length:=by omega
   have g:=c2 (o-n) _ _ (vO t) hB;rw[vh]at g;obtain⟨A,hA,hk⟩:=g;refine⟨A,?_,.inr ⟨by omega,hk⟩⟩;unfold ei;rw[O3 H,y9,vO t,Cr];exact hA
 have K:∀ {o:Nat} {m:uZ} {B:O},I[ei n h o]?=W (.cells m)->((o<n/\fb n (VP h I) (.cells m)=W B)\/(n<=o/\AO n h (VP h I) (.cells m)=W B))->∃P,B=.cells P/\P.length=m.length/\∀(i:Nat) c d,m[i]?=W c->P[i]?=W d->Fz M J (fm M J w I n h) (dj J n h) c d:=λ{o m B} _ g=>by
  rcases g with ⟨_,g⟩|⟨_,g⟩
  ·exact We5 E hg g
  ·simp only[AO,xB]at g;obtain⟨P,a,rfl⟩:=g;have⟨h1,h2⟩:=yA a;exact⟨P,rfl,h1,λi c d hc hd=>Qzn F hg (h2 i c d hc hd)⟩
 have L:∀ {o:Nat} {P:uZ},(z++os)[o]?=W (.cells P)->∃m,o<n+h.length/\I[ei n h o]?=W (.cells m)/\P.length=m.length/\∀(i:Nat) c d,m[i]?=W c->P[i]?=W d->Fz M J (fm M J w I n h) (dj J n h) c d:=λ{o P} hd=>by
  have⟨l,A,hA,g⟩:=a0 hd;cases A with
  |cells m=>have⟨a,he,q1,R⟩:=K hA g;cases he;exact⟨m,l,hA,q1,R⟩
  |mp es=>
   rcases g with ⟨_,g⟩|⟨_,g⟩
   ·simp only[fb]at g;split at g<;>cases g
   ·simp only[AO,xB]at g;obtain⟨_,_,he⟩:=g;cases he
  |si r c3=>rcases g with ⟨_,g⟩|⟨_,g⟩<;>cases g
  |gone=>rcases g with ⟨_,g⟩|⟨_,g⟩<;>cases g
 have q:∀o b,dj J n h o=W b->o<n+h.length/\J (ei n h o)=some b:=λo b e=>by
  rw[Qwz]at e;split at e
  ·exact⟨by assumption,e⟩
  ·cases e
 have b3:∀o,o<n+h.length->¬(n<=ei n h o/\ei n h o∉h):=λo l ⟨g1,g2⟩=>by
  by_cases a9:o<n
  ·unfold ei at g1;rw[A9a a9]at g1;omega
  ·exact g2 ((Qr0 a3 F l).2 Y)
 have b4:∀p v y,At (dj J n h) w us U' (z++os) p v y->∃x p',At J w us U I p' v x/\s3 M J (fm M J w I n h) (dj J n h) x y/\p=p'.ez n h:=by
  intro p v y ha;cases p with
  |s i=>
   obtain⟨q1,R⟩:=ha;have l:i<U.length:=by rw[<-hl];exact(wy.1 R).1
   exact⟨U[i],.s i,⟨q1,vO l⟩,a5 i _ _ (vO l) R,rfl⟩
  |c o i=>
   obtain⟨b,ws,T9,a1,P,q1,R,q3,q4,a⟩:=ha;have⟨m,r0,r1,r2,r3⟩:=L q3;have l:i<m.length:=by rw[<-r2];exact(wy.1 a).1
   exact⟨m[i],.c (ei n h o) i,⟨b,ws,T9,a1,m,(q o b q1).2,R,r1,q4,vO l⟩,.inr (r3 i _ _ (vO l) a),by show Pl.c o i=.c (ez n h (ei n h o)) i;rw[(Qr0 a3 F r0).1]⟩
 have a2:∀o b,dj J n h o=W b->(z++os)[o]?≠W .gone->I[ei n h o]?≠W .gone:=λo b C a e=>by
  have⟨l,Q⟩:=q o b C;have t:o<(z++os).length:=by rw[vW,N,a8];exact l
  have⟨_,A,hA,g⟩:=a0 (vO t);rw[e]at hA;cases hA;rcases g with ⟨_,g⟩|⟨_,g⟩
  ·simp only[fb,vU]at g;exact a (by rw[vO t,<-g])
  ·cases g
 refine⟨λb=>(D b).map (Pl.ez n h),hm,λb i C=>hX b i λo m _ _ e=>absurd C (I'.wd.cV o b e),
  ⟨⟨λb i u G => ?_,λo b C => ?_,λo b C=>I'.wd.dv _ b (q o b C).2,λo o' b C Q g1 g2 => ?_,I'.wd.ef,λo b C=>I'.wd.cV _ b (q o b C).2,λb p hp => ?_,λc k hz => ?_⟩,⟨by rw[hl];exact I'.bC.1,λi u y G hy => ?_⟩,λp v y b ha C => ?_,λp v y ha => ?_⟩,λo i a9 c4 => ?_,by rw[vW,N];omega⟩
 ·unfold fm at G;split at G
  ·exact G
  ·exact I'.wd.mem b i u G
 ·have⟨l,Q⟩:=q o b C;have t:o<(z++os).length:=by rw[vW,N,a8];exact l
  have hB:=vO t;have⟨_,A,hA,g⟩:=a0 hB;refine⟨_,hB,?_⟩;generalize(z++os)[o]=B at g;have⟨A2,b5,b0⟩:=I'.wd.obj _ b Q;rw[hA]at b5;cases b5;cases A with
  |cells m=>
   obtain⟨P,rfl,q1,R⟩:=K hA g;obtain⟨ws,T9,a1,r1,r2,r3,r4,r5⟩:=b0;have a6 i:fm M J w I n h b i=M b i:=hX b i λo' b6 H a7 e a=>by have he:=I'.wd.inj _ o' b Q e (by rw[hA];simp) (by rw[a];simp);exact b3 o l (by rw[he];exact⟨H,a7⟩)
   refine⟨ws,T9,a1,r1,⟨by rw[q1];exact r2.1,λi u d G hd => ?_⟩,λi hi=>r3 i Y,λi=>by rw[a6];exact r4 i,λd hd => ?_⟩
   ·rw[q1]at G;have⟨c,hc,a⟩:=r2.get' G;exact(R i c d hc hd).bC u a
   ·have⟨i,hi⟩:=Qt.1 hd;have a:i<m.length:=by rw[<-q1];exact(wy.1 hi).1
    rw[(R i _ d (vO a) hi).one];exact r5 _ (Na a)
  |mp es=>
   obtain⟨en,a,r1,r2,r3⟩:=b0;rcases g with ⟨_,g⟩|⟨_,g⟩
   ·simp only[fb]at g;split at g
    ·rename_i a6;simp only[vc]at a6;cases g;refine⟨en,a,r1,r2,λi e p he hp => ?_⟩;have⟨s1,s2⟩:=r3 i e p he hp;have b6:=Ah hp;exact⟨(E _ (Co.1 a6.1 _ (wa.2 ⟨p,b6,rfl⟩))).bC _ s1,(E _ (Co.1 a6.2 _ (wa.2 ⟨p,b6,rfl⟩))).bC _ s2⟩
    ·cases g
   ·simp only[AO,xB]at g;obtain⟨c6,c5,rfl⟩:=g;have⟨k1,k2⟩:=yA c5;refine⟨en,a,r1,by rw[r2,k1],λi e p he hp => ?_⟩;have a6:i<es.length:=by rw[<-k1];exact(wy.1 hp).1
    have hq:=k2 i _ p (vO a6) hp;have⟨s1,s2⟩:=r3 i e _ he (vO a6);split at hq
    ·rename_i b6;rw[xB]at hq;obtain⟨y,hy,rfl⟩:=hq;exact⟨(E _ b6).bC _ s1,(hg _ _ hy).bC _ s2⟩
    ·cases hq
  |si r c3=>
   rcases g with ⟨_,g⟩|⟨_,g⟩
   ·cases g;exact b0
   ·cases g
  |gone=>
   rcases g with ⟨_,g⟩|⟨_,g⟩
   ·cases g;trivial
   ·cases g
 ·have⟨l,d⟩:=q o b C;have⟨a,ks⟩:=q o' b Q;have:=I'.wd.inj _ _ b d ks (a2 o b C g1) (a2 o' b Q g2);rw[<-(Qr0 a3 F l).1,<-(Qr0 a3 F a).1,this]
 ·rw[xB]at hp;obtain⟨p',a,rfl⟩:=hp;have⟨d,ks,j⟩:=I'.wd.dC b p' a;exact⟨d,λo e=>ks _ (q o b e).2,j⟩
 ·have⟨hex,a⟩:=Wkv hz;exact⟨hex,(I'.wd.gg c k a).2⟩
 ·have l:i<U.length:=by rw[<-hl];exact(wy.1 hy).1
  rcases a5 i _ y (vO l) hy with rfl|a4
  ·exact .any u
  ·exact a4.bC u (I'.bC.2 i u _ G (vO l))
 ·obtain⟨x,p',hx,g,rfl⟩:=b4 p v y ha;rcases g with rfl|g
  ·rw[Wku]at C;cases C
  ·rw[g.own v]at C;show(D b).map (Pl.ez n h)=_;rw[I'.own p' v x b hx C];rfl
 ·obtain⟨x,p',hx,g,rfl⟩:=b4 p v y ha;rcases g with rfl|g
  ·exact⟨λa s e=>by cases e⟩
  ·refine⟨λk s e a c d ks => ?_⟩;have⟨j,b,a6,b0⟩:=g.sl k (.gr s) e u0;have⟨g1,g2,ws,T9,a1,g3,g4,g5⟩:=(I'.gr p' v x hx).ok j s b a c d ks;have hk:D a.block=W p':=I'.own p' v x a.block hx (by rw[b,ks];rfl);rw[a6];exact⟨b0 s g1,λi b=>by rw[hX a.block i λo m _ _ e=>absurd e ((I'.wd.dC _ _ hk).2.1 o)];exact g2 i b,ws,T9,a1,g3,g4,g5⟩
 ·obtain⟨P,y,q1,R,q3⟩:=c4;have⟨m,r0,r1,r2,r3⟩:=L q1;have l:i<m.length:=by rw[<-r2];exact(wy.1 R).1
  unfold ei at r1;rw[A9a a9]at r1;exact⟨m,m[i],r1,vO l,by rw[<-(r3 i _ y (vO l) R).lk];exact q3⟩
theorem ZT{c:hN}{d kp ks:wi}:∀(i:Nat) (U U':uZ),PO n c d kp ks i U=W U'->U'.length=U.length/\∀(j:Nat) x y,U[j]?=W x->U'[j]?=W y->y=.any\/fz n c fzD x=W y\/OA n ks c x=W y
 |i,[],U',h=>by simp only[PO,vU]at h;subst h;exact⟨rfl,λj x y a=>by simp at a⟩
 |i,x::m,U',h=>by
  have o:∃y g,(y=.any\/fz n c fzD x=W y\/OA n ks c x=W y)/\PO n c d kp ks (i+1) m=W g/\U'=y::g:=by
   simp only[PO,vh,vU]at h;obtain⟨y,e,g,f,rfl⟩:=h;refine⟨y,g,?_,f,rfl⟩;unfold Ru at e;split at e
   ·split at e
    ·exact .inr (.inr e)
    ·exact .inr (.inl e)
   ·cases e;exact .inl rfl
  obtain⟨y,g,e,f,rfl⟩:=o;have⟨p,q⟩:=ZT (i+1) m g f;refine⟨by simp[p],λj a b k l => ?_⟩;cases j with
  |zero=>simp at k l;subst k l;exact e
  |succ j=>exact q j a b (by simpa using k) (by simpa using l)
def Wkw(a:OA n h f g=W y):gF n h f g=W y\/fz n f fzD g=some y:=by cases g<;>first|exact .inl a|exact .inr a
theorem No:∀(l:wi),(dI l).Nodup/\∀k∈dI l,k∈l
 |[]=>⟨Qz,λk a=>a⟩
 |x::d=>by
  have⟨c,b⟩:=No d;unfold dI;split
  ·exact⟨c,λk a=>wh _ (b k a)⟩
  ·rename_i e;refine⟨Nb.2 ⟨λf=>e (by simpa using b x f),c⟩,λk a => ?_⟩;rcases vZ.1 a with rfl|a
   ·exact wA ..
   ·exact wh _ (b k a)
def Qt9{l:wi}(e:∀k∈l,n<=k):(yn n I l).Nodup/\∀k∈yn n I l,n<=k:=by
 unfold yn;refine⟨(No _).1,λk a => ?_⟩
 replace a:=(No _).2 k a
 rcases xf.1 a with a|a
 ·exact e k a
 ·have⟨o,_,d⟩:=Fc.1 a;split at d
  ·have⟨c,_,b⟩:=KU.1 d;unfold js at b;split at b
   ·split at b
    ·cases b;assumption
    ·cases b
   ·cases b
  ·cases d
def ES(h:AG n g=W d):n<=d:=by unfold AG at h;split at h<;>first|(split at h<;>first|(cases h;assumption)|(cases h;done))|(cases h;done)
def Wkx:∀k∈qb n g,n<=k:=λk a=>by
 unfold qb at a;split at a
 ·have⟨c,_,b⟩:=KU.1 a;exact ES b
 ·have⟨c,_,b⟩:=KU.1 a;exact ES b
 ·cases b:AG n g with
  |none=>rw[b]at a;cases a
  |some c=>rw[b]at a;simp at a;subst a;exact ES b
def St.bQ(kp:St M J X D w us U I)(p:n<=I.length){U':uZ}(c:Ev.bQ n h l0 U I=some (U',f)):
  ∃z ks D',de M z/\(∀b i,X b->z b i=M b i)/\St z (dj J n ks) X D' w us U' f/\(∀o i,o<n->gi f o i->gi I o i)/\n<=f.length:=by
 unfold Ev.bQ at c;simp only[u7,vh,vU,A9g]at c;obtain⟨r,q,s,u,rfl,rfl⟩:=c;obtain⟨d,I'⟩:=Qt9 (n:=n) (l:=l0.filterMap λt=>if h.contains t then AG n (U.getD t .undef)else none) (λk c=>by
  obtain⟨t,_,m⟩:=KU.1 c;split at m
  ·exact ES m
  ·cases m)
 obtain⟨v,A⟩:=ZT 0 _ _ q;obtain⟨D',g⟩:=kp.cG p d I' v (λj x y B C=>by
  rcases A j x y B C with e|e|e
  ·exact .inl e
  ·exact .inr (.inl e)
  ·rcases Wkw e with e|e
   ·exact .inr (.inr e)
   ·exact .inr (.inl e)) u
 exact⟨_,_,D',g⟩
theorem Ff{a:wi}:∀(i:Nat) (U:uZ),PO n I a [] [] i U=Fh n I a i U
 |_,[]=>rfl
 |i,x::b=>by unfold PO Fh Ru;simp only[Ff (i+1) b,List.contains_nil,vD,A9d,u7,AK];split<;>rfl
def V':xx n I []=ve n I:=by unfold xx;simp only[Fe,AK,u7,va,wt];show(ve n I).bind W=_;cases ve n I<;>rfl
def Qw0:Ev.bQ n h [] U I=(Fh n I h 0 U).bind λr=>(ve n I).bind λs=>W (r,s):=by unfold Ev.bQ;show(PO n I h [] [] 0 U).bind (λr=>(xx n I []).bind λs=>W (r,s))=_;rw[Ff,V']
end
def Wky:Out->Exit
 | .norm=>.normal
 | .ex id=>.exit id
 | .ret=>.ret
def UD(P:Program):Code->Cd->Bool
 | .skip,.skip=>true
 | .ret,.ret=>true
 | .exit id,.exit e=>id==e
 | .region _ d false,.ops _ h=>OJ P d d.toList h
 | .region _ d true,.dH _ l=>Tj P d l
 | .seq a b,.seq g f=>UD P a g&&UD P b f
 | .cond c a b,.cond i g f=>Qar c i&&UD P a g&&UD P b f
 | .block id b,.block e f=>id==e&&UD P b f
 | .loop b,.loop _ _ _ f=>UD P b f
 |_,.no=>true
 |_,_=>false
variable{C:Act}{m2:Code}
section
variable{P:Program}{G:GV}{q:FuncId->uZ->hN->R6}{X:Nat->Prop}
def We6(Iww:Nat->Act->World->Prop)(a:∀k C m,Iww (k+1) C m->m2.wp P (Exit.then (λn w'=>Iww k n w') j0) C m)(u:∀C m,¬Iww 0 C m){k:Nat}(h:Iww k C m):(Code.loop m2).wp P j0 C m:=by
 intro b r s;have t:∀k C m,Iww k C m->∃e n w',j0 e n w'/\Arrives P (lone (b.at C (.code m2 :: .inLoop m2::r)) s m) b r s e n w':=by
  intro k;induction k with
  |zero=>intro C m f;exact absurd f (u C m)
  |succ k x=>
   intro C m v;have⟨e,f,g,j,d⟩:=a k C m v b (.inLoop m2::r) s;cases e with
   |normal=>have⟨o,p,q,l,i⟩:=x f g j;exact⟨o,p,q,l,.of_steps (Steps.trans d (.one step_inLoop)) i⟩
   |exit id=>exact⟨_,f,g,j,.pass rfl (λ_ _=>.inl u0) d⟩
   |goto l=>exact⟨_,f,g,j,.pass rfl (λ_ _=>.inl u0) d⟩
   |ret=>exact⟨_,f,g,j,.pass rfl (λ_ _=>.inl u0) d⟩
   |panic i=>exact⟨_,f,g,j,.pass rfl (λ_ _=>.inl u0) d⟩
   |outgrown=>exact⟨_,f,g,j,.pass rfl (λ_ _=>.inl u0) d⟩
 have⟨e,n,w',j,d⟩:=t k C m h;exact⟨e,n,w',j,.of_steps (.one step_loop) d⟩
def St.ga{w:World}{U:uZ}(us:St p v X i5 w r U f)(D:f.length<=d)(F:Fh d f h 0 U=W K):St p v X i5 w r K f:=by
 have G:∀x y,fz d f fzD x=W y->Fz p v p v x y:=Wu4 us.wd (de.refl p) (λo b _ e=>⟨e,λ_ us=>us⟩) (λo b a J _ i u H=>by rw[us.wd.h' (zr D a)]at J;cases J) fzD
 rw[<-Ff]at F;have⟨z,m⟩:=ZT 0 U K F;have q:∀(j:Nat) x y,U[j]?=W x->K[j]?=W y->s3 p v p v x y:=λj x y g t=>by
  rcases m j x y g t with e|e|e
  ·exact .inl e
  ·exact .inr (G _ _ e)
  ·refine .inr (G _ _ ?_);unfold OA at e;split at e
   ·split at e
    ·rename_i a;simp at a;cases e;unfold ez;rw[A9a a];unfold fzD fz;simp[V.rb,a]
    ·exact e
   ·split at e
    ·rename_i a;simp at a;cases e;unfold ez;rw[A9a a];unfold fzD fz;simp[V.rb,a]
    ·exact e
   ·split at e
    ·rename_i a;simp at a;cases e;unfold ez;rw[A9a a];unfold fzD fz;simp[V.rb,a]
    ·exact e
   ·split at e
    ·rename_i a;simp at a;cases e;unfold ez;rw[A9a a];unfold fzD fz;simp[V.rb,a]
    ·cases e
   ·exact e
 have M:∀n I y,At v w r K f n I y->∃x,At v w r U f n I x/\(x=y\/s3 p v p v x y):=by
  intro n I y k;cases n with
  |c o i=>exact⟨y,k,.inl rfl⟩
  |s i=>
   obtain⟨c,a⟩:=k;have U':i<U.length:=by rw[<-z];exact(wy.1 a).1
   exact⟨U[i],⟨c,vO U'⟩,.inr (q i _ _ (vO U') a)⟩
 refine⟨us.wd,⟨by rw[z];exact us.bC.1,λi u y H t => ?_⟩,λn I y b k J => ?_,λn I y k => ?_⟩
 ·have U':i<U.length:=by rw[<-z];exact(wy.1 t).1
  rcases q i _ y (vO U') t with rfl|a
  ·exact .any u
  ·exact a.bC u (us.bC.2 i u _ H (vO U'))
 ·have⟨x,g,a⟩:=M n I y k;rcases a with rfl|rfl|a
  ·exact us.own n I x b g J
  ·unfold aJ at J;split at J<;>simp_all
  ·rw[a.own]at J;exact us.own n I x b g J
 ·have⟨x,g,c⟩:=M n I y k;rcases c with rfl|rfl|c
  ·exact us.gr n I x g
  ·exact⟨λa s e=>by cases e⟩
  ·refine⟨λN s e a j A O => ?_⟩;have⟨L,B,C,E⟩:=c.sl N (.gr s) e u0;have⟨P,Q,R⟩:=(us.gr n I x g).ok L s B a j A O;rw[C];exact⟨E s P,Q,R⟩
def jo.refl{M:vn}{J:bk}{D:cY}(h:St M J X D m C.tmps.toList e f):jo C M J X m f e f C m:=⟨rfl,M,J,D,Ext.refl ..,Kp.refl ..,h⟩
def Wqk{x:Cd}(ih:∀(I':Code),UD P I' x->∀(j0:Exit->Act->World->Prop) (p:vn) (v:bk) (i5:cY) (m:World) (C:Act) (e:uZ) (f:hN) (l:Out) (U':uZ) (B:hN),
  St p v X i5 m C.tmps.toList e f->dJ G p v->cz G q d x e f=W (l,U',B)->(∀t w',jo C p v X m f U' B t w'->j0 (Wky l) t w')->I'.wp P j0 C m)(hc:UD P m2 x){l:Out}{U':uZ}(c:St p v X i5 m C.tmps.toList e f)(hG:dJ G p v)(h1:Fh f.length f h 0 e=W K)(h2:PS h l0 n5 f.length (cz G q d x) d K f=W (l,U',B))(hQ:∀t w',jo C p v X m f U' B t w'->j0 (Wky l) t w'):(Code.loop m2).wp P j0 C m:=by
 have D:∀ {w E:Act} {y z:World} {O:vn} {F:bk} {s H:hN} {u R:uZ} {L:hN} {kp:wi},w.defers=C.defers->Ext X p v m O F y->Kp v m f F y s->jo w O F X y s u H E z->bQ f.length kp n5 u H=W (R,L)->
   E.defers=C.defers/\∃V S D2,Ext X p v m V S z/\Kp v m f S z L/\St V S X D2 z E.tmps.toList R L:=by
  intro w E y z O F s H u R L kp hd n hk g U;obtain⟨a0,V,S,D2,a3,a4,a5⟩:=g;have N:=hk.trans n.i a4;have U1:=n.trans a3;have⟨M3,ks,D3,c1,c2,c3,c4,c5⟩:=a5.bQ N.len U;refine⟨a0.trans hd,M3,_,D3,⟨U1.m.trans c1,⟨λo b A => ?_,λb k A => ?_⟩,λb i A=>(c2 b i A).trans (U1.mX b i A),U1.size,U1.cG,U1.os,U1.tape,U1.output⟩,⟨c5,λo ho => ?_,λo b i hi j=>N.lk o b i hi (c4 o i (c.wd.dK hi) j)⟩,c3⟩
  ·rw[IL (c.wd.dK A)];exact U1.i.le o b A
  ·have⟨⟨o,ho⟩,_⟩:=c.wd.gg b k A;exact Qrz (o:=o) (by rw[IL (c.wd.dK ho)];exact U1.i.le o b ho) (U1.i.sz b k A)
  ·rw[IL ho];exact N.mh o ho
 refine We6 (Iww:=λk t w'=>∃M' J' D' r s,t.defers=C.defers/\Ext X p v m M' J' w'/\Kp v m f J' w' s/\St M' J' X D' w' t.tmps.toList r s/\PS h l0 n5 f.length (cz G q d x) k r s=W (l,U',B)) (λk w y hI => ?_) (λw y hI => ?_) (k:=d) ⟨p,v,i5,K,f,rfl,Ext.refl ..,Kp.refl ..,c.ga (vE _) h1,h2⟩
 ·obtain⟨O,F,i,r,s,hd,n,hk,o,j⟩:=hI;simp only[PS]at j;split at j
  ·cases j
  ·rename_i u H b;simp only[u7,vh]at j;obtain⟨⟨R,L⟩,U,j⟩:=j;refine ih _ hc _ O F i y w r s .norm u H o (hG.mono n.m n.i) b λE z g => ?_;have⟨U1,V,S,D2,kp,A,N⟩:=D hd n hk g U;exact⟨V,S,D2,R,L,U1,kp,A,N,j⟩
  ·rename_i kp u H U1 b;simp only[u7,vh,vU,A9g]at j;obtain⟨⟨R,L⟩,U,rfl,rfl,rfl⟩:=j;refine ih _ hc _ O F i y w r s kp u H o (hG.mono n.m n.i) b λE z g => ?_;have:=hQ E z (D hd n hk g U);cases kp with
   |norm=>exact(U1 rfl).elim
   |ex id=>exact this
   |ret=>exact this
 ·obtain⟨_,_,_,_,_,_,_,_,_,j⟩:=hI;simp only[PS]at j;cases j
def qN(u:P.follows .mixedOrders)(t:∀f,bL P G f (q f)):∀(n:Cd) (b:Code),UD P b n->∀(Q:Exit->Act->World->Prop) (M:vn) (J:bk) (D:cY) (w:World) (a:Act) (U:uZ) (I:hN) (m:Out) (U':uZ) (I':hN),
  St M J X D w a.tmps.toList U I->dJ G M J->cz G q d n U I=W (m,U',I')->(∀g w',jo a M J X w I U' I' g w'->Q (Wky m) g w')->b.wp P Q a w:=by
 intro n;induction n with
 |skip=>intro b c Q M J D w a U I m U' I' h k e i;cases b<;>(try (cases c;done))<;>(try (rename_i _ _ j;cases j<;>(cases c;done)));cases e;exact wp_skip (i _ _ (jo.refl h))
 |ret=>intro b c Q M J D w a U I m U' I' h k e i;cases b<;>(try (cases c;done))<;>(try (rename_i _ _ j;cases j<;>(cases c;done)));cases e;exact wp_ret (i _ _ (jo.refl h))
 |exit id=>intro b c Q M J D w a U I m U' I' h k e i;cases b<;>(try (cases c;done))<;>(try (rename_i _ _ j;cases j<;>(cases c;done)));simp only[UD,w4]at c;subst c;cases e;exact wp_exit (i _ _ (jo.refl h))
 |ops k p=>intro b i Q M J D w a U I m U' I' h j c l;cases b<;>(try (cases i;done));rename_i id ops o;cases o<;>(try (cases i;done));simp only[cz,xB]at c;obtain⟨⟨r,s⟩,c,e⟩:=c;cases e;exact Wes t h j i c l
 |dH k l=>intro b i Q M J D w a U I m U' I' h j c o;cases b<;>(try (cases i;done));rename_i id ops p;cases p<;>(try (cases i;done));simp only[cz,xB]at c;obtain⟨⟨r,s⟩,c,e⟩:=c;cases e;exact We4 u t h j i c o
 |seq x y j p=>
  intro b e Q M J D w a U I m U' I' h l i o;cases b<;>(try (cases e;done))<;>(try (rename_i _ _ v;cases v<;>(cases e;done)));simp only[UD,vc]at e;simp only[cz]at i;refine wp_seq ?_;split at i
  ·rename_i r s z;refine j _ e.1 _ M J D w a U I .norm r s h l z λg w' k => ?_;obtain⟨A,B,C,E,c,F,H⟩:=k;exact p _ e.2 Q B C E w' g r s m U' I' H (l.mono c.m c.i) i λK L N=>o _ _ (jo.trans A c F N)
  ·rename_i k;refine j _ e.1 _ M J D w a U I m U' I' h l i λg w' c => ?_;cases m with
   |norm=>exact absurd i (k U' I')
   |ex id=>exact o _ _ c
   |ret=>exact o _ _ c
 |cond c x y l o=>
  intro b e Q M J D w a U I m U' I' h k i p;cases b<;>(try (cases e;done))<;>(try (rename_i _ _ r;cases r<;>(cases e;done)));simp only[UD,vc]at e;have j:=(fN.bl h.bC k).ok _ _ e.1.1;simp only[cz]at i;split at i
  ·rename_i s;rw[s]at j;exact wp_cond_true j.cA (l _ e.1.2 Q M J D w a U I m U' I' h k i p)
  ·rename_i s;rw[s]at j;exact wp_cond_false j.cA (o _ e.2 Q M J D w a U I m U' I' h k i p)
  ·cases i
 |block id x p=>
  intro b e Q M J D w a U I m U' I' h o j k;cases b<;>(try (cases e;done))<;>(try (rename_i _ _ v;cases v<;>(cases e;done)));simp only[UD,vc,w4]at e;obtain⟨rfl,e⟩:=e;refine wp_block ?_;simp only[cz]at j;split at j
  ·rename_i i r s l;refine p _ e _ M J D w a U I (.ex i) r s h o l λg w' c => ?_;simp only[Wky,Exit.inBlock];split at j
   ·rename_i y;cases j;rw[A9a y];exact k _ _ c
   ·rename_i y;cases j;rw[O3 y];exact k _ _ c
  ·rename_i l;refine p _ e _ M J D w a U I m U' I' h o j λg w' c => ?_;cases m with
   |norm=>exact k _ _ c
   |ex i=>exact absurd j (l i U' I')
   |ret=>exact k _ _ c
 |loop p i v x o=>intro b c Q M J D w a U I m U' I' h j e k;cases b<;>(try (cases c;done))<;>(try (rename_i _ _ l;cases l<;>(cases c;done)));simp only[UD]at c;simp only[cz,u7,vh]at e;obtain⟨y,r,s⟩:=e;exact Wqk o c h j r s k
 |no=>intro b e Q M J D w a U I m U' I' h i c j;simp only[cz]at c;cases c
end
variable{p9:uZ->hN->R6}
section
variable{P:Program}{M q:vn}{J z:bk}{X:Nat->Prop}{D D':cY}{w w':World}{us:vB}{U:uZ}{I:hN}{G:GV}
def aq.uy(h:aq M J us U)(d:V.aL 0 U):aq M bO us U:=
 ⟨h.1,λi u c e a=>(h.2 i u c e a).rb (.refl _) (λo b f=>absurd f (Nat.not_lt_zero _)) (B5 d a)⟩
def St.alone(h:St M J X D w us U I)(d:aq M bO us U):St M bO (λb=>b<w.heap.size) (λ_=>none) w us (U.map V.ng) []:=by
 have e:∀x∈U.map V.ng,x.ng=x:=λx c=>by obtain⟨y,_,rfl⟩:=wa.1 c;exact V.ck y
 refine⟨⟨h.wd.mem,λo b h=>(by cases h),λo b h=>(by cases h),λo g b h _ _ _=>(by cases h),λb h=>h,λo b h=>(by cases h),λb p h=>(by cases h),λb k h=>(by cases h)⟩,d.ng,λp v x b a f => ?_,λp v x a => ?_⟩
 ·cases p with
  |c o i=>obtain⟨_,_,_,_,_,h,_⟩:=a;cases h
  |s i=>rw[<-e x (Ah a.2),w7]at f;cases f
 ·cases p with
  |c o i=>obtain⟨_,_,_,_,_,h,_⟩:=a;cases h
  |s i=>exact .du (by rw[<-e x (Ah a.2)];exact w7 _ _)
def St.mj(h:St q z X D' w' us U [])(o:Nat):z o=none:=by
 cases e:z o with
 |none=>rfl
 |some b=>have⟨O,hO,_⟩:=h.wd.obj o b e;cases hO
def St.back(h:St M J X D w us U I)(d:Ext (λb=>b<w.heap.size) M bO w q z w')(t:St q z (λb=>b<w.heap.size) D' w' [i6] [g] []):
  ∃L,(Ext X M J w q J w'/\Kp J w I J w' I)/\St q J X L w' [i6] [g] I:=by
 have H:=t.mj;have N:di z J:=⟨λo b e=>(by rw[H]at e;cases e),λb n e=>by have⟨⟨o,v⟩,_⟩:=t.wd.gg b n e;rw[H]at v;cases v⟩
 have G:∀b,b<w.heap.size->w'.heap[b]?=w.heap[b]?:=d.cG;have K:∀o i f x,At J w' [i6] [g] I (.c o i) f x->At J w us U I (.c o i) f x:=by intro o i f x y;obtain⟨b,A,B,fz,cs,C,E,P⟩:=y;rw[G b (h.wd.dv o b C)]at E;exact⟨b,A,B,fz,cs,C,E,P⟩
 have u:∀b,b<w.heap.size->∀i,q b i=M b i:=λb j i=>d.mX b i j;refine⟨λb=>if b<w.heap.size then(match D b with|some (.c o i)=>W (.c o i)|_=>none)else(match D' b with|some (.s i)=>W (.s i)|_=>none),⟨⟨d.m,.refl _,λb i l=>d.mX b i (h.wd.ef b l),d.size,λb l=>G b (h.wd.ef b l),d.os,d.tape,d.output⟩,Kp.same _ _ λo b m=>G b (h.wd.dv o b m)⟩,⟨t.wd.mem,λo b m => ?_,λo b m=>Hj (h.wd.dv o b m) d.size,h.wd.inj,λb l=>Hj (h.wd.ef b l) d.size,h.wd.cV,λb p F => ?_,λb k hz => ?_⟩,t.bC.mono (.refl _) N,λp f x b y v => ?_,λp f x y => ?_⟩
 ·have⟨O,hO,a⟩:=h.wd.obj o b m;refine⟨O,hO,?_⟩;have e:=G b (h.wd.dv o b m);cases O with
  |cells cs=>obtain⟨A,B,fz,c,n,s,Q,R⟩:=a;exact⟨A,B,fz,by rw[e];exact c,n.mono d.m (.refl _),s,λi=>by rw[u b (h.wd.dv o b m)];exact Q i,R⟩
  |mp S=>obtain⟨R,k,s,Q,c⟩:=a;exact⟨R,k,by rw[e];exact s,Q,λi n p C E=>⟨((c i n p C E).1).mono d.m (.refl _),((c i n p C E).2).mono d.m (.refl _)⟩⟩
  |si g Q=>obtain⟨s,c,n⟩:=a;exact⟨s,by rw[e];exact c,n⟩
  |gone=>trivial
 ·split at F
  ·rename_i j;split at F
   ·rename_i o i e;cases F;have:=h.wd.dC b _ e;exact⟨this.1,this.2.1,Hj j d.size⟩
   ·cases F
  ·rename_i j;split at F
   ·rename_i i e;cases F;have:=t.wd.dC b _ e;exact⟨λl=>j (h.wd.ef b l),λo v=>j (h.wd.dv o b v),this.2.2⟩
   ·cases F
 ·have⟨⟨o,v⟩,A,B,fz,a,c⟩:=h.wd.gg b k hz;exact⟨⟨o,v⟩,A,B,fz,by rw[G b (h.wd.dv o b v)];exact a,c⟩
 ·cases p with
  |s i=>have:=t.own (.s i) f x b y v;have j:=(t.wd.dC b _ this).1;rw[O3 j,this]
  |c o i=>have:=h.own (.c o i) f x b (K o i f x y) v;have j:=(h.wd.dC b _ this).2.2;rw[A9a j,this]
 ·cases p with
  |s i=>exact t.gr (.s i) f x y
  |c o i=>
   have n:=K o i f x y;refine⟨λc d l a Q R b => ?_⟩;have S:aJ f x=W a.block:=by rw[l,b];rfl
   have s:=(h.wd.dC _ _ (h.own _ f x _ n S)).2.2;have⟨C,E,A,B,fz,P,e⟩:=(h.gr _ f x n).ok c d l a Q R b;exact⟨C,λi m=>by rw[u _ s];exact E i m,A,B,fz,by rw[G _ s];exact P,e⟩
def lE.mono{vs:wk}{R c:Value->World->Prop}(h:lE P i vs w R)(d:∀v w',R v w'->c v w'):lE P i vs w c:=by
 rcases h with ⟨a,b⟩|⟨v,w',a,b⟩
 ·exact .inl ⟨a,b.mono λe w' ⟨v,g,f⟩=>⟨v,g,d _ _ f⟩⟩
 ·exact .inr ⟨v,w',a,d _ _ b⟩
def bL.frame{f:FuncId}(g:bL P G f p9)(b:Bool):bL P G f (frame b p9):=by
 intro d I r B j M J X D w l a c;unfold Ev.frame at j;split at j
 ·rename_i y;simp only[vc]at y;have⟨⟨N,O⟩,m,k⟩:=vh.1 j;unfold u1 at k;split at k
  ·rename_i C;cases k;obtain rfl:=Xl.1 C;have p:aq M bO l.toList d:=by
    rcases Bool.or_eq_true_iff.1 y.2 with s|E
    ·obtain rfl:=Xl.1 s;have i:=a.mj;refine a.bC.mono (.refl _) ⟨λo b e=>(by rw[i]at e;cases e),λb n e => ?_⟩;have⟨⟨o,A⟩,_⟩:=a.wd.gg b n e;rw[i]at A;cases A
    ·exact a.bC.uy E
   have F:=a.alone p;have t:dJ G M bO:=⟨c.ok,c.ex,c.sh⟩
   refine(g _ [] _ _ m M bO _ _ w l F t).mono ?_;rintro v w' ⟨q,z,D',⟨H,_⟩,u⟩;have⟨x,K,L⟩:=a.back H u;exact⟨q,J,x,K,L⟩
  ·cases k
 ·exact g d I r B j M J X D w l a c
end
def zJ(P:Program):List ResultVar->List kO->Bool
 |[],[]=>true
 | .tmp t::a,.tmp b::c=>t==b&&zJ P a c
 | .cell t d::a,.cell b e f::c=>t==b&&pJ P d e f&&zJ P a c
 |_,_=>false
def Tp(P:Program)(fn:Func)(F:Fn):Bool:=
 match fn.body with
 |some c=>fn.ntmps==F.nt&&zJ P fn.results.toList F.res&&UD P c F.body&&fn.name != "runtime.NumGoroutine"
 |none=>false
def zL(P:Program)(f:FuncId)(F:Fn):Bool:=
 match P.funcs[f]? with
 |some a=>Tp P a F
 |none=>false
variable{A:Fn}
def vP{fn:Func}(a:n1.funcs[i]?=W fn)(h:Tp n1 fn A):zL n1 i A:=by unfold zL;rw[a];exact h
section
variable{P:Program}{M:vn}{J:bk}{X:Nat->Prop}{D:cY}{w:World}{us:vB}{U:uZ}{I:hN}{G:GV}{z:FuncId->uZ->hN->R6}
def St.result(h:St M J X D w us U I){t:Nat}{v:Value}{x:V}(d:us[t]?=W v)(e:U[t]?=W x):∃D',St M J X D' w [v] [x] I:=by
 refine⟨λb=>match D b with|some (.s i)=>if i=t then W (.s 0)else none|q=>q,⟨h.wd.mem,h.wd.obj,h.wd.dv,h.wd.inj,h.wd.ef,h.wd.cV,λb p j => ?_,h.wd.gg⟩,aq.cons (h.bC.2 t v x d e) aq.nil,λp u y b a f => ?_,λp u y a => ?_⟩
 ·cases c:D b with
  |none=>simp[c]at j
  |some q=>exact h.wd.dC b q c
 ·cases p with
  |c o i=>have g:=h.own (.c o i) u y b a f;simp[g]
  |s i=>
   obtain⟨c,g⟩:=a;cases i with
   |succ i=>simp at c
   |zero=>simp at c g;subst c g;have k:=h.own (.s t) v x b ⟨d,e⟩ f;simp[k]
 ·cases p with
  |c o i=>exact h.gr (.c o i) u y a
  |s i=>
   obtain⟨c,g⟩:=a;cases i with
   |succ i=>simp at c
   |zero=>simp at c g;subst c g;exact h.gr (.s t) v x ⟨d,e⟩
def St.only(h:St M J X D w us U I){v:Value}{x:V}(b:aB M J v x)(c:x.ng=x):∃D',St M J X D' w [v] [x] I:=
 ⟨_,(h.callee (aq.cons b aq.nil) (λy a v=>by simp at a;subst a;rw[<-c];exact w7 _ _)).gR λ_ d=>.inl d⟩
def QK(b:wk):ResultVar->Sem Value
 | .tmp t=>pure (b.getD t Go.undef)
 | .cell a t=>do loadVar t (<-asAddr (b.getD a Go.undef))
def Wcx(fn:Func)(a:wk):Go.results fn a=(do
  let vs <-fn.results.mapM (QK a)
  pure (if h:vs.size=1 then vs[0]else .tuple vs)):=by
 unfold Go.results;congr 1
def We7(h:part i4 d e k=W g):g.ng=g:=by
 unfold part at h;split at h
 ·split at h
  ·cases h;rfl
  ·cases h
 ·split at h
  ·rw[xB]at h;obtain⟨y,_,rfl⟩:=h;exact V.ck y
  ·cases h
def Qqm(h:St M J X D w i3.toList U I){r:ResultVar}{q:kO}(e:zJ P [r] [q]){x:V}(d:i_ U I q=W x):
  ∃v,(QK i3 r).run P w=.ok v w/\aB M J v x/\((∃t,v=i3.getD t Go.undef/\x=U.getD t .undef)\/x.ng=x):=by
 cases r with
 |tmp t=>
  cases q with
  |cell b c f=>cases e
  |tmp b=>simp only[zJ,CB,w4]at e;subst e;simp only[i_,vU]at d;subst d;have:=Qks h.bC t;rw[y9]at this;refine⟨i3.getD t Go.undef,rfl,by simpa[OR]using this,.inl ⟨t,rfl,rfl⟩⟩
 |cell t C=>
  cases q with
  |tmp b=>cases e
  |cell z A B=>
   simp only[zJ,CB,vc,w4]at e;obtain⟨rfl,m⟩:=e;simp only[i_]at d;have f:=Qks h.bC t;rw[y9]at f;have f:aB M J (i3.getD t Go.undef) (U.getD t .undef):=by simpa[OR]using f
   split at d
   ·rename_i o g n;rw[n]at f;have⟨b,p,s⟩:=f.cZ;simp only[u7,vh]at d;obtain⟨E,j,i⟩:=d;have⟨us,k,l⟩:=h.wd.ic s j;have⟨u,c,y⟩:=Ql m k l i;refine⟨u,?_,y,.inr (We7 i)⟩;rw[xr]at c;simp only[QK,p,vl];rw[show(asAddr (.pointer (W ⟨b,g,none⟩))).run P w=.ok ⟨b,g,none⟩ w from rfl];exact c
   ·cases d
theorem JX{a:wk}(h:St M J X D w a.toList U I):∀ {c:List ResultVar} {qs:List kO},zJ P c qs->∀ {xs:uZ},qs.mapM (i_ U I)=W xs->∃vs,(c.mapM (QK a)).run P w=.ok vs w/\aq M J vs xs
 |[],[],_,xs,b=>by simp at b;subst b;exact⟨[],by simp[vF],aq.nil⟩
 |r::c,q::qs,m,xs,i=>by
  have b:zJ P [r] [q]/\zJ P c qs:=by cases r<;>cases q<;>simp_all[zJ]
  simp only[xw,u7,vh]at i;obtain⟨x,d,n,e,j⟩:=i;cases j;have⟨v,k,l,_⟩:=Qqm h b.1 d;have⟨vs,f,g⟩:=JX h b.2 e;refine⟨v::vs,?_,aq.cons l g⟩;simp only[xw,vl,k,Result.andThen,f,vF]
 |[],_::_,b,_,_=>by cases b
 |r::_,[],b,_,_=>by cases r<;>cases b
def Wu5{fn:Func}{b:wk}(h:St M J X D w b.toList U I){qs:List kO}(o:zJ P fn.results.toList qs)(p:results i4 U I qs=some g):
  ∃v D',(Go.results fn b).run P w=.ok v w/\St M J X D' w [v] [g] I:=by
 have j:∀n,(fn.results.toList.mapM (QK b)).run P w=.ok n w->(Go.results fn b).run P w=.ok (if h:n.length=1 then n[0]else .tuple n.toArray) w:=by intro n k;rw[Wcx,Array.mapM_eq_mapM_toList,vl];rw[show(Functor.map List.toArray (fn.results.toList.mapM (QK b)))=(fn.results.toList.mapM (QK b)) >>= λa=>pure a.toArray from(bind_pure_comp _ _).symm];rw[vl,k];simp[Result.andThen,vF]
 match qs,p with
 |[q],p=>
  simp only[results,u7,vh]at p;obtain⟨x,A,p⟩:=p;split at p
  ·cases p
   match d:fn.results.toList,o with
   |[N],o=>
    obtain⟨v,B,f,z⟩:=Qqm h o A;have s:=j [v] (by rw[d];simp only[xw,Fe,vl,B,Result.andThen,vF])
    simp only[Gt,dite_true,List.getElem_cons_zero]at s;cases i4 with
    |false=>obtain⟨D',l⟩:=h.only f.ng (V.ck x);exact⟨v,D',s,l⟩
    |true=>
     simp only[UV,A9c];rcases z with ⟨t,rfl,rfl⟩|O
     ·rcases Hn t U.length with C|G
      ·have u:t<b.size:=by have:=h.bC.1;simp at this;omega
       obtain⟨D',l⟩:=h.result (vO (by simpa using u)) (vO C);refine⟨_,D',s,?_⟩;simpa[Array.getD,u,List.getD,vO C]using l
      ·have e:U.getD t .undef=.undef:=by simp[List.getD,B0 G]
       rw[e]at f ⊢;obtain⟨D',l⟩:=h.only f rfl;exact⟨_,D',s,l⟩
     ·obtain⟨D',l⟩:=h.only f O;exact⟨v,D',s,l⟩
   |[],o=>cases o
   |N::_::_,o=>cases N<;>cases q<;>simp[zJ]at o
  ·cases p
 |[],p=>have H:=p;cases H;obtain⟨n,k,d⟩:=JX h o (by rfl);have:=CP.1 (by simpa using d.1);subst this;obtain⟨D',l⟩:=h.only (v:=.tuple #[]) (.aR #[] [] rfl (λi v c B=>by simp at B)) rfl;exact⟨_,D',j [] k,by simpa using l⟩
 |Q::R::qs,p=>
  simp only[results,u7,vh]at p;obtain⟨K,E,S⟩:=p;cases S;obtain⟨n,k,d⟩:=JX h o E;have F:K.length=(Q::R::qs).length:=(yA E).1;have L:¬n.length=1:=by rw[d.1,F];simp
  have s:=j n k;rw[dif_neg L]at s;obtain⟨D',l⟩:=h.only (x:=.aR (K.map V.aI)) (v:=.tuple n.toArray) (.aR _ _ (by simpa using d.1) (λi v c B m=>by
   rw[ym]at m;cases A:K[i]? with
   |none=>rw[A]at m;cases m
   |some y=>rw[A]at m;cases m;exact(d.2 i v y (by simpa using B) A).aI)) rfl
  exact⟨_,D',s,l⟩
def St.enter(h:St M J X D w r e I)(n:Nat):St M J X D w (r++List.replicate n Go.undef) (e++List.replicate n .undef) I:=by
 have f:∀p v x,At J w (r++List.replicate n Go.undef) (e++List.replicate n .undef) I p v x->At J w r e I p v x\/x=.undef:=by
  intro p v x a;cases p with
  |c o i=>exact .inl a
  |s i=>
   obtain⟨xs,d⟩:=a;rw[JI]at xs d;rw[<-h.bC.1]at d;split at xs
   ·rename_i g;rw[A9a g]at d;exact .inl ⟨xs,d⟩
   ·rename_i g;rw[O3 g,Xd]at d;split at d
    ·cases d;exact .inr rfl
    ·cases d
 refine⟨h.wd,h.bC.append ⟨u0,λi u c j k => ?_⟩,λp v x b a l => ?_,λp v x a => ?_⟩
 ·rw[Xd]at j k;split at j
  ·rename_i g;rw[A9a g]at k;cases j;cases k;exact .undef
  ·cases j
 ·rcases f p v x a with a|rfl
  ·exact h.own p v x b a l
  ·unfold aJ at l;split at l<;>simp_all
 ·rcases f p v x a with a|rfl
  ·exact h.gr p v x a
  ·exact⟨λe s xs=>by cases xs⟩
def ZR{fn:Func}(a:P.funcs[i]?=W fn)(b:fn.body=W m2)(d:(fn.name == "runtime.NumGoroutine")=T)(vs:wk):(callFunc i vs).run P w=.ok (.enter i vs) w:=by unfold callFunc;rw[vl];rw[show(Go.program).run P w=.ok P w from rfl];simp only[Result.andThen,a,d,b];simp[vF]
def OP(hm:P.follows .mixedOrders)(hS:∀i,bL P G i (z i))(s:zL P i A)(H:Nat):bL P G i (kh G z A H):=by
 intro d I r K l M J X D w vs h hG;unfold zL at s;split at s
 ·rename_i fn t;unfold Tp at s;split at s
  ·rename_i c m;simp only[vc,w4,Qv,bne_iff_ne,ne_eq]at s;obtain⟨⟨⟨a1,L⟩,a2⟩,B⟩:=s;refine .inl ⟨ZR t m (by simpa using B) vs,?_⟩;refine calls_of_wp t m ?_;have N:vs.size=d.length:=by simpa using h.bC.1
   have O:=h.enter (A.nt-d.length);unfold kh at l;simp only[u7,vh]at l;obtain⟨⟨q,U',n⟩,Q,l⟩:=l;have a3:St M J X D w ({tmps:=vs++Array.replicate (fn.ntmps-vs.size) Go.undef,defers:=[]}:Act).tmps.toList (d++List.replicate (A.nt-d.length) .undef) I:=by simpa[a1,N]using O
   have R:(q=.norm\/q=.ret)/\∃a,results A.cG U' n A.res=some a/\∃g,g.Nodup/\(∀k∈g,I.length<=k)/\xx I.length n g=some K/\(fz I.length (VP g n) fzD a=some r\/gF I.length g (VP g n) a=some r):=by
    have S:∀ {a:V},results A.cG U' n A.res=some a->eU A.lC I.length n a=some (r,K)->∃a,results A.cG U' n A.res=some a/\∃g,g.Nodup/\(∀k∈g,I.length<=k)/\xx I.length n g=some K/\(fz I.length (VP g n) fzD a=some r\/gF I.length g (VP g n) a=some r):=by
     intro a u t;generalize A.lC=es at t;cases es
     ·simp only[eU,vh,xB,A9g]at t;obtain⟨I2,h2,r1,h3,rfl,rfl⟩:=t;exact⟨a,u,[],Qz,λk U=>by simp at U,by rw[V'];exact h2,.inl h3⟩
     ·simp only[eU,vh,xB,A9g]at t;obtain⟨r1,h3,I3,h4,rfl,rfl⟩:=t;obtain⟨g1,g2⟩:=Qt9 Wkx;exact⟨a,u,_,g1,g2,h4,.inr h3⟩
    cases q with
    |ex id=>simp at l
    |norm=>simp only[vh]at l;obtain⟨a,u,l⟩:=l;exact⟨.inl rfl,S u l⟩
    |ret=>simp only[vh]at l;obtain⟨a,u,l⟩:=l;exact⟨.inr rfl,S u l⟩
   obtain⟨C,a,u,g,g1,g2,g3,g4⟩:=R;refine qN hm hS A.body c a2 _ M J D w _ _ I q U' n a3 hG Q λa' w' a0 => ?_;obtain⟨hd,M1,J1,D1,p,U,hs⟩:=a0;obtain⟨v,D2,hv,a4⟩:=Wu5 (fn:=fn) hs L u;obtain⟨D3,c1,c2,c3,c4,c5⟩:=a4.cG U.len g1 g2 (U':=[r]) rfl (λj x y E hy=>by
    cases j with
    |zero=>simp at E hy;subst E hy;exact .inr g4
    |succ j=>simp at E) g3
   have F:bodyPost P fn (λe w'=>∃v,e=.returned v/\∃M' J' D',(Ext X M J w M' J' w'/\Kp J w I J' w' K)/\St M' J' X D' w' [v] [r] K) .ret a' w':=by
    refine⟨hd,v,hv,v,rfl,_,_,D3,⟨⟨p.m.trans c1,⟨λo b m => ?_,λb k m => ?_⟩,λb f m=>(c2 b f m).trans (p.mX b f m),p.size,p.cG,p.os,p.tape,p.output⟩,⟨c5,λo C => ?_,λo b f hi hl=>U.lk o b f hi (c4 o f (h.wd.dK hi) hl)⟩⟩,c3⟩
    ·rw[IL (h.wd.dK m)];exact p.i.le o b m
    ·obtain⟨⟨o,C⟩,_⟩:=h.wd.gg b k m;exact Qrz (o:=o) (by rw[IL (h.wd.dK C)];exact p.i.le o b C) (p.i.sz b k m)
    ·rw[IL C];exact U.mh o C
   rcases C with rfl|rfl
   ·exact F
   ·exact F
  ·cases s
 ·cases s
theorem Tq(d:P.follows .mixedOrders)(C:Ctx)(e:∀f h,C.cO f=W h->bL P C.G f h)(hF:∀f F,C.code f=W F->zL P f F):∀(n:Nat) (f:FuncId),bL P C.G f (ev C n f)
 |0,f=>λa I r c b=>by simp[ev]at b
 |n+1,f=>λa I r g b=>by
  simp only[ev]at b;split at b
  ·rename_i h c;exact e f h c a I r g b
  ·split at b
   ·rename_i F c;exact bL.frame (OP d (Tq d C e hF n) (hF f F c) n) _ a I r g b
   ·cases b
end
def vC{n d:Nat}{I:hN}{x:V}(h:V.rb n x):fz n I d x=some x:=by cases d<;>simp[fz,h]
variable{q0:IntKind}{s6:Int}
def Tu{n d:Nat}{I:hN}:fz n I d (.int q0 s6)=W (.int q0 s6):=by cases d<;>rfl
def Wql{b:Bool}:fz d f k (.bool b)=W (.bool b):=by cases k<;>rfl
def Wu6{s:u2}:fz d f k (.str s)=W (.str s):=by cases k<;>rfl
def Wqm  : fz d f k (.c_)=W (.c_):=by cases k<;>rfl
def Wqn  : fz d f k (.ad)=W (.ad):=by cases k<;>rfl
def Wqo  : fz d f k (.bc)=W (.bc):=by cases k<;>rfl
def Wqp  : fz d f k (.dt)=W (.dt):=by cases k<;>rfl
def Wkz  : fz d f k (.undef)=W (.undef):=by cases k<;>rfl
def Wu7  : fz d f k (.any)=W (.any):=by cases k<;>rfl
section
variable{G:GV}{q:FuncId->uZ->hN->R6}{u:Nat}{x:V}{U:uZ}{I:hN}
def Wu8:Fh d I h k (x::e)=(if h.contains k then fz d I fzD x else W .any).bind λy=>(Fh d I h (k+1) e).bind λb=>W (y::b):=by simp only[Fh];split<;>rfl
theorem Ex{n:Nat}:∀ {s:u2},V.aL n (u4 s)
 |[]=>rfl
 |b::s=>by show(V.rb n (.int .u8 b.toNat)&&V.aL n (u4 s));rw[Ex];rfl
def Wk0{s:u2}:fz d I k (.sl (u4 s) p1)=W (.sl (u4 s) p1):=vC Ex
def tl:hN.get (O.cells e::I) 0=some e:=rfl
def We8:(V.int q0 s6).ng=.int q0 s6:=rfl
def We9{b:Bool}:(V.bool b).ng=.bool b:=rfl
def Wfa{s:u2}:(V.str s).ng=.str s:=rfl
def Wqq:V.undef.ng=.undef:=rfl
def qO:V.any.ng=.any:=rfl
def Wu9:V.c_.ng=.c_:=rfl
def qP:(V.ptr d k).ng=.ptr d k:=rfl
def Wva:(V.ai e d).ng=.ai e d:=rfl
def Wvb:V.ad.ng=.ad:=rfl
def qQ:(V.sl e p1).ng=.sl e .no:=rfl
def tm{b:Nat}:(V.hs d b k i9 i4).ng=.hs d b k i9 i4:=rfl
def qR:(V.agg e).ng=.agg e:=rfl
def qS:(V.aR e).ng=.aR e:=rfl
def qT{t:TypeId}:(V.bE t g).ng=.bE t g:=rfl
def Wvc:V.bc.ng=.bc:=rfl
def tn{b:uZ}:(V.fn i e b).ng=.fn i e b:=rfl
end
def Wvd(P:Program):List (Nat×Ev.Fn)->Prop
 |[]=>True
 |p::r=>zL P p.1 p.2=true/\Wvd P r
def Wk1(l:List (Nat×Ev.Fn))(f:Nat):Option Ev.Fn:=
 match l with
 |[]=>none
 |p::r=>if p.1==f then some p.2 else Wk1 r f
theorem Tx{P:Program}:∀ {l:List (Nat×Ev.Fn)},Wvd P l->∀f F,Wk1 l f=W F->zL P f F
 |[],_,f,F,h=>by cases h
 |p::r,a,f,F,h=>by
  unfold Wk1 at h;split at h
  ·rename_i b;cases h;have:p.1=f:=by simpa using b
   rw[<-this];exact a.1
  ·exact Tx a.2 f F h
def cI(a:World):vn:=λb i=>a.cell? ⟨b,i,none⟩
def dJ.uz{G:GV}(h:dJ G p v)(c:∀b i u,p b i=W u->cI m b i=W u):dJ G (cI m) bO:=⟨λg=>(h.ok g).mono ⟨c⟩ (.refl _),λJ d=>c _ _ _ (h.ex J d),λJ d=>(h.sh J d).imp λn e=>c _ _ _ e⟩
def St.start(a:World)(g:aq (cI a) bO r e)(xs:∀x∈e,x.ng=x):St (cI a) bO (λb=>b<a.heap.size) (λ_=>none) a r e []:=by
 refine⟨⟨λb i u h=>h,λo b h=>(by cases h),λo b h=>(by cases h),λo j b h _ _ _=>(by cases h),λb h=>h,λo b h=>(by cases h),λb p h=>(by cases h),λb k h=>(by cases h)⟩,g,λp v x b d f => ?_,λp v x d => ?_⟩
 ·cases p with
  |c o i=>obtain⟨_,_,_,_,_,h,_⟩:=d;cases h
  |s i=>rw[<-xs x (Ah d.2),w7]at f;cases f
 ·cases p with
  |c o i=>obtain⟨_,_,_,_,_,h,_⟩:=d;cases h
  |s i=>exact .du (by rw[<-xs x (Ah d.2)];exact w7 _ _)
def gT{P:Program}(p:P.follows .mixedOrders)(C:Ctx)(q:∀i h,C.cO i=W h->bL P C.G i h)(hF:∀i F,C.code i=W F->zL P i F){F:Ev.Fn}(r:C.code i=W F){args:uZ}{b:Bool}(a:World)(s:aq (cI a) bO i3.toList args)(t:∀x∈args,x.ng=x)(u:dJ C.G (cI a) bO)(g:ev C d i args []=W (.bool b,[])):
  Calls P i i3 a (λe w'=>e=.returned (.bool b)/\RowKit.Below a.heap.size a w'):=by
 have w:=Tq p C q hF d i args [] (.bool b) [] g (cI a) bO _ _ a i3 (St.start a s t) u;have f:∀v w',(∃j n m,(Ext (λb=>b<a.heap.size) (cI a) bO a j n w'/\Kp bO a [] n w' [])/\St j n (λb=>b<a.heap.size) m w' [v] [V.bool b] [])->v=.bool b/\RowKit.Below a.heap.size a w':=by intro v w' ⟨j,n,m,⟨c,_⟩,l⟩;exact⟨(l.bC.2 0 _ _ rfl rfl).cA,⟨c.os,c.tape,c.output,c.size,λk y=>c.cG k y⟩⟩
 rcases w with ⟨_,z⟩|⟨v,w',o,_⟩
 ·refine z.mono λe w' ⟨v,g,c⟩ => ?_;obtain⟨rfl,n⟩:=f v w' c;exact⟨g,n⟩
 ·have n:=hF i F r;unfold zL at n;split at n
  ·rename_i l k;unfold Tp at n;split at n
   ·rename_i c j;simp only[vc,bne_iff_ne,ne_eq]at n;rw[ZR k j (by simpa using n.2) i3]at o;cases o
   ·cases n
  ·cases n
section
variable{P:Program}{M:vn}{J:bk}{X:Nat->Prop}{D:cY}{w w':World}{us:vB}{U:uZ}{I:hN}{G:GV}
def Below.at(c:RowKit.Below w.heap.size w w'){b:Nat}(a:b<w.heap.size):w'.heap[b]?=w.heap[b]?:=c.block b a
def St.below(h:St M J X D w us U I)(d:RowKit.Below w.heap.size w w'):St M J X D w' us U I:=by
 have l:∀p v x,At J w' us U I p v x->At J w us U I p v x:=by
  intro p v x j;cases p with
  |s i=>exact j
  |c o i=>obtain⟨b,f,g,fz,E,m,n,z⟩:=j;rw[d.block b (h.wd.dv o b m)]at n;exact⟨b,f,g,fz,E,m,n,z⟩
 refine⟨⟨λb i u F => ?_,λo b q => ?_,λo b q=>Hj (h.wd.dv o b q) d.size,h.wd.inj,λb t=>Hj (h.wd.ef b t) d.size,h.wd.cV,λb p A=>⟨(h.wd.dC b p A).1,(h.wd.dC b p A).2.1,Hj (h.wd.dC b p A).2.2 d.size⟩,λb k H => ?_⟩,h.bC,λp v x b j y=>h.own p v x b (l p v x j) y,λp v x j => ?_⟩
 ·rw[<-h.wd.mem b i u F];unfold World.cell?;rw[d.block b (h.wd.lt F)]
 ·have⟨O,hO,a⟩:=h.wd.obj o b q;refine⟨O,hO,?_⟩;have e:=d.block b (h.wd.dv o b q);cases O with
  |cells E=>obtain⟨f,g,fz,c,r⟩:=a;exact⟨f,g,fz,by rw[e];exact c,r⟩
  |mp C=>obtain⟨B,k,c,r⟩:=a;exact⟨B,k,by rw[e];exact c,r⟩
  |si r C=>obtain⟨s,c,B⟩:=a;exact⟨s,by rw[e];exact c,B⟩
  |gone=>trivial
 ·have⟨⟨o,y⟩,f,g,fz,a,c⟩:=h.wd.gg b k H;exact⟨⟨o,y⟩,f,g,fz,by rw[d.block b (h.wd.dv o b y)];exact a,c⟩
 ·have c:=l p v x j;refine⟨λK L t a e r G => ?_⟩;have B:aJ v x=W a.block:=by rw[t,G];rfl
  have C:=(h.wd.dC _ _ (h.own p v x _ c B)).2.2;have⟨m,n,f,g,fz,z,N⟩:=(h.gr p v x c).ok K L t a e r G;exact⟨m,n,f,g,fz,by rw[d.block _ C];exact z,N⟩
def Ext.below(c:∀b,X b->b<w.heap.size)(a:RowKit.Below w.heap.size w w'):Ext X M J w M J w':=
 ⟨.refl _,.refl _,λ_ _ _=>rfl,a.size,λb h=>a.block b (c b h),a.os,a.tape,a.output⟩
def bL.gj(c:∀args I r I',p9 args I=W (r,I')->I'=I/\r.ng=r/\∀M J X D w (vs:wk),St M J X D w vs.toList args I->dJ G M J->
   (callFunc i vs).run P w=.ok (.enter i vs) w/\∃v,aB M J v r/\Calls P i vs w (λe w'=>e=.returned v/\RowKit.Below w.heap.size w w')):bL P G i p9:=by
 intro args I r I' g M J X D w vs a j;obtain⟨rfl,k,c⟩:=c args I r I' g;have⟨d,v,l,m⟩:=c M J X D w vs a j;refine .inl ⟨d,m.mono λe w' ⟨g,f⟩=>⟨v,g,M,J,?_⟩⟩;have⟨n,p⟩:=(a.below f).only l k;exact⟨n,⟨Ext.below a.wd.ef f,Kp.same _ _ λo b q=>f.block b (a.wd.dv o b q)⟩,p⟩
end
abbrev Ro:=Option (V×hN)
structure Kt where
 nm:List V->hN->Ro
 ex:Nat->List V->hN->Ro
 rt:List V->hN->Ro
structure ah where
 G:GV
 call:FuncId->List V->hN->Ro
 fx:((List V->hN->Ro)->List V->hN->Ro)->List V->hN->Ro
def kc(K:Kt):nj->Ro
 |some (.norm,U,I)=>K.nm U I
 |some (.ex i,U,I)=>K.ex i U I
 |some (.ret,U,I)=>K.rt U I
 |none=>none
def bd{b:Type}(x:Option b)(f:b->Ro):Ro:=
 match x with
 |some a=>f a
 |none=>none
def br(c:V)(a b:Ro):Ro:=
 match c with
 | .bool true=>a
 | .bool false=>b
 |_=>none
def gd(g:V)(t:Bool)(y n:Ro):Ro:=
 match g with
 | .bool b=>if b==t then y else n
 | .undef=>n
 |_=>none
def vQ{b:Type}{a:b}{f:b->Ro}:bd (W a) f=f a:=rfl
def Wqr{f:i7->Ro}:bd none f=none:=rfl
def Hd{b:Type}{x:Option b}{g:b->Option i7}{f:i7->Ro}:bd (x.bind g) f=bd x λa=>bd (g a) f:=by cases x<;>rfl
def Wve{b:Type}{x:Option b}{g:b->i7}{f:i7->Ro}:bd (x.map g) f=bd x λa=>f (g a):=by cases x<;>rfl
def Wk2{x y:Option i7}(h:x=y)(f:i7->Ro):bd x f=bd y f:=by rw[h]
def Wk3(h:g=y)(a b:Ro):br g a b=br y a b:=by rw[h]
def Wk4(h:g=y)(t:Bool)(a b:Ro):gd g t a b=gd y t a b:=by rw[h]
variable{h6 n2 s7:Ro}
def Wqs{t:Bool}{a b:Ro}:br (.bool t) a b=if t=true then a else b:=by cases t<;>rfl
def tp{a b:Ro}:br (.bool true) a b=a:=rfl
def tq{a b:Ro}:br (.bool T) a b=b:=rfl
section
variable(M:ah)
def bK(I:hN)(x:V):Ro:=if yd x.cells then some (.ptr I.length 0,I++[.cells (x.cells.map V.ng)])else none
def QM(ag:Bool)(sz len:Nat)(z:V)(parts:XB)(I:hN):Ro:=do
 let a <-NA sz (List.replicate len z) parts
 if ZS ag sz a then some (.hg I.length len sz ag,I++[.cells ((a.flatMap V.cells).map V.ng)])else none
def wS(ag:Bool)(sz len:Nat)(z:V)(parts:XB):AW:=do
 let a <-NA sz (List.replicate len z) parts
 if ZS ag sz a then some (.sl a .fx)else none
def WD(ag:Bool)(sz len:Nat)(z:V)(parts:XB):AW:=do
 let a <-NA sz (List.replicate len z) parts
 if ZS ag sz a then some (.sl a (.gr sz))else none
def Wvf:V->AW
 | .sl a (.gr _)=>some (.sl a .no)
 |_=>none
def u5(I:hN)(sz:Nat)(p v t:V):Ro:=
 match p with
 | .ptr o a=>do
  let b <-hN.get I o
  let c:=v.cells
  if c.length=sz/\a+sz<=b.length/\yd c then
   match v with
   | .agg _=>some (.undef,I.set o (.cells (RK b a (c.map V.ng))))
   |_=>if t.dg then none else some (.undef,I.set o (.cells (b.set a t)))
  else none
 |_=>none
def Zy(I:hN):V->Ro
 | .ptr o a=>do
  let b <-hN.get I o
  let v <-b[a]?
  match v with
  | .sl c (.gr s)=>some (.sl c (.gr s),I.set o (.cells (b.set a (.sl c .no))))
  | .sl _ .lk=>none
  |v=>some (v,I)
 | .ai b a=>do
  let v <-b[a]?
  some (v.ng,I)
 |_=>none
def aT(str ag:Bool)(sz bytes:Nat)(I:hN)(x y:V):AW:=do
 let a <-Nv str I y
 RE ag sz bytes x a
def qU(str ag:Bool)(sz bytes:Nat)(I:hN)(x y:V):Ro:=do
 let a <-Nv str I y
 match a with
 |[]=>do
  let v <-RE ag sz bytes x []
  some (v.ng,I)
 |_::_=>do
  let v <-RE ag sz bytes x a
  match v with
  | .sl b _=>some (.hs I.length 0 b.length sz ag,I++[.cells ((b.flatMap V.cells).map V.ng)])
  |_=>none
def Qw1(I:hN):V->Ro
 | .str b=>some (.hs I.length 0 b.length 1 false,I++[.cells (u4 b)])
 |_=>none
def ej(ag:Bool)(sz bytes:Nat)(z l c:V)(I:hN):Ro:=do
 let l <-Et l
 let c <-Et c
 if 0<=l/\l<=c/\c*bytes<=Qaq/\z.cells.length=sz/\yd z.cells/\eg ag z then
  some (.hs I.length 0 l.toNat sz ag,I++[.cells ((List.replicate c.toNat z).flatMap V.cells)])
 else none
def gH(ag:Bool)(sz bytes:Nat)(z l c:V):AW:=do
 let l <-Et l
 let c <-Et c
 if 0<=l/\l<=c/\c*bytes<=Qaq/\z.cells.length=sz/\yd z.cells/\eg ag z then
  some (.sl (List.replicate l.toNat z) (if l=c then .fx else .gr sz))
 else none
def JW(b:CK)(I:hN)(m k x:V):Ro:=
 match m with
 | .mp o=>
  match I[o]? with
  |some (.mp c)=>do
   let a <-jV b k x c
   if Wdw b k then some (.undef,I.set o (.mp a))else none
  |_=>none
 |_=>none
def KH(I:hN)(x:V)(ms:List (TypeId×FuncId×Option (Nat×Nat)))(args:uZ):Ro:=
 match x with
 | .bE t y=>
  match ms.find? λp=>p.1==t with
  |some (_,f,none)=>M.call f (y.ng::args) I
  |some (_,f,some (a,b))=>bd (P7 true a b y) λz=>M.call f (z::args) I
  |none=>none
 |_=>none
def jY(I:hN):V->Ro
 | .str s=>some (.ptr I.length 0,I++[.si s 0])
 |_=>none
def gk(I:hN):V->Ro
 | .ptr o 0=>
  match I[o]? with
  |some (.si [] _)=>some (.aR [.bool false],I)
  |some (.si (b::s) a)=>
   let r:=CN (b::s)
   some (.aR [.bool true,.int .i64 a,.int .i32 r.1],I.set o (.si ((b::s).drop r.2) (a+r.2)))
  |_=>none
 |_=>none
def tt(str:Bool)(sz:Nat)(I:hN)(x y:V):Ro:=
 match x with
 | .hs o a c s e=>do
  let b <-Nv str I y
  let d <-hN.get I o
  if s=sz/\b.length<=c/\ZS e sz b/\a+b.length*sz<=d.length then
   some (.int .i64 b.length,I.set o (.cells (RK d a ((b.flatMap V.cells).map V.ng))))
  else none
 |_=>none
def kV(sz:Nat)(z:V)(I:hN)(x:V):Ro:=
 match x with
 | .ad=>some (.undef,I)
 | .hs o a b s d=>do
  let c <-hN.get I o
  if s=sz/\z.cells.length=sz/\a+b*sz<=c.length/\yd z.cells then
   some (.undef,I.set o (.cells (RK c a ((List.replicate b z).flatMap V.cells))))
  else none
 |_=>none
def G'(str ag:Bool)(sz bytes:Nat)(I:hN)(x y:V):Ro:=do
 let a <-Nv str I y
 match x with
 | .hg o b s d=>do
  let c <-hN.get I o
  if s=sz/\ZS ag sz a/\c.length=b*sz/\(b+a.length)*bytes<=Qaq then
   match a with
   |[]=>some (.hg o b sz ag,I)
   |_::_=>some (.hg I.length (b+a.length) sz ag,I.set o .gone++[.cells (c++(a.flatMap V.cells).map V.ng)])
  else none
 | .ad=>
  match a with
  |[]=>some (.ad,I)
  |_::_=>if ZS ag sz a/\a.length*bytes<=Qaq then some (.hg I.length a.length sz ag,I++[.cells ((a.flatMap V.cells).map V.ng)])else none
 |_=>none
def Qfc(I:hN)(x:V)(args:uZ):Ro:=
 match x with
 | .fn f first a=>M.call f (((first++args)++a).map V.ng) I
 |_=>none
def pu(x:AW):AW:=x.map V.ng
def pe(x:AW):AW:=x.map V.aI
def Wof(z:uZ)(I:hN):Ro:=match yd z with|true=>some (.ptr I.length 0,I++[.cells z])|false=>none
def BJ:Ins->Bool
 | .alloc _ | .box _ | .store .. | .loadT _ | .jU .. | .ey _ | .gZ | .uT .. | .call .. | .dR .. | .dS .. | .cw .. | .kN _ | .kH _ | .lA .. | .lb .. | .gE .. => true
 | .aw _ _ _ _ _ h=>h
 | .da _ _ _ _ _ _ h=>h
 |_=>false
def gl(A T9:Arg->V)(I:hN)(i:Ins):AW:=
 match i with
 | .mv x f=>match f with|true=>some (T9 x)|false=>some (A x)
 | .aw a b d z parts _=>wS a b d z (parts.map λ(i,x)=>(i,A x))
 | .d_ a b d z parts=>WD a b d z (parts.map λ(i,x)=>(i,A x))
 | .mark x=>Wvf (T9 x)
 | .app e a b bytes x y f=>match f with|true=>aT e a b bytes I (T9 x) (A y)|false=>aT e a b bytes I (A x) (A y)
 | .da a b bytes z l c _=>gH a b bytes z (A l) (A c)
 | .conv .bz x=>eC I .bz (A x)
 | .gD x i=>pe (eX i (A x))
 |i=>pu (Cs A I i)
def gm(A T9:Arg->V)(I:hN)(i:Ins):Ro:=
 match i with
 | .alloc z=>Wof z I
 | .box x=>bK I (A x)
 | .aw e b g z parts _=>QM e b g z (parts.map λ(i,x)=>(i,A x)) I
 | .store b p x h=>match h with|true=>u5 I b (A p) (A x) (T9 x)|false=>u5 I b (A p) (A x) (A x)
 | .loadT x=>Zy I (A x)
 | .jU d e b bytes x y=>qU d e b bytes I (A x) (A y)
 | .ey x=>Qw1 I (A x)
 | .da e b bytes z l c _=>ej e b bytes z (A l) (A c) I
 | .gZ=>some (.mp I.length,I++[.mp []])
 | .uT n m k x=>JW n I (A m) (A k) (A x)
 | .call f a=>M.call f (a.map A) I
 | .dR x a=>Qfc M I (A x) (a.map A)
 | .dS x o a=>KH M I (A x) o (a.map A)
 | .cw f a j=>M.call f (a.zipIdx.map λp=>if p.2=j then T9 p.1 else A p.1) I
 | .kN x=>jY I (A x)
 | .kH x=>gk I (A x)
 | .lA d b x y=>tt d b I (A x) (A y)
 | .lb b z x=>kV b z I (A x)
 | .gE d e b bytes x y=>G' d e b bytes I (T9 x) (A y)
 |_=>none
def Wr{A T9:Arg->V}{i:Ins}(h:BJ i=T):Qa4 M.call A T9 f i=(gl A T9 f i).map λv=>(v,f):=by
 have d:∀x:AW,(x.bind λv=>W (v.ng,f))=(pu x).map λv=>(v,f):=λx=>by cases x<;>rfl
 have a:∀x:AW,(x.bind λv=>W (v,f))=x.map λv=>(v,f):=λx=>by cases x<;>rfl
 have b:∀x:AW,(x.bind λv=>W (v.aI,f))=(pe x).map λv=>(v,f):=λx=>by cases x<;>rfl
 cases i with
 |alloc z=>cases h
 |box x=>cases h
 |store=>cases h
 |loadT=>cases h
 |jU=>cases h
 |ey=>cases h
 |gZ=>cases h
 |uT=>cases h
 |call=>cases h
 |dR=>cases h
 |dS=>cases h
 |cw=>cases h
 |kN=>cases h
 |kH=>cases h
 |lA=>cases h
 |lb=>cases h
 |gE=>cases h
 |no=>rfl
 |mv x c=>cases c<;>rfl
 |gD x j=>simp only[gl,Qa4,u7];exact b _
 |aw g e c z parts I=>
  cases I with
  |true=>cases h
  |false=>
   simp only[gl,Qa4,wS,vD,A9d,u7];cases NA e (List.replicate c z) (parts.map λx=>(x.1,A x.2))with
   |none=>rfl
   |some j=>simp only[va];split<;>rfl
 |d_ I e c z parts=>
  simp only[gl,Qa4,WD,u7];cases NA e (List.replicate c z) (parts.map λx=>(x.1,A x.2))with
  |none=>rfl
  |some g=>simp only[va];split<;>rfl
 |mark x=>
  simp only[gl,Qa4,Wvf];generalize T9 x=v;cases v with
  |sl e c=>cases c<;>rfl
  |_=>rfl
 |app c I g bytes x y e=>
  cases e<;>
  ·simp only[gl,Qa4,aT,u7,A9c,vD,A9d];cases Nv c f (A y)with
   |none=>rfl
   |some j=>simp only[va];exact a _
 |da I g bytes z l c e=>
  cases e with
  |true=>cases h
  |false=>
   simp only[gl,Qa4,gH,vD,A9d,u7];cases Et (A l)with
   |none=>rfl
   |some l=>
    cases Et (A c)with
    |none=>rfl
    |some c=>simp only[va];split<;>rfl
 |conv c x=>
  cases c with
  |bz=>simp only[gl,Qa4,u7];exact a _
  |_=>simp only[gl,Qa4,u7];exact d _
 |_=>simp only[gl,Qa4,u7];exact d _
def Wqu{A T9:Arg->V}{i:Ins}(h:BJ i):Qa4 M.call A T9 f i=gm M A T9 f i:=by
 cases i with
 |alloc z=>simp only[gm,Qa4,Wof];cases yd z<;>rfl
 |box x=>rfl
 |loadT x=>rfl
 |jU=>rfl
 |ey=>rfl
 |gZ=>rfl
 |uT a m k x=>rfl
 |call=>rfl
 |dR=>rfl
 |dS x c a=>
  have b(o:AW)(I:V->Ro):o.bind I=bd o I:=by cases o<;>rfl
  simp only[gm,Qa4,KH,u7,b];cases A x<;>rfl
 |cw=>rfl
 |kN=>rfl
 |kH=>rfl
 |lA=>rfl
 |lb=>rfl
 |gE=>rfl
 |aw c d a z parts b=>
  cases b with
  |true=>simp only[gm,Qa4,QM,A9c]
  |false=>cases h
 |da b d bytes z l c a=>
  cases a with
  |true=>simp only[gm,Qa4,ej,A9c]
  |false=>cases h
 |store e p x a=>
  cases a<;>
  ·simp only[gm,Qa4,u5,A9c,vD,A9d];generalize A p=b;cases b with
   |ptr o c=>
    simp only[u7];cases hN.get f o with
    |none=>rfl
    |some I=>
     simp only[va];split
     ·generalize A x=d;cases d<;>rfl
     ·rfl
   |_=>rfl
 |_=>cases h
def aU(g:V)(t:Bool)(x:AW):AW:=
 match g with
 | .bool b=>if b==t then x else some .undef
 | .undef=>some .undef
 |_=>none
def fO(g:V)(t:Bool)(x:Ro)(I:hN):Ro:=
 match g with
 | .bool b=>if b==t then x else some (.undef,I)
 | .undef=>some (.undef,I)
 |_=>none
def g'(U:uZ)(I:hN)(k:V->hN->Ro)(i:Ins):Ro:=
 match BJ i with
 |false=>bd (gl (arg M.G U) (cD M.G U) I i) λv=>k v I
 |true=>bd (gm M (arg M.G U) (cD M.G U) I i) λp=>k p.1 p.2
def Wqv(U:uZ)(I:hN)(k:V->hN->Ro)(i:Ins):g' M U I k i=bd (Qa4 M.call (arg M.G U) (cD M.G U) I i) λp=>k p.1 p.2:=by
 unfold g';cases h:BJ i with
 |false=>simp only[Wr M h,Wve]
 |true=>simp only[Wqu M h]
def GP(s:Step)(k:uZ->hN->Ro)(U:uZ)(I:hN):Ro:=
 match s.gd with
 |none=>g' M U I (λv a=>k (put (bM U s.ins.cj.1 s.ins.cj.2) s.dst v) a) s.ins
 |some (g,b)=>
  match s.ins.cj.2 with
  |true=>gd (U.getD g .undef) b (g' M U I (λv a=>k (put (bM U s.ins.cj.1 s.ins.cj.2) s.dst v) a) s.ins) (k (put U s.dst .undef) I)
  |false=>
   match BJ s.ins with
   |false=>bd (aU (U.getD g .undef) b (gl (arg M.G U) (cD M.G U) I s.ins)) λv=>k (put U s.dst v) I
   |true=>bd (fO (U.getD g .undef) b (gm M (arg M.G U) (cD M.G U) I s.ins) I) λp=>k (put U s.dst p.1) p.2
def pk(k:uZ->hN->Ro)(p:uZ×hN):Ro:=k p.1 p.2
def Wfc(s:Step)(k:uZ->hN->Ro)(U:uZ)(I:hN):bd (j_ M.G M.call s U I) (pk k)=g' M U I (λv I'=>k (put (bM U s.ins.cj.1 s.ins.cj.2) s.dst v) I') s.ins:=by rw[Wqv];unfold j_;simp only[u7];cases Qa4 M.call (arg M.G U) (cD M.G U) I s.ins<;>rfl
def Ty(s:Step)(k:uZ->hN->Ro)(U:uZ)(I:hN):GP M s k U I=bd (Zx M.G M.call s U I) (pk k):=by
 unfold GP Zx wanted;cases f:s.gd with
 |none=>simp only[u7,va,A9c];exact(Wfc M s k U I).symm
 |some p=>
  obtain⟨g,b⟩:=p;simp only;generalize U.getD g .undef=gv;have d:s.ins.cj.2=T->bM U s.ins.cj.1 s.ins.cj.2=U:=λh=>by rw[h];cases s.ins.cj.1<;>rfl
  cases c:s.ins.cj.2 with
  |true=>
   rw[c]at d;simp only;have a:=Wfc M s k U I;rw[c]at a;cases gv with
   |bool t=>
    simp only[gd,u7,va];cases t==b
    ·rfl
    ·exact a.symm
   |_=>rfl
  |false=>
   simp only;have a:=Wfc M s k U I;rw[d c]at a;unfold g' at a;cases e:BJ s.ins with
   |false=>
    rw[e]at a;simp only;cases gv with
    |bool t=>
     simp only[aU,u7,va];cases t==b
     ·rfl
     ·exact a.symm
    |_=>rfl
   |true=>
    rw[e]at a;simp only;cases gv with
    |bool t=>
     simp only[fO,u7,va];cases t==b
     ·rfl
     ·exact a.symm
    |_=>rfl
def O':uZ->(uZ->Ro)->Ro
 |[],k=>k []
 |x::a,k=>O' a λb=>k (x::b)
theorem QU:∀(l:uZ) (k:uZ->Ro),O' l k=k l
 |[],k=>rfl
 |x::a,k=>by unfold O';rw[QU a]
def BK:List Step->(uZ->hN->Ro)->uZ->hN->Ro
 |[],k,U,I=>k U I
 |s::r,k,U,I=>GP M s (λb c=>O' b λa=>BK r k a c) U I
theorem Pa:∀(l:List Step) (k:uZ->hN->Ro) (U:uZ) (I:hN),BK M l k U I=bd (zq M.G M.call l U I) (pk k)
 |[],k,U,I=>rfl
 |s::r,k,U,I=>by simp only[BK,zq,Ty,QU,u7,Hd];congr 1;funext p;obtain⟨a,b⟩:=p;simp only[pk];exact Pa r k a b
def ZU(seen:List Rd)(I:hN):Option hN:=Hs I (seen.filterMap Rd.cell)
def w_(seen:List Rd)(I b:hN):Option hN:=(TS b (seen.filterMap Rd.cell)).bind λa=>if seen.all (bt I a)then some a else none
def xN(ag:Bool)(sz:Nat)(x:V):Rd:=match x with | .ptr o a=>.same false o a (if ag then sz else 1)|_=>.none
def VH(I:hN)(x:V):Rd:=
 match x with
 | .ptr o a=>
  match(hN.get I o).bind (·[a]?)with
  |some (.sl _ (.gr _))=>.cE o a
  |_=>.same true o a 1
 |_=>.none
def kW(A:Arg->V)(I:hN):Ins->Rd
 | .load a b x=>xN a b (A x)
 | .loadT x=>VH I (A x)
 | .alloc _ | .box _=>.made I.length
 | .da _ _ _ _ _ _ h=>if h then .made I.length else .none
 |_=>.none
def Wqw(A:Arg->V)(I:hN)(i:Ins):kW A I i=reads A I i:=by cases i<;>rfl
def lf(g:V)(b:Bool)(r:Rd):Rd:=match g with | .bool t=>if t==b then r else .none|_=>.none
def Wvg(gv:V)(b:Bool)(r:Rd):lf gv b r=if((match gv with | .bool t=>W (t==b) | .undef=>W T|_=>none:Option Bool).getD T)=true then r else .none:=by cases gv<;>simp[lf]
def iC(past:List Rd):List DS->(uZ->hN->Ro)->uZ->hN->Ro
 |[],k,U,I=>k U I
 |d::r,k,U,I=>bd (ZU (d.un.map λk=>past.getD k .none) I) λa=>GP M d.s (λc e=>O' c λf=>bd (w_ (d.un.map λk=>past.getD k .none) I e) λh=>iC (past++[match d.s.gd with|none=>kW (arg M.G U) I d.s.ins|some (g,b)=>lf (U.getD g .undef) b (kW (arg M.G U) I d.s.ins)]) r k f h) U a
def Wqx(U:uZ)(I:hN)(g:Option (Nat×Bool))(i:Ins):(match g with|none=>kW (arg M.G U) I i|some (g,b)=>lf (U.getD g .undef) b (kW (arg M.G U) I i))=if(wanted U g).getD T then reads (arg M.G U) I i else .none:=by
 rw[Wqw];cases g with
 |none=>simp[wanted]
 |some p=>obtain⟨g,b⟩:=p;exact Wvg (U.getD g .undef) b (reads (arg M.G U) I i)
theorem Wfd:∀(l:List DS) (past:List Rd) (k:uZ->hN->Ro) (U:uZ) (I:hN),iC M past l k U I=bd (zI M.G M.call past l U I) (pk k)
 |[],past,k,U,I=>rfl
 |d::r,past,k,U,I=>by
  simp only[iC,zI,ZU,w_,Wqx,u7,Ty,QU,Hd];congr 1;funext c;congr 1;funext p;obtain⟨a,e⟩:=p;simp only[pk];congr 1;funext b;split
  ·rw[vQ];exact Wfd r _ k a b
  ·rfl
def JY(a:wi):Nat->uZ->uZ
 |_,[]=>[]
 |i,x::b=>if a.contains i then x::JY a (i+1) b else JY a (i+1) b
def gn(a:wi):Nat->Nat->Nat->uZ->uZ
 |_,0,_,_=>[]
 |i,n+1,p,b=>if a.contains i then b.getD p .undef::gn a (i+1) n (p+1) b else .any::gn a (i+1) n p b
def gp(n:Nat)(I:hN)(a:wi):Nat->uZ->(uZ->Ro)->Ro
 |_,[],k=>k []
 |i,x::b,k=>if a.contains i then bd (fz n I fzD x) λy=>gp n I a (i+1) b λc=>k (y::c)else gp n I a (i+1) b k
theorem XF(n:Nat)(I:hN)(a:wi):∀(xs:uZ) (i:Nat) (k:uZ->Ro),gp n I a i xs k=bd (Fh n I a i xs) λb=>k (JY a i b)
 |[],i,k=>rfl
 |x::xs,i,k=>by
  rw[Wu8];simp only[gp];by_cases h:a.contains i
  ·simp only[A9a h,Hd];congr 1;funext y;rw[XF n I a xs (i+1)];cases Fh n I a (i+1) xs with
   |none=>rfl
   |some b=>simp only[va,vQ,JY,A9a h]
  ·simp only[O3 h];rw[XF n I a xs (i+1)];simp only[va];cases Fh n I a (i+1) xs with
   |none=>rfl
   |some b=>simp only[va,vQ,JY,O3 h]
def Wqy{b:hN}:PO d b h l0 n5 k (g::e)=(Ru d b h l0 n5 k g).bind λy=>(PO d b h l0 n5 (k+1) e).bind λc=>W (y::c):=rfl
theorem O5(n:Nat)(b:hN)(a kp ks:wi):∀(xs:uZ) (i:Nat) (c:uZ),PO n b a kp ks i xs=W c->∀(p:Nat) (vs:uZ),vs.drop p=JY a i c->gn a i xs.length p vs=c
 |[],i,c,h,p,vs,_=>by cases h;rfl
 |x::xs,i,c,h,p,vs,d=>by
  rw[Wqy]at h;simp only[vh,vU]at h;obtain⟨y,f,g,j,k⟩:=h;subst k;simp only[vT,gn];unfold Ru at f;by_cases e:a.contains i
  ·simp only[A9a e];simp only[JY,A9a e]at d;have l:vs[p]?=some y:=by have:=A9e (·[0]?) d;simpa using this
   have m:vs.drop (p+1)=JY a (i+1) g:=by have:=A9e List.tail d;simpa[List.tail_drop]using this
   rw[O5 n b a kp ks xs (i+1) g j (p+1) vs m];simp[y9,l]
  ·simp only[O3 e];simp only[JY,O3 e]at d;simp only[O3 e]at f;cases f;rw[O5 n b a kp ks xs (i+1) g j p vs d]
def Qk4(a:bQ d h l0 e f=W (K,B)):K.length=e.length/\gn h 0 e.length 0 (JY h 0 K)=K:=by unfold bQ at a;simp only[u7,vh,vU,A9g]at a;obtain⟨r,b,s,c,rfl,rfl⟩:=a;exact⟨(ZT 0 _ _ b).1,O5 _ _ _ _ _ _ 0 _ b 0 _ rfl⟩
def G3(a:wi):Nat->uZ->XB
 |_,[]=>[]
 |i,x::b=>if a.contains i then(i,x)::G3 a (i+1) b else G3 a (i+1) b
def mV(t:Nat):XB->V
 |[]=>.undef
 |p::r=>if p.1==t then p.2 else mV t r
def mB(n:Nat)(a:hN)(kp ks:wi):XB->Option uZ
 |[]=>some []
 |p::r=>(if kp.contains p.1 then OA n ks a p.2 else fz n a fzD p.2).bind λy=>(mB n a kp ks r).bind λb=>some (y::b)
def VJ(n:Nat)(kp:wi)(ps:XB)(I:hN):Option (uZ×hN):=
 (mB n (VP (yn n I (kp.filterMap λt=>AG n (mV t ps))) I) kp (yn n I (kp.filterMap λt=>AG n (mV t ps))) ps).bind λa=>(xx n I (yn n I (kp.filterMap λt=>AG n (mV t ps)))).bind λs=>some (a,s)
theorem QP(a:wi)(t:Nat):∀(U:uZ) (i:Nat),mV t (G3 a i U)=if i<=t/\a.contains t=true then U.getD (t-i) .undef else .undef
 |[],i=>by simp[G3,mV]
 |x::g,i=>by
  unfold G3;by_cases c:a.contains i
  ·rw[A9a c];unfold mV;by_cases d:i=t
   ·subst d;simp only[beq_self_eq_true,A9c];rw[A9a ⟨vE _,c⟩,EU];rfl
   ·have:(i==t)=T:=by simpa using d
    simp only[this,vD,A9d];rw[QP];by_cases b:a.contains t
    ·by_cases f:i+1<=t
     ·rw[A9a ⟨f,b⟩,A9a ⟨by omega,b⟩];have e:t-i=(t-(i+1))+1:=by omega
      rw[e,Xh]
     ·rw[O3 (λh=>f h.1),O3 (λh=>by have:=h.1;omega)]
    ·rw[O3 (λh=>b h.2),O3 (λh=>b h.2)]
  ·rw[O3 c,QP a t g (i+1)];by_cases b:a.contains t
   ·have f:i≠t:=λe=>c (e▸b);by_cases d:i+1<=t
    ·rw[A9a ⟨d,b⟩,A9a ⟨by omega,b⟩];have e:t-i=(t-(i+1))+1:=by omega
     rw[e,Xh]
    ·rw[O3 (λh=>d h.1),O3 (λh=>by have:=h.1;omega)]
   ·rw[O3 (λh=>b h.2),O3 (λh=>b h.2)]
theorem Quc(n:Nat)(b:hN)(a kp ks:wi):∀(U:uZ) (i:Nat),(PO n b a kp ks i U).map (JY a i)=mB n b kp ks (G3 a i U)
 |[],i=>rfl
 |x::d,i=>by
  have e:=Quc n b a kp ks d (i+1);unfold PO G3 Ru;by_cases c:a.contains i
  ·rw[A9a c,A9a c];unfold mB;simp only;rw[<-e];cases(if kp.contains i=true then OA n ks b x else fz n b fzD x)with
   |none=>rfl
   |some y=>
    simp only[va];cases PO n b a kp ks (i+1) d with
    |none=>rfl
    |some f=>simp only[va,A0,JY];rw[A9a c]
  ·rw[O3 c,O3 c,<-e];simp only[va];cases PO n b a kp ks (i+1) d with
   |none=>rfl
   |some f=>simp only[va,A0,JY];rw[O3 c]
def Wk5(n:Nat)(a kp:wi)(U:uZ)(I:hN):(bQ n a kp U I).map (λp=>(JY a 0 p.1,p.2))=VJ n kp (G3 a 0 U) I:=by
 have e:(kp.filterMap λt=>if a.contains t then AG n (U.getD t .undef)else none)=kp.filterMap λt=>AG n (mV t (G3 a 0 U)):=by
  congr 1;funext t;rw[QP];by_cases h:a.contains t
  ·rw[A9a h,A9a ⟨wV _,h⟩,OY]
  ·rw[O3 h,O3 (λq=>h q.2)];rfl
 unfold bQ VJ;simp only[e];rw[<-Quc];simp only[u7];cases PO n (VP (yn n I (kp.filterMap λt=>AG n (mV t (G3 a 0 U)))) I) a kp (yn n I (kp.filterMap λt=>AG n (mV t (G3 a 0 U)))) 0 U with
 |none=>rfl
 |some r=>simp only[va,A0];cases xx n I (yn n I (kp.filterMap λt=>AG n (mV t (G3 a 0 U))))<;>rfl
def Wqz{b:Type}(x:Option b)(g:b->i7)(f:i7->Ro):bd (x.map g) f=bd x λa=>f (g a):=by cases x<;>rfl
def hD(n:Nat)(b kp:wi)(U:uZ)(I:hN)(k:uZ->hN->Ro):Ro:=
 match kp with
 |[]=>gp n I b 0 U λc=>bd (ve n I) λd=>k c d
 |a::l=>bd (VJ n (a::l) (G3 b 0 U) I) λp=>k p.1 p.2
def RM(n:Nat)(b kp:wi)(U:uZ)(I:hN)(k:uZ->hN->Ro):hD n b kp U I k=bd (bQ n b kp U I) λp=>k (JY b 0 p.1) p.2:=by
 cases kp with
 |cons a l=>show bd (VJ n (a::l) (G3 b 0 U) I) _=_;rw[<-Wk5,Wqz]
 |nil=>simp only[hD,XF,Qw0,Hd];rfl
def DC(e n:Nat)(b a kp:wi)(K:Kt)(rec:uZ->hN->Ro):Kt where
 nm:=λU I=>hD n b kp U I rec
 ex:=λi U I=>hD n a kp U I λc d=>K.ex i (gn a 0 e 0 c) d
 rt:=λU I=>hD n a kp U I λc d=>K.rt (gn a 0 e 0 c) d
def eR:Cd->Kt->uZ->hN->Ro
 | .skip,K,U,I=>K.nm U I
 | .ret,K,U,I=>K.rt U I
 | .exit id,K,U,I=>K.ex id U I
 | .ops _ l,K,U,I=>BK M l K.nm U I
 | .dH _ l,K,U,I=>iC M [] l K.nm U I
 | .seq a b,K,U,I=>eR a ⟨λf g=>eR b K f g,K.ex,K.rt⟩ U I
 | .cond c a b,K,U,I=>br (arg M.G U c) (eR a K U I) (eR b K U I)
 | .block id b,K,U,I=>eR b ⟨K.nm,λi f g=>if i=id then K.nm f g else K.ex i f g,K.rt⟩ U I
 | .loop d e h b,K,U,I=>gp I.length I d 0 U λj=>M.fx (λrec k m=>eR b (DC U.length I.length d e h K rec) (gn d 0 U.length 0 k) m) j I
 | .no,_,_,_=>none
end
def iter(F:(uZ->hN->Ro)->uZ->hN->Ro)(k:Nat):uZ->hN->Ro:=
 Nat.rec (λ_ _=>none) (λ_ r=>F r) k
def s4(n:Nat):nj->Prop
 |some (_,U,_)=>U.length=n
 |none=>True
section
variable{G:GV}{q:FuncId->uZ->hN->Ro}
def Tz{s:Step}{U U':uZ}{I I':hN}(h:Zx G q s U I=W (U',I')):U'.length=U.length:=by
 unfold Zx at h;simp only[u7,vh]at h;obtain⟨b,_,h⟩:=h;split at h
 ·unfold j_ at h;simp only[u7,vh]at h;obtain⟨p,_,h⟩:=h;cases h;rw[Qrw,CT]
 ·cases h;exact Qrw _ _
theorem Que:∀ {l:List Step} {U U':uZ} {I I':hN},zq G q l U I=W (U',I')->U'.length=U.length
 |[],U,U',I,I',h=>by cases h;rfl
 |s::r,U,U',I,I',h=>by simp only[zq,u7,vh]at h;obtain⟨p,a,b⟩:=h;rw[Que (l:=r) (U:=p.1) (I:=p.2) b,Tz (U':=p.1) (I':=p.2) a]
theorem Wfe:∀ {l:List DS} {past:List Rd} {U U':uZ} {I I':hN},zI G q past l U I=W (U',I')->U'.length=U.length
 |[],past,U,U',I,I',h=>by cases h;rfl
 |d::r,past,U,U',I,I',h=>by
  simp only[zI,u7,vh]at h;obtain⟨e,_,p,b,c,_,a⟩:=h;split at a
  ·rw[Wfe (l:=r) (U:=p.1) (I:=c) a,Tz (U':=p.1) (I':=p.2) b]
  ·cases a
theorem Pc{d a kp:wi}{n c:Nat}{rd:uZ->hN->nj}(b:∀U I,U.length=c->s4 c (rd U I)):∀(k:Nat) (U:uZ) (I:hN),U.length=c->s4 c (PS d a kp n rd k U I)
 |0,U,I,h=>trivial
 |k+1,U,I,h=>by
  unfold PS;have g:=b U I h;cases i:rd U I with
  |none=>trivial
  |some p=>
   obtain⟨e,j,l⟩:=p;rw[i]at g;have f:=g;cases e<;>
   ·simp only[u7];cases m:bQ n _ kp j l with
    |none=>trivial
    |some p=>
     have:=(Qk4 m).1.trans f
     first
      |exact Pc b k p.1 p.2 this
      |exact this
theorem UH(d:Nat):∀(c:Cd) (U:uZ) (I:hN),s4 U.length (cz G q d c U I)
 | .skip,U,I=>rfl
 | .ret,U,I=>rfl
 | .exit id,U,I=>rfl
 | .ops _ l,U,I=>by
  simp only[cz];cases h:zq G q l U I with
  |none=>trivial
  |some p=>exact Que (U':=p.1) (I':=p.2) h
 | .dH _ l,U,I=>by
  simp only[cz];cases h:zI G q [] l U I with
  |none=>trivial
  |some p=>exact Wfe (U':=p.1) (I':=p.2) h
 | .seq a b,U,I=>by
  have f:=UH d a U I;simp only[cz];cases h:cz G q d a U I with
  |none=>trivial
  |some p=>
   obtain⟨e,U',I'⟩:=p;rw[h]at f;have g:=f;cases e with
   |norm=>simp only;rw[<-g];exact UH d b U' I'
   |ex i=>exact f
   |ret=>exact f
 | .cond c a b,U,I=>by
  simp only[cz];split
  ·exact UH d a U I
  ·exact UH d b U I
  ·trivial
 | .block id b,U,I=>by
  have a:=UH d b U I;simp only[cz];cases h:cz G q d b U I with
  |none=>trivial
  |some p=>
   obtain⟨e,U',I'⟩:=p;rw[h]at a;cases e with
   |norm=>exact a
   |ex i=>simp only;split<;>exact a
   |ret=>exact a
 | .no,U,I=>trivial
 | .loop a e k b,U,I=>by
  simp only[cz,u7];cases f:Fh I.length I a 0 U with
  |none=>trivial
  |some l=>simp only[va];have g:=(ZT 0 _ _ ((Ff 0 U).trans f)).1;refine Pc (λh i j => ?_) _ _ _ g;rw[<-j];exact UH d b h i
end
theorem Wff{c n:Nat}{b a kp:wi}{rd:uZ->hN->nj}{K:Kt}{F:(uZ->hN->Ro)->uZ->hN->Ro}(f:∀U I,U.length=c->s4 c (rd U I))(hF:∀rec U I,U.length=c->∀vs,gn b 0 c 0 vs=U->F rec vs I=kc (DC c n b a kp K rec) (rd U I)):
  ∀(k:Nat) (U:uZ) (I:hN),U.length=c->∀vs,gn b 0 c 0 vs=U->iter F k vs I=kc K (PS b a kp n rd k U I)
 |0,U,I,d,vs,e=>rfl
 |k+1,U,I,l,vs,r=>by
  show F (iter F k) vs I=_;rw[hF (iter F k) U I l vs r];unfold PS;have m:=f U I l;cases t:rd U I with
  |none=>rfl
  |some p=>
   obtain⟨e,g,h⟩:=p;rw[t]at m;have d:=m;cases e with
   |norm=>
    show hD n b kp g h (iter F k)=_;rw[RM];simp only[u7];cases j:bQ n b kp g h with
    |none=>rfl
    |some p=>obtain⟨o,s⟩:=p;have⟨q,i⟩:=Qk4 j;rw[d]at i;exact Wff f hF k o s (q.trans d) _ i
   |ex i=>
    show hD n a kp g h (λo j=>K.ex i (gn a 0 c 0 o) j)=_;rw[RM];simp only[u7];cases u:bQ n a kp g h with
    |none=>rfl
    |some p=>obtain⟨o,s⟩:=p;have⟨v,q⟩:=Qk4 u;rw[d]at q;simp only[vQ,q,va];rfl
   |ret=>
    show hD n a kp g h (λj i=>K.rt (gn a 0 c 0 j) i)=_;rw[RM];simp only[u7];cases q:bQ n a kp g h with
    |none=>rfl
    |some p=>obtain⟨j,s⟩:=p;have⟨u,o⟩:=Qk4 q;rw[d]at o;simp only[vQ,o,va];rfl
theorem UI(G:GV)(d:FuncId->uZ->hN->Ro)(k:Nat):∀(c:Cd) (K:Kt) (U:uZ) (I:hN),
  eR ⟨G,d,λF=>iter F k⟩ c K U I=kc K (cz G d k c U I)
 | .skip,K,U,I=>rfl
 | .ret,K,U,I=>rfl
 | .exit id,K,U,I=>rfl
 | .ops _ l,K,U,I=>by simp only[eR,cz,Pa];cases zq G d l U I<;>rfl
 | .dH _ l,K,U,I=>by simp only[eR,cz,Wfd];cases zI G d [] l U I<;>rfl
 | .seq a b,K,U,I=>by
  simp only[eR,cz];rw[UI G d k a];cases h:cz G d k a U I with
  |none=>rfl
  |some p=>
   obtain⟨e,f,g⟩:=p;cases e with
   |norm=>exact UI G d k b K f g
   |ex i=>rfl
   |ret=>rfl
 | .cond c a b,K,U,I=>by
  simp only[eR,cz];rw[UI,UI];generalize arg G U c=v;cases v with
  |bool t=>cases t<;>rfl
  |_=>rfl
 | .block id b,K,U,I=>by
  simp only[eR,cz];rw[UI];cases cz G d k b U I with
  |none=>rfl
  |some p=>
   obtain⟨e,a,f⟩:=p;cases e with
   |norm=>rfl
   |ex i=>simp only[kc];split<;>rfl
   |ret=>rfl
 | .no,K,U,I=>rfl
 | .loop e h o b,K,U,I=>by
  simp only[eR,cz,u7];rw[XF];cases j:Fh I.length I e 0 U with
  |none=>rfl
  |some l=>simp only[va,vQ];have a:=(Ff 0 U).trans j;have m:=(ZT 0 _ _ a).1;refine Wff (λf g i=>by rw[<-i];exact UH k b f g) (λrec f g i p n => ?_) k l I m _ (O5 _ _ _ _ _ _ 0 _ a 0 _ rfl);rw[n];exact UI G d k b _ f g
def il(I:hN)(ag:Bool)(sz:Nat)(p:V):AW:=
 match p with
 | .ptr o a=>do
  let b <-hN.get I o
  part ag sz b a
 |_=>none
def jZ(U:uZ)(I:hN):List kO->(uZ->Ro)->Ro
 |[],k=>k []
 | .tmp t::r,k=>jZ U I r λa=>k (U.getD t .undef::a)
 | .cell t b c::r,k=>bd (il I b c (U.getD t .undef)) λv=>jZ U I r λa=>k (v::a)
def oK(a:Bool)(v:V):AW:=if v.one||eg true v then some (UV a v)else none
def nK(n:Nat)(I:hN)(r:V):Ro:=bd (ve n I) λa=>bd (fz n I fzD r) λb=>some (b,a)
def lJ(a:Bool)(n:Nat)(I:hN)(r:V):Ro:=
 match a with
 |false=>nK n I r
 |true=>eU true n I r
def iD(a b:Bool)(c:List kO)(n:Nat)(U:uZ)(I:hN):Ro:=
 match c with
 |[r]=>jZ U I [r] λd=>bd (oK b (d.headD .undef)) (lJ a n I)
 |rs=>jZ U I rs λd=>lJ a n I (.aR (d.map V.aI))
def Qw2(I:hN)(r:V):lJ n6 k6 I r=eU n6 k6 I r:=by
 cases n6 with
 |true=>rfl
 |false=>
  simp only[lJ,nK,eU];cases ve k6 I with
  |none=>rfl
  |some s=>simp only[vQ,va];cases fz k6 I fzD r<;>rfl
theorem QS(U:uZ)(I:hN):∀(a:List kO) (k:uZ->Ro),jZ U I a k=bd (a.mapM (i_ U I)) k
 |[],k=>by rw[Fe];rfl
 | .tmp t::r,k=>by simp only[jZ,xw,u7,i_,va,Hd,QS U I r];congr 1
 | .cell t b c::r,k=>by simp only[jZ,xw,u7,Hd,QS U I r];have:il I b c (U.getD t .undef)=i_ U I (.cell t b c):=rfl;rw[this];congr 1
def WH(c:Bool)(e:List kO)(n:Nat)(U:uZ)(I:hN):
  iD n6 c e n U I=bd (Ev.results c U I e) λr=>eU n6 n I r:=by
 match e with
 |[]=>simp only[iD,Ev.results,QS,u7,Hd,Fe,Qw2];rfl
 |[r]=>simp only[iD,Ev.results,QS,u7,Hd,xw,Fe,funext (Qw2 n6 n I)];congr 1
 |a::b::r=>simp only[iD,Ev.results,QS,u7,Hd,Qw2];congr 1
def bW(M:ah)(F:Fn)(args:uZ)(I:hN):Ro:=
 eR M F.body ⟨iD F.lC F.cG F.res I.length,λ_ _ _=>none,iD F.lC F.cG F.res I.length⟩ (args++List.replicate (F.nt-args.length) .undef) I
def Wvh(G:GV)(a:FuncId->uZ->hN->Ro)(k:Nat)(args:uZ)(I:hN):bW ⟨G,a,λA=>iter A k⟩ A args I=kh G a A k args I:=by
 unfold bW kh;rw[UI];simp only[u7];have b:∀ {c:Type} (x:Option c) (f:c->Ro),bd x f=x.bind f:=λx f=>by cases x<;>rfl
 cases cz G a k A.body (args++List.replicate (A.nt-args.length) .undef) I with
 |none=>rfl
 |some p=>
  obtain⟨o,U,d⟩:=p;cases o with
  |norm=>simp only[kc,WH,b,va]
  |ret=>simp only[kc,WH,b,va]
  |ex i=>rfl
section
variable{q β:Type}
def jz(s:Nat->Option β):Prop:=∀n r,s n=some r->s (n+1)=some r
def jz.le{s:Nat->Option β}(h:jz s){n r}(a:s n=W r):∀d,s (n+d)=W r
 |0=>a
 |d+1=>h _ _ (h.le a d)
def jz.uA{s:Nat->Option β}(h:jz s){n m r}(a:s n=W r)(b:n<=m):s m=some r:=by obtain⟨d,rfl⟩:=Xe b;exact h.le a d
structure av (s:Nat->Option β) (x:Option β):Prop where
 up:jz s
 iff:∀r,x=some r↔∃n,s n=some r
def av.uniq{s:Nat->Option β}{x y:Option β}(h:av s x)(g:av s y):x=y:=by
 cases x with
 |none=>
  cases y with
  |none=>rfl
  |some r=>exact absurd ((h.iff r).2 ((g.iff r).1 rfl)) u0
 |some r=>exact((g.iff r).2 ((h.iff r).1 rfl)).symm
def av.const(x:Option β):av (λ_=>x) x:=⟨λ_ _ h=>h,λr=>⟨λh=>⟨0,h⟩,λ⟨_,h⟩=>h⟩⟩
def av.shift{s:Nat->Option β}{x:Option β}(h:av s x)(d:Nat):av (λn=>s (n+d)) x:=by
 refine⟨λn r a => ?_,λr=>⟨λb => ?_,λ⟨n,a⟩=>(h.iff r).2 ⟨_,a⟩⟩⟩
 ·have:=h.up _ _ a;rw[show n+1+d=n+d+1 by omega];exact this
 ·have⟨n,a⟩:=(h.iff r).1 b;exact⟨n,h.up.le a d⟩
def av.bd{s:Nat->Option q}{x:Option q}{f:Nat->q->Ro}{g:q->Ro}(h:av s x)(c:∀a,av (λn=>f n a) (g a)):av (λn=>Ev.bd (s n) (f n)) (Ev.bd x g):=by
 refine⟨λn r b => ?_,λr=>⟨λd => ?_,λ⟨n,b⟩ => ?_⟩⟩
 ·cases e:s n with
  |none=>simp only[e]at b;cases b
  |some a=>simp only[e]at b;simp only[h.up _ _ e];exact(c a).up _ _ b
 ·cases e:x with
  |none=>rw[e]at d;cases d
  |some a=>rw[e]at d;have⟨n,b⟩:=(h.iff a).1 e;have⟨m,i⟩:=((c a).iff r).1 d;refine⟨n+m,?_⟩;simp only[h.up.le b m];rw[show n+m=m+n by omega];exact(c a).up.le i n
 ·cases e:s n with
  |none=>simp only[e]at b;cases b
  |some a=>simp only[e]at b;rw[(h.iff a).2 ⟨n,e⟩];exact((c a).iff r).2 ⟨n,b⟩
def av.diag{s:Nat->Nat->Option β}{x:Nat->Option β}{y:Option β}(h:∀j,av (λk=>s j k) (x j))(c:∀k,jz λj=>s j k)(e:av x y)(d:Nat):av (λk=>s (k+d) k) y:=by
 refine⟨λk r a => ?_,λr=>⟨λf => ?_,λ⟨k,a⟩ => ?_⟩⟩
 ·have b:=c k _ _ a;have g:=(h (k+d+1)).up _ _ b;rw[show k+1+d=k+d+1 by omega];exact g
 ·have⟨j,b⟩:=(e.iff r).1 f;have⟨k,a⟩:=((h j).iff r).1 b;refine⟨j+k,?_⟩;have g:s j (j+k)=some r:=by rw[show j+k=k+j by omega];exact(h j).up.le a j
  exact(c (j+k)).uA g Y
 ·exact(e.iff r).2 ⟨k+d,((h _).iff r).2 ⟨k,a⟩⟩
noncomputable def lim(s:Nat->Option β):Option β:=by classical exact if h:∃r n,s n=some r then some h.choose else none
def Wog{s:Nat->Option β}(h:jz s):av s (lim s):=by
 refine⟨h,λr => ?_⟩;unfold lim;split
 ·rename_i c;have⟨n,b⟩:=c.choose_spec;refine⟨λd => ?_,λ⟨m,e⟩ => ?_⟩
  ·cases d;exact⟨n,b⟩
  ·have f:=h.le b m;have a:=h.le e n;rw[show m+n=n+m by omega]at a;rw[f]at a;exact a
 ·rename_i a;exact⟨λb=>(by cases b),λ⟨m,c⟩=>absurd ⟨r,m,c⟩ a⟩
end
def Le{a:Type}(x y:Option a):Prop:=∀r,x=some r->y=some r
def Le.refl(x:Option i7):Le x x:=λ_ h=>h
def Le.bd{d:Type}{x y:Option d}{f g:d->Ro}(h:Le x y)(e:∀a,Le (f a) (g a)):Le (Ev.bd x f) (Ev.bd y g):=by
 intro r b;cases c:x with
 |none=>rw[c]at b;cases b
 |some a=>rw[c]at b;rw[h a c];exact e a r b
abbrev Rk:=List V->hN->Ro
def gU(f g:Rk):Prop:=∀U I,Le (f U I) (g U I)
def qV(K L:Kt):Prop:=gU K.nm L.nm/\(∀i,gU (K.ex i) (L.ex i))/\gU K.rt L.rt
def lK(M N:ah):Prop:=M.G=N.G/\∀f a I,Le (M.call f a I) (N.call f a I)
variable{i2 l1:Rk}{o1:V->hN->Ro}
section
variable{M N:ah}
def Woh(h:lK M N)(A T9:Arg->V)(I:hN)(i:Ins):Le (gm M A T9 I i) (gm N A T9 I i):=by
 cases i with
 |call f a=>exact h.2 _ _ _
 |dR x a=>
  show Le (Qfc M I (A x) (a.map A)) (Qfc N I (A x) (a.map A));unfold Qfc;split
  ·exact h.2 _ _ _
  ·exact Le.refl _
 |cw f a j=>exact h.2 _ _ _
 |dS x b a=>
  show Le (KH M I (A x) b (a.map A)) (KH N I (A x) b (a.map A));unfold KH;split
  ·split
   ·exact h.2 _ _ _
   ·exact Le.bd (Le.refl _) λz=>h.2 _ _ _
   ·exact Le.refl _
  ·exact Le.refl _
 |_=>exact Le.refl _
def Woi(h:lK M N){l:V->hN->Ro}(a:∀v I,Le (o1 v I) (l v I))(U:uZ)(I:hN)(i:Ins):Le (g' M U I o1 i) (g' N U I l i):=by
 unfold g';rw[h.1];split
 ·exact Le.bd (Le.refl _) λv=>a v I
 ·exact Le.bd (Woh h _ _ _ _) λp=>a _ _
def Wvi(h:Le h6 n2)(g:V)(t:Bool)(I:hN):Le (fO g t h6 I) (fO g t n2 I):=by
 unfold fO;split
 ·split
  ·exact h
  ·exact Le.refl _
 ·exact Le.refl _
 ·exact Le.refl _
def qW{b:Ro}(h:Le h6 n2)(c:Le s7 b)(g:V)(t:Bool):Le (gd g t h6 s7) (gd g t n2 b):=by
 unfold gd;split
 ·split
  ·exact h
  ·exact c
 ·exact c
 ·exact Le.refl _
def qX{b:Ro}(h:Le h6 n2)(c:Le s7 b)(g:V):Le (br g h6 s7) (br g n2 b):=by
 unfold br;split
 ·exact h
 ·exact c
 ·exact Le.refl _
def Wfh(h:lK M N)(a:gU i2 l1)(s:Step)(U:uZ)(I:hN):Le (GP M s i2 U I) (GP N s l1 U I):=by
 unfold GP;split
 ·exact Woi h (λv I=>a _ _) _ _ _
 ·split
  ·exact qW (Woi h (λv I=>a _ _) _ _ _) (a _ _) _ _
  ·split
   ·rw[h.1];exact Le.bd (Le.refl _) λv=>a _ _
   ·rw[h.1];exact Le.bd (Wvi (Woh h _ _ _ _) _ _ _) λv=>a _ _
theorem Qzu(h:lK M N):∀(s:List Step) {k l:Rk},gU k l->gU (BK M s k) (BK N s l)
 |[],k,l,a=>a
 |s::r,k,l,a=>λU I=>by simp only[BK,QU];exact Wfh h (λb c=>Qzu h r a b c) s U I
theorem Woj(h:lK M N):∀(s:List DS) (past:List Rd) {k l:Rk},gU k l->gU (iC M past s k) (iC N past s l)
 |[],past,k,l,a=>a
 |d::r,past,k,l,a=>λU I=>by simp only[iC,QU];rw[h.1];exact Le.bd (Le.refl _) λb=>Wfh h (λc f=>Le.bd (Le.refl _) λe=>Woj h r _ a c e) d.s U b
theorem Wq(n:Nat)(I:hN)(a:wi):∀(xs:uZ) (i:Nat) {k l:uZ->Ro},(∀b,Le (k b) (l b))->Le (gp n I a i xs k) (gp n I a i xs l)
 |[],i,k,l,c=>c _
 |x::xs,i,k,l,c=>by
  unfold gp;split
  ·exact Le.bd (Le.refl _) λy=>Wq n I a xs (i+1) λb=>c _
  ·exact Wq n I a xs (i+1) c
def Ww(a kp:wi)(U:uZ)(I:hN)(b:gU i2 l1):Le (hD k6 a kp U I i2) (hD k6 a kp U I l1):=by rw[RM,RM];exact Le.bd (Le.refl _) λp=>b _ _
def XJ{K L:Kt}(c:qV K L)(e:gU i2 l1)(d n:Nat)(b a kp:wi):qV (DC d n b a kp K i2) (DC d n b a kp L l1):=
 ⟨λU I=>Ww _ _ _ _ _ e,λi U I=>Ww _ _ _ _ _ λh j=>c.2.1 i _ _,λU I=>Ww _ _ _ _ _ λh j=>c.2.2 _ _⟩
def s5(M N:ah):Prop:=∀F a:Rk->Rk,(∀f g,gU f g->gU (F f) (F g))->(∀f g,gU f g->gU (a f) (a g))->(∀f g,gU f g->gU (F f) (a g))->gU (M.fx F) (N.fx a)
theorem XK{M N:ah}:∀(c:Cd) (_:lK M N) (_:s5 M N) (_:lK M M) (_:s5 M M) (_:lK N N) (_:s5 N N) {K L:Kt},qV K L->gU (eR M c K) (eR N c L)
 | .skip,h,f,a,b,c,d,K,L,e=>e.1
 | .ret,h,f,a,b,c,d,K,L,e=>e.2.2
 | .exit id,h,f,a,b,c,d,K,L,e=>e.2.1 id
 | .ops _ l,h,f,a,b,c,d,K,L,e=>Qzu h l e.1
 | .dH _ l,h,f,a,b,c,d,K,L,e=>Woj h l [] e.1
 | .seq x y,h,i,a,b,c,d,K,L,g=>λU I=>XK x h i a b c d (K:=⟨λe f=>eR M y K e f,K.ex,K.rt⟩) (L:=⟨λe f=>eR N y L e f,L.ex,L.rt⟩) ⟨λe f=>XK y h i a b c d g e f,g.2.1,g.2.2⟩ U I
 | .cond v x y,h,e,a,b,c,d,K,L,f=>λU I=>by simp only[eR];rw[h.1];exact qX (XK x h e a b c d f U I) (XK y h e a b c d f U I) _
 | .block id x,h,j,a,b,c,d,K,L,g=>λU I=>XK x h j a b c d (K:=⟨K.nm,λi e f=>if i=id then K.nm e f else K.ex i e f,K.rt⟩) (L:=⟨L.nm,λi e f=>if i=id then L.nm e f else L.ex i e f,L.rt⟩) ⟨g.1,λi e f=>by
   show Le (if i=id then K.nm e f else K.ex i e f) (if i=id then L.nm e f else L.ex i e f);split
   ·exact g.1 _ _
   ·exact g.2.1 _ _ _,g.2.2⟩ U I
 | .no,h,e,a,b,c,d,K,L,f=>λU I=>Le.refl _
 | .loop n j p x,h,i,a,b,c,d,K,L,m=>λU I=>by
  simp only[eR];refine Wq _ _ _ _ _ λo=>i _ _ (λf g e k l => ?_) (λf g e k l => ?_) (λf g e k l => ?_) o I
  ·exact XK x a b a b a b (XJ ⟨λ_ _=>Le.refl _,λ_ _ _=>Le.refl _,λ_ _=>Le.refl _⟩ e _ _ _ _ _) _ _
  ·exact XK x c d c d c d (XJ ⟨λ_ _=>Le.refl _,λ_ _ _=>Le.refl _,λ_ _=>Le.refl _⟩ e _ _ _ _ _) _ _
  ·exact XK x h i a b c d (XJ m e _ _ _ _ _) _ _
theorem Qw5{F a:Rk->Rk}(b:∀f g,gU f g->gU (F f) (a g)):∀ {k l:Nat},k<=l->gU (iter F k) (iter a l)
 |0,l,_,U,I=>λr h=>by cases h
 |k+1,0,h,U,I=>by omega
 |k+1,l+1,h,U,I=>b _ _ (Qw5 b Y) U I
end
variable{k0:Kt}{n3 v1:Nat->Ro}{n4:Nat->Rk}{p0:Nat->Kt}{v2:FuncId->uZ->hN->Ro}
section
variable(G:GV)
def mk(a:FuncId->uZ->hN->Ro)(k:Nat):ah:=⟨G,a,λF=>iter F k⟩
def qY(a:FuncId->uZ->hN->Ro)(k:Nat):(mk G a k).G=G:=rfl
noncomputable def dG(F:Rk->Rk):Rk:=λa I=>lim λj=>iter F j a I
noncomputable def gV(E:FuncId->List V->hN->Ro):ah:=⟨G,E,dG⟩
def Wvj(E:FuncId->uZ->hN->Ro):(gV G E).G=G:=rfl
def fS(f:Nat->Rk)(g:Rk):Prop:=∀U I,av (λn=>f n U I) (g U I)
structure iE (K:Nat->Kt) (L:Kt):Prop where
 nm:fS (λn=>(K n).nm) L.nm
 ex:∀i,fS (λn=>(K n).ex i) (L.ex i)
 rt:fS (λn=>(K n).rt) L.rt
variable{G}
variable{call:Nat->FuncId->uZ->hN->Ro}{E:FuncId->uZ->hN->Ro}
def Wfi(q:∀f args I,av (λn=>call n f args I) (E f args I))(d:Nat)(A T9:Arg->V)(I:hN)(i:Ins):av (λn=>gm (mk G (call n) (n+d)) A T9 I i) (gm (gV G E) A T9 I i):=by
 cases i with
 |call f args=>exact q _ _ _
 |dR x args=>
  show av (λn=>Qfc (mk G (call n) (n+d)) I (A x) (args.map A)) (Qfc (gV G E) I (A x) (args.map A));unfold Qfc;split
  ·exact q _ _ _
  ·exact av.const _
 |cw f args j=>exact q _ _ _
 |dS x a args=>
  show av (λn=>KH (mk G (call n) (n+d)) I (A x) a (args.map A)) (KH (gV G E) I (A x) a (args.map A));unfold KH;split
  ·split
   ·exact q _ _ _
   ·exact av.bd (av.const _) λz=>q _ _ _
   ·exact av.const _
  ·exact av.const _
 |_=>exact av.const _
def Wfj(q:∀f args I,av (λn=>call n f args I) (E f args I))(d:Nat){k:Nat->V->hN->Ro}(a:∀v I,av (λn=>k n v I) (o1 v I))(U:uZ)(I:hN)(i:Ins):
  av (λn=>g' (mk G (call n) (n+d)) U I (k n) i) (g' (gV G E) U I o1 i):=by
 unfold g';show av (λn=>match BJ i with|false=>bd (gl (arg G U) (cD G U) I i) λv=>k n v I|true=>bd (gm (mk G (call n) (n+d)) (arg G U) (cD G U) I i) λp=>k n p.1 p.2)
  (match BJ i with|false=>bd (gl (arg G U) (cD G U) I i) λv=>o1 v I|true=>bd (gm (gV G E) (arg G U) (cD G U) I i) λp=>o1 p.1 p.2)
 cases BJ i with
 |false=>exact av.bd (av.const _) λv=>a v I
 |true=>exact av.bd (Wfi q d _ _ _ _) λp=>a _ _
def Wq0(h:av n3 h6)(g:V)(t:Bool)(I:hN):av (λn=>fO g t (n3 n) I) (fO g t h6 I):=by
 unfold fO;split
 ·split
  ·exact h
  ·exact av.const _
 ·exact av.const _
 ·exact av.const _
def Wvk{b:Ro}(h:av n3 h6)(c:av v1 b)(g:V)(t:Bool):av (λn=>gd g t (n3 n) (v1 n)) (gd g t h6 b):=by
 unfold gd;split
 ·split
  ·exact h
  ·exact c
 ·exact c
 ·exact av.const _
def Wvl{b:Ro}(h:av n3 h6)(c:av v1 b)(g:V):av (λn=>br g (n3 n) (v1 n)) (br g h6 b):=by
 unfold br;split
 ·exact h
 ·exact c
 ·exact av.const _
def Qzv(q:∀f args I,av (λn=>call n f args I) (E f args I))(d:Nat)(a:fS n4 i2)(s:Step)(U:uZ)(I:hN):av (λn=>GP (mk G (call n) (n+d)) s (n4 n) U I) (GP (gV G E) s i2 U I):=by
 unfold GP;cases s.gd with
 |none=>exact Wfj q d (λv I=>a _ _) _ _ _
 |some p=>
  obtain⟨g,b⟩:=p;simp only[qY,Wvj];cases s.ins.cj.2 with
  |true=>exact Wvk (Wfj q d (λv I=>a _ _) _ _ _) (a _ _) _ _
  |false=>
   simp only;cases BJ s.ins with
   |false=>exact av.bd (av.const _) λv=>a _ _
   |true=>exact av.bd (Wq0 (Wfi q d _ _ _ _) _ _ _) λv=>a _ _
theorem Qug(q:∀f args I,av (λn=>call n f args I) (E f args I))(d:Nat):∀(s:List Step) {k:Nat->Rk} {l:Rk},fS k l->fS (λn=>BK (mk G (call n) (n+d)) s (k n)) (BK (gV G E) s l)
 |[],k,l,a=>a
 |s::r,k,l,a=>λU I=>by simp only[BK,QU];exact Qzv q d (λb c=>Qug q d r a b c) s U I
theorem Wfk(q:∀f args I,av (λn=>call n f args I) (E f args I))(d:Nat):∀(s:List DS) (past:List Rd) {k:Nat->Rk} {l:Rk},fS k l->fS (λn=>iC (mk G (call n) (n+d)) past s (k n)) (iC (gV G E) past s l)
 |[],past,k,l,a=>a
 |s::r,past,k,l,a=>λU I=>by simp only[iC,QU,qY,Wvj];exact av.bd (av.const _) λb=>Qzv q d (λc g=>av.bd (av.const _) λe=>Wfk q d r _ a c e) s.s U b
theorem Qr6(n:Nat)(I:hN)(a:wi):∀(xs:uZ) (i:Nat) {k:Nat->uZ->Ro} {l:uZ->Ro},(∀b,av (λn=>k n b) (l b))->av (λm=>gp n I a i xs (k m)) (gp n I a i xs l)
 |[],i,k,l,c=>c _
 |x::xs,i,k,l,c=>by
  unfold gp;cases a.contains i with
  |true=>exact av.bd (av.const _) λy=>Qr6 n I a xs (i+1) λb=>c _
  |false=>exact Qr6 n I a xs (i+1) c
def QO(n:Nat)(a kp:wi)(U:uZ)(I:hN)(b:fS n4 i2):av (λm=>hD n a kp U I (n4 m)) (hD n a kp U I i2):=by simp only[RM];exact av.bd (av.const _) λp=>b _ _
def Qzw(c:iE p0 k0)(e:fS n4 i2)(d n:Nat)(b a kp:wi):iE (λm=>DC d n b a kp (p0 m) (n4 m)) (DC d n b a kp k0 i2):=
 ⟨λU I=>QO _ _ _ _ _ e,λi U I=>QO _ _ _ _ _ λh j=>c.ex i _ _,λU I=>QO _ _ _ _ _ λh j=>c.rt _ _⟩
def JZ(M:ah)(b:Cd)(d n:Nat)(a c kp:wi)(K:Kt):Rk->Rk:=λrec e I=>eR M b (DC d n a c kp K rec) (gn a 0 d 0 e) I
def Wfl{e:FuncId->uZ->hN->Ro}(h:∀f args I,Le (v2 f args I) (e f args I))(k l:Nat):lK (mk G v2 k) (mk G e l):=⟨rfl,h⟩
def Wfm(c e:FuncId->uZ->hN->Ro)(h:d<=k):s5 (mk G c d) (mk G e k):=λ_ _ _ _ a=>Qw5 a h
def Qr8(K:Kt):qV K K:=⟨λ_ _=>Le.refl _,λ_ _ _=>Le.refl _,λ_ _=>Le.refl _⟩
def Qr9(c:Cd){b:FuncId->uZ->hN->Ro}(h:∀f args I,Le (v2 f args I) (b f args I))(a:d<=k){L:Kt}(K:qV k0 L):gU (eR (mk G v2 d) c k0) (eR (mk G b k) c L):=
 XK c (Wfl h _ _) (Wfm _ _ a) (Wfl (λ_ _ _=>Le.refl _) _ _) (Wfm _ _ (vE _)) (Wfl (λ_ _ _=>Le.refl _) _ _) (Wfm _ _ (vE _)) K
def K'(e:FuncId->uZ->hN->Ro)(k:Nat)(b:Cd)(d n:Nat)(c a kp:wi)(K:Kt)(h:gU i2 l1):gU (JZ (mk G e k) b d n c a kp K i2) (JZ (mk G e k) b d n c a kp K l1):=
 λi I=>Qr9 b (λ_ _ _=>Le.refl _) (vE _) (XJ (Qr8 K) h _ _ _ _ _) _ _
def Quh{F:Rk->Rk}(h:∀f g,gU f g->gU (F f) (F g))(vs:uZ)(I:hN):jz λj=>iter F j vs I:=λj r a=>Qw5 h (GX j) vs I r a
section
variable(q:∀f args I,av (λn=>call n f args I) (E f args I))
include q
theorem XU(d:Nat)(b:Cd)(e n:Nat)(c a kp:wi){K:Nat->Kt}{L:Kt}(f:iE K L)(g:∀ {K:Nat->Kt} {L:Kt},iE K L->fS (λm=>eR (mk G (call m) (m+d)) b (K m)) (eR (gV G E) b L)):
  ∀j,fS (λm=>iter (JZ (mk G (call m) (m+d)) b e n c a kp (K m)) j) (iter (JZ (gV G E) b e n c a kp L) j)
 |0=>λ_ _=>av.const _
 |j+1=>λh I=>g (Qzw f (XU d b e n c a kp f g j) e n c a kp) _ _
theorem Wk6(d:Nat)(b:Cd)(e n:Nat)(c a kp:wi)(k:iE p0 k0)(l:∀ {p0:Nat->Kt} {k0:Kt},iE p0 k0->fS (λm=>eR (mk G (call m) (m+d)) b (p0 m)) (eR (gV G E) b k0))(vs:uZ)(I:hN):
  av (λj=>iter (JZ (gV G E) b e n c a kp k0) j vs I) (dG (JZ (gV G E) b e n c a kp k0) vs I):=by
 refine Wog λj r o => ?_;have i:=XU q d b e n c a kp k l;have⟨m,p⟩:=((i j vs I).iff r).1 o;exact((i (j+1) vs I).iff r).2 ⟨m,Quh (λf g h=>K' _ _ _ _ _ _ _ _ _ h) vs I j r p⟩
theorem WA(d e:Nat)(b:Cd)(i n:Nat)(c a kp:wi){K:Nat->Kt}{L:Kt}(k:iE K L)(l:∀ {K:Nat->Kt} {L:Kt},iE K L->fS (λm=>eR (mk G (call m) (m+d)) b (K m)) (eR (gV G E) b L))(vs:uZ)(I:hN):
  av (λm=>iter (JZ (mk G (call m) (m+d)) b i n c a kp (K m)) (m+e) vs I) (dG (JZ (gV G E) b i n c a kp L) vs I):=
 av.diag (λj=>XU q d b i n c a kp k l j vs I)
  (λm=>Quh (λf g h=>K' _ _ _ _ _ _ _ _ _ h) vs I) (Wk6 q d b i n c a kp k l vs I) e
theorem Tb(d:Nat):∀(c:Cd) {K:Nat->Kt} {L:Kt},iE K L->fS (λm=>eR (mk G (call m) (m+d)) c (K m)) (eR (gV G E) c L)
 | .skip,K,L,a=>a.nm
 | .ret,K,L,a=>a.rt
 | .exit id,K,L,a=>a.ex id
 | .ops _ l,K,L,a=>Qug q d l a.nm
 | .dH _ l,K,L,a=>Wfk q d l [] a.nm
 | .seq x y,K,L,e=>λU I=>Tb d x (K:=λm=>⟨λa b=>eR (mk G (call m) (m+d)) y (K m) a b,(K m).ex,(K m).rt⟩) (L:=⟨λa b=>eR (gV G E) y L a b,L.ex,L.rt⟩) ⟨λa b=>Tb d y e a b,e.ex,e.rt⟩ U I
 | .cond v x y,K,L,a=>λU I=>by show av (λm=>br (arg G U v) (eR (mk G (call m) (m+d)) x (K m) U I) (eR (mk G (call m) (m+d)) y (K m) U I)) (br (arg G U v) (eR (gV G E) x L U I) (eR (gV G E) y L U I));exact Wvl (Tb d x a U I) (Tb d y a U I) _
 | .block id x,K,L,e=>λU I=>by
  refine Tb d x (K:=λm=>⟨(K m).nm,λi a b=>if i=id then(K m).nm a b else(K m).ex i a b,(K m).rt⟩) (L:=⟨L.nm,λi a b=>if i=id then L.nm a b else L.ex i a b,L.rt⟩) ⟨e.nm,λi a b => ?_,e.rt⟩ U I;by_cases h:i=id
  ·simp only[A9a h];exact e.nm _ _
  ·simp only[O3 h];exact e.ex _ _ _
 | .no,K,L,a=>λU I=>av.const _
 | .loop a b f x,K,L,g=>λU I=>by show av (λm=>gp I.length I a 0 U λe=>iter (JZ (mk G (call m) (m+d)) x U.length I.length a b f (K m)) (m+d) e I) (gp I.length I a 0 U λe=>dG (JZ (gV G E) x U.length I.length a b f L) e I);exact Qr6 _ _ _ _ _ λe=>WA q d d x _ _ _ _ _ g (Tb d x) e I
theorem Wcz(b:Cd)(d n:Nat)(c a kp:wi)(L:Kt)(vs:uZ)(I:hN):
  dG (JZ (gV G E) b d n c a kp L) vs I=JZ (gV G E) b d n c a kp L (dG (JZ (gV G E) b d n c a kp L)) vs I:=by
 have e:iE (λ_=>L) L:=⟨λ_ _=>av.const _,λ_ _ _=>av.const _,λ_ _=>av.const _⟩
 have f:=WA (G:=G) q 0 1 b d n c a kp e (Tb q 0 b) vs I;have g:=WA (G:=G) q 0 0 b d n c a kp e (Tb q 0 b);have h:=Tb (G:=G) q 0 b (Qzw e g d n c a kp) (gn c 0 d 0 vs) I;exact f.uniq h
end
end
def iX(C:Ctx):Nat->FuncId->uZ->hN->Ro
 |0,_,_,_=>none
 |n+1,f,a,I=>
  match C.cO f with
  |some h=>h a I
  |none=>
   match C.code f with
   |some F=>frame (C.fr f) (bW (mk C.G (iX C n) n) F) a I
   |none=>none
theorem Wok{C:Ctx}:∀n,iX C n=ev C n
 |0=>rfl
 |n+1=>by
  funext f a I;simp only[iX,ev];cases C.cO f with
  |some h=>rfl
  |none=>
   simp only;cases hF:C.code f with
   |none=>rfl
   |some F=>simp only;rw[Wok n,show bW (mk C.G (ev C n) n) F=kh C.G (ev C n) F n from by funext a I;exact Wvh C.G (ev C n) n a I]
variable{v3:uZ->hN->Ro}
def Qzx{b:Bool}{h:uZ->hN->Ro}(a:∀args I,Le (v3 args I) (h args I))(args:uZ)(I:hN):Le (frame b v3 args I) (frame b h args I):=by
 unfold frame;split
 ·intro r c;have⟨p,d,e⟩:=vh.1 c;exact vh.2 ⟨p,a _ _ p d,e⟩
 ·exact a args I
theorem Wfn(C:Ctx):∀n f args I,Le (iX C n f args I) (iX C (n+1) f args I)
 |0,f,args,I=>λr h=>by cases h
 |n+1,f,args,I=>by
  simp only[iX];cases C.cO f with
  |some h=>exact Le.refl _
  |none=>
   simp only;cases hF:C.code f with
   |none=>exact Le.refl _
   |some F=>have a:=λf args I=>Wfn C n f args I;simp only[iX]at a;exact Qzx (λargs I=>Qr9 F.body (λf args I=>Wfn C n f args I) (GX n) (Qr8 _) _ _) args I
noncomputable def E(C:Ctx)(f:FuncId)(args:List V)(I:hN):Ro:=lim λn=>iX C n f args I
noncomputable def Mi(C:Ctx):ah:=gV C.G (E C)
def WE(f:FuncId)(args:uZ)(I:hN):av (λn=>iX n0 n f args I) (E n0 f args I):=Wog λn r h=>Wfn n0 n f args I r h
variable{o:Ctx}{k4:V×hN}
def tu(h:iX o d i e f=W k4):E o i e f=some k4:=((WE o i e f).iff k4).2 ⟨d,h⟩
def ja{C:Ctx}{args:uZ}(h:E C i args f=W k4):∃n,ev C n i args f=some k4:=by have⟨n,a⟩:=((WE C i args f).iff k4).1 h;exact⟨n,by rw[<-Wok];exact a⟩
def av.frame{g:Nat->uZ->hN->Ro}(c:∀args I,av (λn=>g n args I) (v3 args I))(b:Bool)(args:uZ)(I:hN):av (λn=>Ev.frame b (g n) args I) (Ev.frame b v3 args I):=by
 unfold Ev.frame;split
 ·have d:∀x:Ro,x.bind (u1 I)=Ev.bd x (u1 I):=λx=>by cases x<;>rfl
  simp only[d];exact av.bd (c _ []) λa=>av.const _
 ·exact c args I
def Nt(a:o.cO i=none)(b:o.code i=W A)(args:uZ)(I:hN):E o i args I=frame (o.fr i) (bW (Mi o) A) args I:=by
 have c:=(WE o i args I).shift 1;have d:av (λn=>iX o (n+1) i args I) (frame (o.fr i) (bW (Mi o) A) args I):=by
  have e:(λn=>iX o (n+1) i args I)=λn=>frame (o.fr i) (bW (mk o.G (iX o n) (n+0)) A) args I:=by funext n;simp only[iX,a,b,KY]
  rw[e];refine av.frame (λargs I => ?_) _ _ _;exact Tb (WE o) 0 A.body ⟨λ_ _=>av.const _,λ_ _ _=>av.const _,λ_ _=>av.const _⟩ _ _
 exact c.uniq d
def jA{F:Fn}(a:o.cO i=none)(b:o.code i=W F)(c:o.fr i=T)(args:uZ)(I:hN):E o i args I=bW (Mi o) F args I:=by rw[Nt a b,c];rfl
def RN{C:Ctx}{h:uZ->hN->Ro}(a:C.cO i=W h)(args:uZ)(I:hN):E C i args I=h args I:=by
 have b:=(WE C i args I).shift 1;have c:av (λn=>iX C (n+1) i args I) (h args I):=by
  have e:(λn=>iX C (n+1) i args I)=λn=>h args I:=by funext n;simp only[iX,a]
  rw[e];exact av.const _
 exact b.uniq c
def cQ{f:FuncId}{F:Fn}(b:o.cO f=none)(c:o.code f=W F){I:hN}(d:V.aL 0 e=T)(a:I.isEmpty=T):E o f e I=bW (Mi o) F e I:=by rw[Nt b c];unfold frame;rw[d,a,Nf,JM];rfl
def tw(a:o.cO i=none)(b:o.code i=W A)(c:o.fr i)(d:V.aL 0 e)(I:hN):E o i e I=(bW (Mi o) A (e.map V.ng) []).bind (u1 I):=by rw[Nt a b];unfold frame;rw[c,d,C5];rfl
def vu(a:o.cO i=none)(b:o.code i=W A)(c:o.fr i)(args:uZ):E o i args []=(bW (Mi o) A (args.map V.ng) []).bind (u1 []):=by rw[Nt a b];unfold frame;rw[c];rfl
def yB:(W (g,([]:hN))).bind (u1 f)=W (g,f):=rfl
def v_(b:o.cO i=none)(d:o.fr i)(h:E o i e []=W (g,[]))(r:V.aL 0 e)(I:hN):E o i e I=W (g,I):=by
 cases c:o.code i with
 |none=>
  have⟨n,a⟩:=ja h;cases n with
  |zero=>cases a
  |succ n=>simp[ev,b,c]at a
 |some F=>
  rw[vu b c d]at h;rw[tw b c d r];have⟨⟨k,args⟩,f,a⟩:=vh.1 h;unfold u1 at a;split at a
  ·rename_i j;cases a;obtain rfl:args=[]:=Xl.1 j;rw[f];rfl
  ·cases a
theorem Qzy{C Dww:Ctx}(a:Dww.G=C.G)(b:Dww.code=C.code)(c:Dww.fr=C.fr)(d:∀f h,C.cO f=W h->Dww.cO f=W h)(e:∀f,C.cO f=none->C.code f≠none->Dww.cO f=none):∀n f args I,Le (iX C n f args I) (iX Dww n f args I)
 |0,f,args,I=>λr h=>by cases h
 |n+1,f,args,I=>by
  simp only[iX];cases g:C.cO f with
  |some h=>rw[d f h g];exact Le.refl _
  |none=>
   cases hF:C.code f with
   |none=>exact λr h=>by cases h
   |some F=>rw[e f g (by rw[hF];simp),b,hF,c,a];exact Qzx (λargs I=>Qr9 F.body (λf args I=>Qzy a b c d e n f args I) (vE n) (Qr8 _) _ _) args I
def Wvm{C Dww:Ctx}(a:Dww.G=C.G)(b:Dww.code=C.code)(c:Dww.fr=C.fr)(d:∀i h,C.cO i=W h->Dww.cO i=W h)(args:∀i,C.cO i=none->C.code i≠none->Dww.cO i=none)(h:E C i e f=W k4):E Dww i e f=some k4:=by have⟨n,g⟩:=((WE C i e f).iff k4).1 h;exact tu (Qzy a b c d args n i e f k4 g)
structure Lp where
 nt:Nat
 sW:List Nat
 lB:List Nat
 kp:List Nat
 b:Cd
 K:Kt
def ek(M:ah)(a:Nat):List (Nat×Rk)->List Bool->Cd->Kt->Lp
 |ns,p,.seq x y,K=>match p with|false::p=>ek M a ns p x ⟨λU I=>eR M y K U I,K.ex,K.rt⟩|_=>ek M a ns p.tail y K
 |ns,p,.cond _ x y,K=>match p with|false::p=>ek M a ns p x K|_=>ek M a ns p.tail y K
 |ns,p,.block id x,K=>ek M a ns p x ⟨K.nm,λi U I=>if i=id then K.nm U I else K.ex i U I,K.rt⟩
 |ns,p,.loop c b d x,K=>match ns with|[]=>⟨a,c,b,d,x,K⟩|(n,r)::ns=>ek M a ns p x (DC a n c b d K r)
 |_,_,_,K=>⟨a,[],[],[],.skip,K⟩
def Lp.F(l:Lp)(M:ah)(n:Nat):Rk->Rk:=JZ M l.b l.nt n l.sW l.lB l.kp l.K
def gq(F:Fn)(n:Nat):Kt:=⟨iD F.lC F.cG F.res n,λ_ _ _=>none,iD F.lC F.cG F.res n⟩
def Fk(l:Lp)(n:Nat){B:Rk->Rk}(a:l.F (Mi n0) n=B)(b:i2=dG B)(vs:uZ)(I:hN):i2 vs I=B i2 vs I:=by subst b;have h:=Wcz (G:=n0.G) (WE n0) l.b l.nt n l.sW l.lB l.kp l.K vs I;have e:JZ (gV n0.G (E n0)) l.b l.nt n l.sW l.lB l.kp l.K=B:=a;rw[e]at h;exact h
def Wq1:(Mi o).call=E o:=rfl
end Go.Ev
