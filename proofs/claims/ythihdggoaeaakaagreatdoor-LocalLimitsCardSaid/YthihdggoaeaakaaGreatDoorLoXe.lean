/- Part of a proof: the small language, and functions of the program on it. -/
import Derived.Test.YthihdggoaeaakaaGreatDoorLoXd
set_option linter.all false
set_option maxHeartbeats 4000000
set_option maxRecDepth 100000
namespace Go.Ev
open Go Go.Proofs Go.Proofs.YthihdggoaeaakaaGreatDoor
def IH(l:u_):u2->u_
 |[]=>[]
 |b::r=>if cS l b.toNat then IH l r else[(b.toNat:Int)]
def dc(l:u_):u_:=IH l [32,9,10,12,13]
def fD:Int->u_->u_
 |_,[]=>[]
 |x,y::r=>if y=x then fD y r else y::fD y r
def fh:u_->u_
 |[]=>[]
 |x::r=>x::fD x r
def jH(l:u_):V:=match l with|[]=>.ad|x::r=>.sl (Z (x::r)) .no
variable{a G b0:Nat}{J:Bool}{a6:IntKind}(b4:List Bool)(D:u2)(F:Int)(K:List u2)(w:u_)
def Qu8{i:Int}{o len:Nat}(h:0<=i/\i<len):eI 1 (.int a6 i) (.hs o a len 1 J)=W (.ptr o (a+i.toNat)):=by simp only[eI,index,A9a h,u7,va,A9c,I9]
def Qu9{o n:Nat}{i:Int}(h:0<=i/\i<n):yy 1 (.hs o 0 n 1 T) (W (iI i)) none none=W (.hs o i.toNat (n-i.toNat) 1 T):=by
 have a:vr (iI i) n=W i.toNat:=by simp[vr];omega
 simp[yy,vI,a];omega
def Whg{o n:Nat}{i:Int}(h:0<i/\i<=n):yy 1 (.hs o 0 n 1 T) none (W (iI i)) none=W (.hs o 0 i.toNat 1 T):=by
 have a:vr (iI i) n=W i.toNat:=by simp[vr];omega
 simp[yy,vI,a];omega
abbrev cf(I:hN)(o:Nat)(L:List Int):hN:=I.set o (.cells (Z L))
variable{i a9:u_}{j:Int}
section
variable{I:hN}{o:Nat}(u:Wf I)(q:o<I.length)
def BZ{L:u_}:(cf I o L).length=I.length:=u0
def Ws3{L:u_}:cf (cf I o L) o i=cf I o i:=u0
include q in
theorem Qsu{L:u_}:hN.get (cf I o L) o=W (Z L):=by unfold hN.get;simp[q]
include u q in
theorem Qiz{L:u_}(a:L.length<=1000000000):Rw (cf I o L) o L:=by
 refine⟨AI.2 λx b => ?_,Qsu q,a⟩;rw[BZ];rcases Xcz b with h|h
 ·exact AI.1 u x h
 ·subst h;exact wB
include q in
theorem Tc{L:u_}{i:Nat}(b:i<L.length):u5 (cf I o L) 1 (.ptr o i) (iI j) (iI j)=W (.undef,cf I o (L.set i j)):=by
 have e:yd [V.int .i64 j]:=rfl;unfold u5;simp only[Qsu q,u7,va];rw[A9a ⟨rfl,by rw[BB];omega,e⟩];have a:(Z L).set i (V.int .i64 j)=Z (L.set i j):=by unfold Z;rw[List.map_set]
 simp only[V.dg,vD,A9d,a];simp
theorem Qh:∀(cs ds xs:uZ),ds.length=xs.length->RK (cs++ds) cs.length xs=cs++xs
 |cs,ds,[],h=>by have:ds=[]:=CP.1 h;subst this;simp only[wt];cases cs<;>rfl
 |[],ds,x::xs,h=>N_ _ _ h
 |c::cs,ds,x::xs,h=>by show c::RK (cs++ds) cs.length (x::xs)=_;rw[Qh cs ds (x::xs) h];rfl
theorem Wdc(A B:u_):RK (Z (A++B)) A.length ((List.replicate B.length (V.int .i64 0)))=Z (A++List.replicate B.length 0):=by
 have h:=Qh (Z A) (Z B) (List.replicate B.length (V.int .i64 0)) (by rw[BB];simp);rw[BB]at h;have a:Z (A++B)=Z A++Z B:=by unfold Z;simp
 have b:Z (A++List.replicate B.length 0)=Z A++List.replicate B.length (V.int .i64 0):=by unfold Z;simp
 rw[a,b];exact h
include q in
theorem Ws4{n:Nat}(a:n=a9.length):kV 1 (iI 0) (cf I o (i++a9)) (.hs o i.length n 1 T)=W (.undef,cf I o (i++List.replicate a9.length 0)):=by
 subst a;have b:(V.int .i64 0).cells=[V.int .i64 0]:=rfl;have c:((List.replicate a9.length (V.int .i64 0)).flatMap V.cells)=List.replicate a9.length (V.int .i64 0):=by
  generalize a9.length=m;induction m with
  |zero=>rfl
  |succ m d=>rw[Gu,AR,d];rfl
 simp only[kV,Qsu q,u7,va];rw[A9a ⟨trivial,by rw[b];rfl,by rw[BB];simp,rfl⟩,c,Wdc];simp
end
section
variable{I:hN}{o:Nat}{l:u_}(h:Rw I o l)
include h
abbrev h_(I:hN)(r:List UInt8)(pos:Nat):hN:=I++[.si r pos]
theorem Ws5(r:u2)(pos:Nat):Rw (h_ I r pos) o l:=by refine⟨MS h.wf λx a => ?_,hN.cd h.get,h.len⟩;simp only[vZ,AS,R7]at a;subst a;rfl
theorem Wo2:∀(r:u2) (pos:Nat),(∀b∈r,b.toNat<128)->
  pW QaT I.length (I.length+1) [vH o l,.ptr I.length 0] (h_ I r pos)=W (jH (IH l r),I)
 |[],pos,f=>by
  have c:gk (h_ I [] pos) (.ptr I.length 0)=W (.aR [.bool T],h_ I [] pos):=Wxo;have d:(h_ I [] pos).length=I.length+1:=u0;have a:ve (I.length+1) (h_ I [] pos)=W (h_ I [] pos):=by rw[<-d];exact Kk (Ws5 h [] pos).wf
  have e:nK I.length (h_ I [] pos) .ad=W (.ad,I):=VO h.wf rfl;rw[zl];show _=W (V.ad,I);simp only[go_sem,oq,c,a,e]
 |b::r,pos,f=>by
  have m:=f b (wA ..);have g:gk (h_ I (b::r) pos) (.ptr I.length 0)=W (.aR [.bool true,iI pos,.int .i32 b.toNat],h_ I r (pos+1)):=Woy m;have d:=We (Ws5 h r (pos+1)) (b.toNat:Int);have j:(h_ I r (pos+1)).length=I.length+1:=u0;have p:=Ct h.get;have f1:fz (I.length+1) (h_ I r (pos+1)) fzD (vH o l)=W (vH o l):=vC (by simp[V.rb];omega);have f2:fz (I.length+1) (h_ I r (pos+1)) fzD (.ptr I.length 0)=W (.ptr I.length 0):=vC (by simp[V.rb]);have a:ve (I.length+1) (h_ I r (pos+1))=W (h_ I r (pos+1)):=by rw[<-j];exact Kk (Ws5 h r (pos+1)).wf
  have k n c:nK I.length (h_ I r (pos+1)) (.sl [iI n] c)=W (.sl [iI n] c,I):=VO h.wf rfl;have q:=Wo2 r (pos+1) λx s=>f x (wh _ s);rw[zl];show _=W (jH (if cS l b.toNat then IH l r else[(b.toNat:Int)]),I);cases i:cS l b.toNat with
  |true=>rw[i]at d;rw[A9a rfl];simp -implicitDefEqProofs(disch:=try exact wK)only[go_sem,oq,g,d,f1,f2,a,q]
  |false=>rw[i]at d;have e:jH (if T=true then IH l r else[(b.toNat:Int)])=.sl [iI b.toNat] .no:=rfl;rw[e];simp -implicitDefEqProofs(disch:=try exact wK)only[go_sem,oq,g,d,f1,f2,a,k]
theorem W6:E cx 111 [vH o l] I=W (jH (dc l),I):=by have c:=Wo2 h [32,9,10,12,13] 0 (by decide);have d s:jY I (.str s)=W (.ptr I.length 0,h_ I s 0):=rfl;have e:=Ct h.get;have f1:fz (I.length+1) (h_ I [32,9,10,12,13] 0) fzD (vH o l)=W (vH o l):=vC (by simp[V.rb];omega);have f2:fz (I.length+1) (h_ I [32,9,10,12,13] 0) fzD (.ptr I.length 0)=W (.ptr I.length 0):=vC (by simp[V.rb]);have a:(h_ I [32,9,10,12,13] 0).length=I.length+1:=u0;have b:=d [32,9,10,12,13];rw[Qxw _ _ rfl (JA h.get)];unfold dc;simp only[go_sem,Fp,b,f1,f2,a,c]
end
def Wdd(a:V)(I:hN)(h:V.aL 0 [a]=T)(b:I.isEmpty=T):E cx 114 [a] I=LM QaT a I:=Qf2 a I h b
section
variable{I:hN}{o:Nat}(Q:Wf I)(u:o<I.length)
include Q u
theorem Whh(n k:Nat)(s:n<=1000000000)(j:Rk):∀(r A N:u_) (x:Int),N≠[]->N.getLast?=W x->(A++N++r).length=n->k+1<=A.length+N.length->k<=A.length->0<A.length->
  ∃z:u_,py QaT I.length I.length j I.length [.hs o 0 n 1 T,iI A.length,.hs o k (n-k) 1 T,iI (A.length+N.length-k:Nat)] (cf I o (A++N++r))=W (.hs o 0 (A++fD x r).length 1 T,cf I o (A++fD x r++z))/\(A++fD x r++z).length=n
 |[],A,N,x,d,B,c,C,e,D=>by
  have f:0<N.length:=Xg.2 d;rw[wt]at c ⊢;rw[vW]at c;refine⟨List.replicate N.length 0,?_,by simp[fD];omega⟩;have g:¬((A.length+N.length-k:Nat):Int)<(n-k:Nat):=by omega
  have h:∀(v:V),V.rb I.length v->nK I.length (cf I o (A++List.replicate N.length 0)) v=W (v,cf I o (A++List.replicate N.length 0)):=λv l=>by
   have:=yg (Qiz Q u (L:=A++List.replicate N.length 0) yZ).wf (by rw[BZ];exact l)
   rwa[BZ]at this
  have m:ve I.length (cf I o (A++N))=W (cf I o (A++N)):=by
   have:=Kk (Qiz Q u (L:=A++N) yZ).wf
   rwa[BZ]at this
  have a:ve I.length (cf I o (A++List.replicate N.length 0))=W (cf I o (A++List.replicate N.length 0)):=by
   have:=Kk (Qiz Q u (L:=A++List.replicate N.length 0) yZ).wf
   rwa[BZ]at this
  have f1 H p q:fz I.length H fzD (.hs o p q 1 T)=W (.hs o p q 1 T):=vC (by simp[V.rb,u]);have t:yy 1 (.hs o 0 n 1 T) (W (iI A.length)) none none=W (.hs o A.length (n-A.length) 1 T):=by
   have:=Qu9 (o:=o) (n:=n) (i:=(A.length:Int)) Y
   rwa[zi]at this
  have w:yy 1 (.hs o 0 n 1 T) none (W (iI A.length)) none=W (.hs o 0 A.length 1 T):=by
   have:=Whg (o:=o) (n:=n) (i:=(A.length:Int)) Y
   rwa[zi]at this
  have y:kV 1 (iI 0) (cf I o (A++N)) (.hs o A.length (n-A.length) 1 T)=W (.undef,cf I o (A++List.replicate N.length 0)):=Ws4 u Y;have b p q:nK I.length (cf I o (A++List.replicate N.length 0)) (.hs o p q 1 T)=W (.hs o p q 1 T,cf I o (A++List.replicate N.length 0)):=h _ (by simp[V.rb,u]);rw[zx];rw[show fD x []=[]from rfl,wt];simp -implicitDefEqProofs only[go_sem,ot,g,f1,m,t,y,w,a,b]
 |y::r,A,N,x,t,v,i,B,l,O=>by
  have P:=Xg.2 t;have S:A.length+N.length+r.length+1=n:=by simp at i;omega
  have g:=i;have C:((A.length+N.length-k:Nat):Int)<(n-k:Nat):=by omega
  have D:eI 1 (iI (A.length+N.length-k:Nat)) (.hs o k (n-k) 1 T)=W (.ptr o (A.length+N.length)):=by rw[Qu8 Y];congr 2;omega
  have E:eI 1 (iI (((A.length+N.length-k:Nat):Int)-1)) (.hs o k (n-k) 1 T)=W (.ptr o (A.length+N.length-1)):=by rw[Qu8 Y];congr 2;omega
  have U:eI 1 (iI A.length) (.hs o 0 n 1 T)=W (.ptr o A.length):=by rw[QT Y,zi]
  have h:=Qiz Q u (L:=A++N++y::r) Y;have X:(A++N++y::r).getD (A.length+N.length) 0=y:=by rw[y9,DQ u0];simp
  have g:(A++N++y::r).getD (A.length+N.length-1) 0=x:=by rw[y9,AH yZ,DQ Y];rw[List.getLast?_eq_getElem?]at v;rw[show A.length+N.length-1-A.length=N.length-1 by omega,v];rfl
  have F:eL (cf I o (A++N++y::r)) T 1 (.ptr o (A.length+N.length))=W (iI y):=by rw[h.ld Y,X]
  have G:eL (cf I o (A++N++y::r)) T 1 (.ptr o (A.length+N.length-1))=W (iI x):=by rw[h.ld Y,g]
  have f1 H p q:fz I.length H fzD (.hs o p q 1 T)=W (.hs o p q 1 T):=vC (by simp[V.rb,u]);have d:eB .sub .no (iI (A.length+N.length-k:Nat)) (iI 1)=W (iI (((A.length+N.length-k:Nat):Int)-1)):=by simp -implicitDefEqProofs(disch:=try exact wK)only[go_sem,]
  have f:eB .add .no (iI (A.length+N.length-k:Nat)) (iI 1)=W (iI (A.length+N.length+1-k:Nat)):=by
   have:((A.length+N.length+1-k:Nat):Int)=((A.length+N.length-k:Nat):Int)+1:=by omega
   rw[this];simp -implicitDefEqProofs(disch:=try exact wK)only[go_sem,]
  rw[zx];by_cases c:y=x
  ·subst c;have⟨z,a,m⟩:=Whh n k s j r A (N++[y]) y u0 u0 (by rw[<-i];simp) yZ l O;rw[show A.length+(N++[y]).length-k=A.length+N.length+1-k by simp;omega]at a;have e:fD y (y::r)=fD y r:=by rw[fD,A9a rfl]
   have b:A++(N++[y])++r=A++N++y::r:=u0;rw[b]at a;have g:ve I.length (cf I o (A++N++y::r))=W (cf I o (A++N++y::r)):=by
    have:=Kk h.wf
    rwa[BZ]at this
   refine⟨z,?_,by rw[e];exact m⟩;rw[e];simp -implicitDefEqProofs(disch:=try exact wK)only[go_sem,ot,px,C,D,E,F,G,d,f,f1,g,a]
  ·have e:fD x (y::r)=y::fD y r:=by rw[fD,O3 c]
   obtain⟨w,a,b⟩:∃w a,N=w::a:=by cases N with|nil=>exact absurd rfl t|cons w a=>exact⟨w,a,rfl⟩
   have⟨z,J,h⟩:=Whh n k s j r (A++[y]) (a++[y]) y u0 u0 (by rw[<-i,b];simp) (by rw[b]at B;simp at B ⊢; omega) yZ u0;have K:N.length=a.length+1:=by rw[b];rfl
   rw[show(A++[y]).length+(a++[y]).length-k=A.length+N.length+1-k by simp;omega,show((A++[y]).length:Int)=A.length+1 by simp]at J;have g:(A++N++y::r).set A.length y=A++[y]++(a++[y])++r:=by rw[b];simp
   have b:u5 (cf I o (A++N++y::r)) 1 (.ptr o A.length) (iI y) (iI y)=W (.undef,cf I o (A++[y]++(a++[y])++r)):=by rw[Tc u Y,g]
   have m:(A++[y]++(a++[y])++r).length=n:=by rw[<-g,GR];exact i
   have R:ve I.length (cf I o (A++[y]++(a++[y])++r))=W (cf I o (A++[y]++(a++[y])++r)):=by
    have:=Kk (Qiz Q u (L:=A++[y]++(a++[y])++r) Y).wf
    rwa[BZ]at this
   have M:A++y::fD y r=A++[y]++fD y r:=u0;refine⟨z,?_,by rw[e,M];exact h⟩;rw[e,M];simp -implicitDefEqProofs(disch:=try exact wK)only[go_sem,ot,px,C,D,E,U,F,G,c,b,d,f,f1,R,J]
end
variable{d a8:hN}
def Was(h:hN.get d a=W (Z i)):cf d a i=d:=by
 have l:=Ct h;unfold hN.get at h;rw[vO l]at h;have:d[a]=.cells (Z i):=by
  split at h
  ·rename_i c b;simp only[vU]at b h;rw[b,h]
  ·cases h
 unfold cf;rw[<-this];exact Ua l
section
variable{I:hN}{o:Nat}(N:Wf I)(u:o<I.length){l:u_}
include N u
theorem Wo3(d:l.length<=1000000000):∀(r q:u_) (x:Int),l=q++[x]++r->fh l=q++[x]++fD x r->
  ∃z:u_,Be QaT I.length I.length [.hs o 0 l.length 1 T,iI (q.length+1:Nat)] (cf I o l)=W (.hs o 0 (fh l).length 1 T,cf I o (fh l++z))/\(fh l++z).length=l.length
 |[],q,x,c,f=>by
  have e:fh l=l:=by rw[f,c];simp[fD]
  refine⟨[],?_,by rw[e];simp⟩;rw[e,wt];have g:¬((q.length+1:Nat):Int)<l.length:=by rw[c];simp
  have a:=Qiz N u d;have b:ve I.length (cf I o l)=W (cf I o l):=by
   have:=Kk a.wf
   rwa[BZ]at this
  have h p q:nK I.length (cf I o l) (.hs o p q 1 T)=W (.hs o p q 1 T,cf I o l):=by
   have:=yg a.wf (r:=.hs o p q 1 T) (by rw[BZ];simp[V.rb,u])
   rwa[BZ]at this
  have f1 H p q:fz I.length H fzD (.hs o p q 1 T)=W (.hs o p q 1 T):=vC (by simp[V.rb,u]);rw[FT];simp only[go_sem,Bd,g,b,f1,h]
 |y::r,q,x,b,h=>by
  have k:l.length=q.length+r.length+2:=by rw[b];simp;omega
  have a:=Qiz N u d;have f:ve I.length (cf I o l)=W (cf I o l):=by
   have:=Kk a.wf
   rwa[BZ]at this
  have f1 H p q:fz I.length H fzD (.hs o p q 1 T)=W (.hs o p q 1 T):=vC (by simp[V.rb,u]);have j:((q.length+1:Nat):Int)<l.length:=by omega
  have m:eI 1 (iI (q.length+1:Nat)) (.hs o 0 l.length 1 T)=W (.ptr o (q.length+1)):=by rw[QT Y,zi]
  have s:eB .sub .no (iI (q.length+1:Nat)) (iI 1)=W (iI q.length):=by
   have:((q.length:Nat):Int)=((q.length+1:Nat):Int)-1:=by omega
   rw[this];simp -implicitDefEqProofs(disch:=try exact wK)only[go_sem,]
  have D:eB .add .no (iI (q.length+1:Nat)) (iI 1)=W (iI (q.length+1+1:Nat)):=by
   have:((q.length+1+1:Nat):Int)=((q.length+1:Nat):Int)+1:=by omega
   rw[this];simp -implicitDefEqProofs(disch:=try exact wK)only[go_sem,]
  have t:eI 1 (iI q.length) (.hs o 0 l.length 1 T)=W (.ptr o q.length):=by rw[QT Y,zi]
  have E:l.getD (q.length+1) 0=y:=by rw[b,y9,DQ u0];simp
  have F:l.getD q.length 0=x:=by rw[b,y9,AH u0,DQ Y];simp
  have v:eL (cf I o l) T 1 (.ptr o (q.length+1))=W (iI y):=by rw[a.ld Y,E]
  have w:eL (cf I o l) T 1 (.ptr o q.length)=W (iI x):=by rw[a.ld Y,F]
  have G:=BZ (I:=I) (o:=o) (L:=l);rw[FT];by_cases c:y=x
  ·subst c;have e:fh l=q++[y]++fD y r:=by rw[h,fD,A9a rfl]
   have⟨z,A,B⟩:=Whh N u l.length (q.length+1) d (Be QaT I.length I.length) r (q++[y]) [y] y u0 rfl (by rw[b];simp) u0 u0 u0;have J:q++[y]++[y]++r=l:=by rw[b];simp
   have C:(q++[y]).length+[y].length-(q.length+1)=1:=u0;have K:((q++[y]).length:Int)=(q.length+1:Nat):=u0;rw[<-e,J,C,K]at A;rw[<-e]at B;have g:py QaT I.length I.length (Be QaT I.length I.length) I.length [.hs o 0 l.length 1 T,iI (q.length+1:Nat),.hs o (q.length+1) (l.length-(q.length+1)) 1 T,iI 1] (cf I o l)=W (.hs o 0 (fh l).length 1 T,cf I o (fh l++z)):=A;have M:yy 1 (.hs o 0 l.length 1 T) (W (iI (q.length+1:Nat))) none none=W (.hs o (q.length+1) (l.length-(q.length+1)) 1 T):=by
    have:=Qu9 (o:=o) (n:=l.length) (i:=((q.length+1:Nat):Int)) Y
    rwa[zi]at this
   refine⟨z,?_,B⟩;simp -implicitDefEqProofs only[go_sem,Bd,j,m,s,t,v,w,M,f1,G,g]
  ·have⟨z,e,g⟩:=Wo3 d r (q++[x]) y (by rw[b];simp) (by rw[h,fD,O3 c];simp);rw[show(q++[x]).length+1=q.length+1+1 by simp]at e;refine⟨z,?_,g⟩;simp -implicitDefEqProofs only[go_sem,Bd,j,m,s,D,t,v,w,c,f1,f,e]
end
def Whi{I:hN}(h:Rw I a i):∃z,E cx 114 [vH a i] I=W (.hs a 0 (fh i).length 1 T,cf I a (fh i++z))/\(fh i++z).length=i.length:=by
 have d:=Ct h.get;have o:=Was h.get;have b:=h.len;have e p q:nK I.length I (.hs a p q 1 T)=W (.hs a p q 1 T,I):=yg h.wf (by simp[V.rb,d]);rw[Wdd _ _ rfl (JA h.get)]
 match i,h,o,b with
 |[],h,o,b=>refine⟨[],?_,rfl⟩;rw[show cf I a (fh []++[])=I from o];show LM QaT (.hs a 0 0 1 T) I=W (.hs a 0 0 1 T,I);simp -implicitDefEqProofs(disch:=try exact wK)only[go_sem,LM,e]
 |[x],h,o,b=>refine⟨[],?_,rfl⟩;rw[show cf I a (fh [x]++[])=I from o];show LM QaT (.hs a 0 1 1 T) I=W (.hs a 0 1 1 T,I);simp -implicitDefEqProofs(disch:=try exact wK)only[go_sem,LM,e]
 |x::y::r,h,o,b=>have⟨z,f,g⟩:=Wo3 h.wf d b (y::r) [] x rfl rfl;refine⟨z,?_,g⟩;rw[o]at f;have c:Be QaT I.length I.length [.hs a 0 (x::y::r).length 1 T,iI 1] I=W (.hs a 0 (fh (x::y::r)).length 1 T,cf I a (fh (x::y::r)++z)):=f;have l:¬((x::y::r).length:Int)<2:=yZ;show LM QaT (.hs a 0 (x::y::r).length 1 T) I=_;generalize(x::y::r).length=j at*;simp -implicitDefEqProofs(disch:=try exact wK)only[go_sem,LM,l,c]
abbrev dN(o:Nat)(l:List Int):V:=.hg o l.length 1 false
theorem Xt{n:Nat}{ks:wi}{I:hN}:∀l:u_,(Z l).mapM (OA n ks I)=W (Z l)
 |[]=>rfl
 |x::r=>by have a:=Xt (n:=n) (ks:=ks) (I:=I) r;have e:OA n ks I (iI x)=W (iI x):=Tu;show(V.int .i64 x::Z r).mapM _=_;rw[xw,e,a];rfl
theorem Pk{t:Nat}{x:V}{a:XB}:∀ {pre:XB},(∀p∈pre,p.1≠t)->mV t (pre++(t,x)::a)=x
 |[],_=>by simp[mV]
 |p::pre,h=>by
  have b:=h p (wA ..);have:(p.1==t)=T:=by simpa using b
  simp only[AJ,mV,this,vD,A9d];exact Pk λq c=>h q (wh _ c)
variable{e M:V}
def Ha{n:Nat}{ks:wi}{I:hN}(h:V.rb 0 e):OA n ks I e=some e:=by
 have a:=xI (wV n) h;cases e with
 |ptr o b=>simp[V.rb]at h
 |hs o b c d x=>simp[V.rb]at h
 |hg o b c d=>simp[V.rb]at h
 |mp o=>simp[V.rb]at h
 |_=>exact vC a
theorem Gl{n t:Nat}{ks:wi}{I:hN}:∀ {ps:XB},(∀p∈ps,V.rb 0 p.2)->mB n I [t] ks ps=W (ps.map Prod.snd)
 |[],_=>rfl
 |p::ps,h=>by
  have a:=h p (wA ..);have b:=Gl (n:=n) (t:=t) (ks:=ks) (I:=I) λq c=>h q (wh _ c);unfold mB;rw[b];have e:(if[t].contains p.1=true then OA n ks I p.2 else fz n I fzD p.2)=W p.2:=by
   split
   ·exact Ha a
   ·exact vC (xI (wV n) a)
  rw[e];rfl
theorem Qhb{n t:Nat}{ks:wi}{I:hN}:∀ {ps qs:XB},mB n I [t] ks (ps++qs)=(mB n I [t] ks ps).bind λxs=>(mB n I [t] ks qs).bind λa=>W (xs++a)
 |[],qs=>by simp only[xQ,mB,va];cases mB n I [t] ks qs<;>rfl
 |p::ps,qs=>by
  have b:=Qhb (n:=n) (t:=t) (ks:=ks) (I:=I) (ps:=ps) (qs:=qs);simp only[AJ,mB,b];cases(if[t].contains p.1=true then OA n ks I p.2 else fz n I fzD p.2)with
  |none=>rfl
  |some y=>
   simp only[va];cases mB n I [t] ks ps with
   |none=>rfl
   |some xs=>simp only[va];cases mB n I [t] ks qs<;>rfl
variable{a3:XB}
def XO{t o len:Nat}{pre:XB}{l:u_}(f:a<=o)(b:hN.get d o=W (Z l))(g:∀p∈pre,p.1≠t/\V.rb 0 p.2)(i:∀p∈a3,V.rb 0 p.2)(j:ve a (d.set o .gone)=W a8):
  VJ a [t] (pre++(t,.hg o len 1 T)::a3) d=W (pre.map Prod.snd ++ .hg a len 1 T::a3.map Prod.snd,a8++[.cells (Z l)]):=by
 have k:mV t (pre++(t,V.hg o len 1 T)::a3)=.hg o len 1 T:=Pk λp c=>(g p c).1;have m:([t].filterMap λq=>AG a (mV q (pre++(t,V.hg o len 1 T)::a3)))=[o]:=by simp[k,AG,f]
 have s:(Z l).filterMap (js a)=[]:=by
  unfold Z;rw[List.filterMap_map];induction l with
  |nil=>rfl
  |cons x r e=>simp[js]
 have u:yn a d [o]=[o]:=by unfold yn;simp[b,s,dI]
 have v:=Ct b;have n:d[o]?=W (.cells (Z l)):=by
  unfold hN.get at b;cases e:d[o]? with
  |none=>rw[e]at b;cases b
  |some x=>
   rw[e]at b;cases x with
   |cells A=>simp only[vU]at b;rw[b]
   |mp A=>cases b
   |si r p=>cases b
   |gone=>cases b
 unfold VJ;rw[m,u];have h:VP [o] d=d.set o .gone:=rfl;have w:OA a [o] (d.set o .gone) (.hg o len 1 T)=W (.hg a len 1 T):=by simp only[OA];have:[o].contains o:=u0;rw[this,C5,A9a rfl];simp[ez,AT.2 f]
 have y:mB a (d.set o .gone) [t] [o] ((t,V.hg o len 1 T)::a3)=W (.hg a len 1 T::a3.map Prod.snd):=by unfold mB;rw[Gl i];simp only[Ug,beq_self_eq_true,CR,A9c,w,va]
 rw[h,Qhb,Gl (λp c=>(g p c).2),y];simp only[va];have z:xx a d [o]=W (a8++[.cells (Z l)]):=by
  unfold xx;rw[h];have:([o].mapM λo=>(d[o]?).bind (AO a [o] (d.set o .gone)))=W [.cells (Z l)]:=by rw[xw,n];simp only[va,AO,Xt,A0];rfl
  have A:([o].mapM λe=>(d[e]?).bind (AO a [o] (d.set o .gone)))=W [.cells (Z l)]:=by rw[xw,n];simp only[va,AO,Xt,A0];rfl
  rw[A,j];rfl
 rw[z];rfl
def Qsv{t o len:Nat}{base:XB}(c:o<a)(n:∀p∈a3,p.1≠t/\V.rb 0 p.2)(f:∀p∈base,V.rb 0 p.2)(g:ve a d=W a8):
  VJ a [t] (a3++(t,.hg o len 1 T)::base) d=W (a3.map Prod.snd ++ .hg o len 1 T::base.map Prod.snd,a8):=by
 have h:mV t (a3++(t,V.hg o len 1 T)::base)=.hg o len 1 T:=Pk λp b=>(n p b).1;have i:([t].filterMap λj=>AG a (mV j (a3++(t,V.hg o len 1 T)::base)))=[]:=by simp[h,AG,Nat.not_le.2 c]
 have k:yn a d []=[]:=rfl;unfold VJ;rw[i,k];have e:VP [] d=d:=rfl;have l:OA a [] d (.hg o len 1 T)=W (.hg o len 1 T):=by simp only[OA];rw[A9a (by simp[c])];simp[ez,c]
 have m:mB a d [t] [] ((t,V.hg o len 1 T)::base)=W (.hg o len 1 T::base.map Prod.snd):=by unfold mB;rw[Gl f];simp only[Ug,beq_self_eq_true,CR,A9c,l,va]
 rw[e,Qhb,Gl (λp b=>(n p b).2),m];simp only[va];have q:xx a d []=some a8:=by unfold xx;rw[e];rw[g];simp
 rw[q];rfl
def Qli{I:hN}{l:u_}{x:Int}{c:bU}(o:hN.get I a=W (Z l))(b:(l.length+1)*8<=Qaq):
  G' T T 1 8 I (dN a l) (.sl [iI x] c)=W (dN I.length (l++[x]),I.set a .gone++[.cells (Z (l++[x]))]):=by
 unfold G';simp only[Nv,vD,A9d,Nq,u7,va,o];rw[A9a ⟨trivial,rfl,by rw[BB];omega,by simpa using b⟩];have e:Z (l++[x])=Z l++[V.int .i64 x]:=by unfold Z;simp
 rw[e];simp[V.cells,V.ng]
def Wmr{l:u_}(I:hN.get d a=W (Z l))(b:l.length*8<=Qaq):
  G' T T 1 8 d (dN a l) .ad=W (dN a l,d):=by
 unfold G';simp only[Nv,vD,A9d,Nq,u7,va,I];rw[A9a ⟨trivial,rfl,by rw[BB];omega,by simpa using b⟩]
structure dQ where
 op:Int
 text:List UInt8
 fold:Bool
 deriving DecidableEq
abbrev wZ:=List dQ
def cq(c:dQ):uZ:=[.int .i64 c.op,.str c.text,.bool c.fold]
@[reducible] def eS(c:dQ):V:=.agg (cq c)
def gS(b:Bool):hN:=match b with|true=>[.gone]|false=>[]
def ob(b:Bool):Nat:=match b with|true=>1|false=>0
def oS(b:Bool)(l:u_):hN:=gS b++[.cells (Z l)]
def iS(b c:Bool)(C:uZ)(l:u_):hN:=match c with|true=>gS b++[.gone,.cells C,.cells (Z l)]|false=>gS b++[.cells (Z l),.cells C]
def io(b c:Bool):Nat:=match c with|true=>ob b+2|false=>ob b
section
variable{b c:Bool}{C:uZ}{l:u_}
def Wxp:(oS b l).length=ob b+1:=by cases b<;>rfl
def Wo4:hN.get (oS b l) (ob b)=W (Z l):=by cases b<;>rfl
def r_(a:l.length<=1000000000):Rw (oS b l) (ob b) l:=by refine⟨?_,Wo4,a⟩;unfold Wf;have:∀n,O.rb n (.cells (Z l)):=λn=>wB;cases b<;>simp[oS,gS,this]<;>rfl
def Whj:(iS b c C l).length=ob b+2+(if c then 1 else 0):=by cases b<;>cases c<;>rfl
def PW:hN.get (iS b c C l) (io b c)=W (Z l):=by cases b<;>cases c<;>rfl
end
def sa:(dN a i).ng=vH a i:=rfl
def tT:(vH a i).ng=vH a i:=rfl
def tU:(V.hg a G 1 T).ng=.hs a 0 G 1 T:=rfl
attribute [go_sem] sa tT tU
def Tf{I:hN}{o:Nat}(h:Wf I):Wf (I.set o .gone):=by
 refine AI.2 λx b => ?_;rw[GR];rcases Xcz b with a|a
 ·exact AI.1 h x a
 ·subst a;rfl
def Rw.grow{I:hN}{l:u_}(h:Rw I a l)(o:u_)(b:o.length<=1000000000):Rw (I.set a .gone++[.cells (Z o)]) I.length o:=by
 refine⟨MS (Tf h.wf) λx c => ?_,?_,b⟩
 ·obtain rfl:=vR.1 c;exact wB
 ·unfold hN.get;rw[DQ u0];simp
theorem He:∀l:u_,Mw (Z l)=W l
 |[]=>rfl
 |x::r=>by show(Mw (Z r)).map (x :: ·)=_;rw[He r];rfl
def Ws6{I:hN}(h:Rw I a i):E cx 113 [vH a i] I=W (.aR [],cf I a (vg i)):=by rw[RN (h:=Wk9) X0K];show((hN.get I a).bind λb=>(Mw b).bind λo=>if o.length=i.length/\i.length<4611686018427387904 then W (V.aR [],I.set a (.cells ((vg o).map (.int .i64))))else none)=_;have c:=h.len;rw[h.get];simp only[va,He];rw[A9a ⟨trivial,by omega⟩];rfl
theorem Tg:∀(r p z:u_),vk T 1 (Z (p++(r++z))) r.length p.length=W (Z r)
 |[],p,z=>rfl
 |b::r,p,z=>by
  have h:=Tg r (p++[b]) z;rw[wL]at h;simp only[vW,vT,xJ,AJ,xQ,xr]at h;have a:Ev.part T 1 (Z (p++(b::(r++z)))) p.length=W (iI b):=by rw[Nl u0];simp
  rw[vT];simp only[AJ,vk,a,h,u7,va,AK];rfl
theorem Wat{n d:Nat}{I:hN}:∀l:u_,(Z l).mapM (fz n I d)=W (Z l)
 |[]=>rfl
 |x::r=>by have a:=Wat (n:=n) (d:=d) (I:=I) r;have e:fz n I d (iI x)=W (iI x):=Tu;show(V.int .i64 x::Z r).mapM _=_;rw[xw,e,a];rfl
def Wxq{I:hN}(z:hN.get I a=W (Z (i++a9))):fz 0 I fzD (.hs a 0 i.length 1 T)=W (.sl (Z i) .no):=by have h:=Tg i [] a9;simp only[xQ,xJ]at h;have e:fz 0 I fzD (.hs a 0 i.length 1 T)=((hN.get I a).bind λb=>(vk T 1 b i.length 0).bind λc=>(c.mapM (fz 0 I 39)).bind λd=>W (V.sl d .no)):=rfl;rw[e,z];simp only[va,h,Wat]
def kB(l:u_):u_:=fh (vg (l++dc l++[fP (l++dc l)]))
def XH(l:u_):(dc l).length<=1:=by
 have:∀r,(IH l r).length<=1:=by
  intro r;induction r with
  |nil=>simp[IH]
  |cons b r a=>unfold IH;split;exact a;simp
 exact this _
def fV:(vg w).length=w.length:=List.length_mergeSort w
def Whl{I:hN}{l:u_}(h:Rw I a l)(t:l.length<=90000):
  (bd (E cx 112 [vH a l] I) λd=>
   bd (wS T 1 1 (iI 0) [(0,d.1.ng)]) λf=>
   bd (G' T T 1 8 d.2 (dN a l) f.ng) λb=>
   bd (E cx 113 [b.1.ng.ng] b.2) λg=>
   bd (E cx 114 [b.1.ng] g.2) λe=>
   bd (oK T e.1) (nK 0 e.2))=W (.sl (Z (fh (vg (l++[fP l])))) .no,[]):=by
 have k:=Ws2 h Y;have m:G' T T 1 8 I (dN a l) (.sl [iI (fP l)] .no)=W (dN I.length (l++[fP l]),I.set a .gone++[.cells (Z (l++[fP l]))]):=Qli h.get (by unfold Qaq;omega);have i:=h.grow (l++[fP l]) yZ;have n:=Ws6 i;have j:=Ct i.get;have p:=Qiz (L:=vg (l++[fP l])) i.wf j (by rw[fV];simp;omega);have⟨z,c,u⟩:=Whi p;rw[Ws3]at c;have q:vH I.length (vg (l++[fP l]))=vH I.length (l++[fP l]):=by unfold vH;rw[fV]
 rw[q]at c;have r:=Wxq (I:=cf (I.set a .gone++[.cells (Z (l++[fP l]))]) I.length (fh (vg (l++[fP l]))++z)) (Qsu j);have s:nK 0 (cf (I.set a .gone++[.cells (Z (l++[fP l]))]) I.length (fh (vg (l++[fP l]))++z)) (.hs I.length 0 (fh (vg (l++[fP l]))).length 1 T)=W (.sl (Z (fh (vg (l++[fP l])))) .no,[]):=by unfold nK;rw[r];rfl
 rw[k];generalize l++[fP l]=v,I.set a .gone++[O.cells (Z (l++[fP l]))]=o at*;simp only[go_sem,m,n,c,s]
section
variable(C:uZ)(q:V.aL 0 C=true)(fold:Bool)(b:Bool)
def dV(fold:Bool)(l:u_):u_:=l.flatMap λc=>if fold then[c,VW c]else[c]
def W8(l:u_):(dV fold l).length<=2*l.length:=by
 unfold dV;induction l with
 |nil=>simp
 |cons x r a=>
  rw[AR,vW,vT];have:(if fold=true then[x,VW x]else[x]).length<=2:=by split<;>simp
  omega
include q in
end
section
variable(C:uZ)(z:V.aL 0 C=true)(b c:Bool)(l:u_)(q:XB)(u:∀p∈q,V.rb 0 p.2=true)
include z u
theorem Wms(n:Nat)(I:hN):fb n I (.cells C)=W (.cells C):=Td (zB (wV n) z)
theorem Wxr(x:Int):VJ (ob b+2) [3] ((3,dN (iS b c C l).length (l++[x]))::q) ((iS b c C l).set (io b c) .gone++[O.cells (Z (l++[x]))])=W (dN (ob b+2) (l++[x])::q.map Prod.snd,iS b true C (l++[x])):=by
 have a:=Whj (b:=b) (c:=c) (C:=C) (l:=l);have d n I l:fb n I (.cells (Z l))=W (.cells (Z l)):=Td wB;have e:=Wms C z q u;have f n I:fb n I .gone=W .gone:=rfl;have g:hN.get ((iS b c C l).set (io b c) .gone++[O.cells (Z (l++[x]))]) (iS b c C l).length=W (Z (l++[x])):=by unfold hN.get;rw[DQ u0];simp
 have i:ve (ob b+2) (((iS b c C l).set (io b c) .gone++[O.cells (Z (l++[x]))]).set (iS b c C l).length .gone)=W (gS b++[.gone,.cells C]):=by cases b<;>cases c<;>simp[ve,iS,io,gS,ob,d,e,f]
 have h:=XO (t:=3) (len:=(l++[x]).length) (pre:=[]) (by rw[a];omega) g (λp j=>by cases j) u i;rw[xQ]at h;refine h.trans ?_;congr 2;cases b<;>rfl
theorem Wxs(x y:Int):VJ (ob b+2) [3] ((3,dN ((iS b c C l).length+1) (l++[x]++[y]))::q) (((iS b c C l).set (io b c) .gone++[O.cells (Z (l++[x]))]).set (iS b c C l).length .gone++[O.cells (Z (l++[x]++[y]))])=W (dN (ob b+2) (l++[x]++[y])::q.map Prod.snd,iS b true C (l++[x]++[y])):=by
 have a:=Whj (b:=b) (c:=c) (C:=C) (l:=l);have d n I l:fb n I (.cells (Z l))=W (.cells (Z l)):=Td wB;have e:=Wms C z q u;have f n I:fb n I .gone=W .gone:=rfl;have g:hN.get (((iS b c C l).set (io b c) .gone++[O.cells (Z (l++[x]))]).set (iS b c C l).length .gone++[O.cells (Z (l++[x]++[y]))]) ((iS b c C l).length+1)=W (Z (l++[x]++[y])):=by unfold hN.get;rw[DQ u0];simp
 have i:ve (ob b+2) ((((iS b c C l).set (io b c) .gone++[O.cells (Z (l++[x]))]).set (iS b c C l).length .gone++[O.cells (Z (l++[x]++[y]))]).set ((iS b c C l).length+1) .gone)=W (gS b++[.gone,.cells C]):=by cases b<;>cases c<;>simp[ve,iS,io,gS,ob,d,e,f]
 have h:=XO (t:=3) (len:=(l++[x]++[y]).length) (pre:=[]) (by rw[a];omega) g (λp j=>by cases j) u i;rw[xQ]at h;refine h.trans ?_;congr 2;cases b<;>rfl
theorem sb:VJ (ob b+2) [3] ((2,.any)::(3,dN (io b c) l)::q) (iS b c C l)=W (.any::dN (io b c) l::q.map Prod.snd,iS b c C l):=by
 have d n I l:fb n I (.cells (Z l))=W (.cells (Z l)):=Td wB;have e:=Wms C z q u;have f n I:fb n I .gone=W .gone:=rfl;have a:∀p∈[((2:Nat),V.any)],p.1≠3/\V.rb 0 p.2:=λp a=>by obtain rfl:=vR.1 a;exact⟨by decide,rfl⟩
 cases c with
 |false=>
  have g:ve (ob b+2) (iS b T C l)=W (iS b T C l):=by cases b<;>simp[ve,iS,io,gS,ob,d,e,f]
  exact Qsv (o:=ob b) Y a u g
 |true=>
  have g:ve (ob b+2) ((iS b true C l).set (ob b+2) .gone)=W (gS b++[.gone,.cells C]):=by cases b<;>simp[ve,iS,io,gS,ob,d,e,f]
  have h:=XO (o:=ob b+2) (len:=l.length) Y (PW) a u g;refine h.trans ?_;congr 2;cases b<;>rfl
theorem sd:VJ 1 [3] ((3,dN (io b c) l)::q) (iS b c C l)=W (dN (ob (b||c)) l::q.map Prod.snd,oS (b||c) l):=by
 have f n I l:fb n I (.cells (Z l))=W (.cells (Z l)):=Td wB;have g:=Wms C z q u;have i n I:fb n I .gone=W .gone:=rfl;have e:∀p∈([]:XB),p.1≠3/\V.rb 0 p.2:=λp e=>by cases e
 by_cases a:(b||c)=T
 ·obtain⟨rfl,rfl⟩:b=T/\c=T:=by simpa using a
  have d:ve 1 (iS T T C l)=W (oS T l):=by simp[ve,iS,io,gS,ob,oS,f,g,i]
  exact Qsv (o:=0) Y e u d
 ·have d:(b||c):=by cases b<;>cases c<;>first|rfl|exact absurd rfl a
  have j:ve 1 ((iS b c C l).set (io b c) .gone)=W [.gone]:=by cases b<;>cases c<;>simp[ve,iS,io,gS,ob,f,g,i]at a ⊢
  have h:=XO (len:=l.length) (by cases b<;>cases c<;>simp[io,ob]at a ⊢) (PW) e u j;rw[d];exact h
end
def se(b:Bool)(l:u_):VJ 1 [3] [(2,.any),(3,dN (ob b) l)] (oS b l)=W ([.any,dN (ob b) l],oS b l):=by
 have d n I l:fb n I (.cells (Z l))=W (.cells (Z l)):=Td wB;have e n I:fb n I .gone=W .gone:=rfl;have a:∀p∈[((2:Nat),V.any)],p.1≠3/\V.rb 0 p.2:=λp a=>by obtain rfl:=vR.1 a;exact⟨by decide,rfl⟩
 have c:∀p∈([]:XB),V.rb 0 p.2:=λp a=>by cases a
 cases b with
 |false=>
  have f:ve 1 (oS T l)=W (oS T l):=by simp[ve,oS,gS,d]
  exact Qsv (o:=0) Y a c f
 |true=>
  have f:ve 1 ((oS true l).set 1 .gone)=W [.gone]:=by simp[ve,oS,gS,e]
  exact XO (o:=1) Y (Wo4) a c f
def s8(l:u_):Prop:=∀c∈l,0<=c/\c<=1114111
theorem Whm(C:uZ)(h:V.aL 0 C)(fold b:Bool)(f:V)(a:V.rb 0 f)(d:f.ng=f)(n i:Int)(v:0<=i/\i<=1000000)(w:n<=1000000)(R:u_)(y:R.length<=1000000)(g:s8 R)(o:Rk):∀(r q:u_) (c:Bool) (l:u_),R=q++r->l.length+2*r.length<=1000000->
  ∃j,x_ QaT 0 1 o (ob b+2) [dN (io b c) l,.bool fold,f,iI n,iI i,.sl (Z R) .no,iI R.length,iI q.length] (iS b c C l)=o [dN (ob j) (l++dV fold r),.bool fold,f,iI n,iI (i+1)] (oS j (l++dV fold r))
 |[],q,c,l,m,t=>by
  refine⟨b||c,?_⟩;have p:dV fold []=[]:=rfl;rw[p,wt];have s:¬(q.length:Int)<R.length:=by rw[m];simp
  have e:=sb C h b c l [(4,.bool fold),(12,f),(13,iI n),(14,iI i)] (by simp[a,ZZ,C2]);have k:=sd C h b c l [(4,.bool fold),(12,f),(13,iI n),(14,iI (i+1))] (by simp[a,ZZ,C2]);simp only[xc,Xbx]at e k;rw[F3];simp -implicitDefEqProofs(disch:=try exact wK)only[go_sem,Bo,s,e,k,d]
 |x::r,q,c,l,k,G=>by
  have B:R.length=q.length+r.length+1:=by rw[k];simp;omega
  have L:=g x (by rw[k];simp);have z:(q.length:Int)<R.length:=by omega
  have D:eI 1 (iI q.length) (.sl (Z R) .no)=W (.ai [iI x] 0):=by rw[Pj Y,zi,k];simp
  have E I:eL I T 1 (.ai [iI x] 0)=W (iI x):=rfl;have e:∀(p:Nat×V),p∈[((4:Nat),V.bool fold),(12,f),(13,iI n),(14,iI i),(20,.sl (Z R) .no),(21,iI R.length),(22,iI ((q.length:Int)+1))]->V.rb 0 p.2:=by
   intro p t;simp only[vZ,AS,R7]at t;rcases t with rfl|rfl|rfl|rfl|rfl|rfl|rfl
   ·rfl
   ·exact a
   ·rfl
   ·rfl
   ·exact wB
   ·rfl
   ·rfl
  have F s:G' T T 1 8 (iS b c C l) (dN (io b c) l) (.sl [iI x] s)=W (dN (iS b c C l).length (l++[x]),(iS b c C l).set (io b c) .gone++[O.cells (Z (l++[x]))]):=Qli PW (by unfold Qaq;omega);have m:(q++[x]).length=q.length+1:=u0;have M:l.length+2*(r.length+1)<=1000000:=G;cases fold with
  |false=>
   have⟨j,p⟩:=Whm C h T b f a d n i v w R y g o r (q++[x]) true (l++[x]) (by rw[k];simp) (by rw[vW,Gt];omega);have A:l++[x]++dV T r=l++dV T (x::r):=by unfold dV;simp
   rw[A,m]at p;have H:((q.length+1:Nat):Int)=(q.length:Int)+1:=by omega
   rw[H]at p;refine⟨j,?_⟩;have u:=Wxr C h b c l _ e x;simp only[xc,Xbx]at u;have t:io b true=ob b+2:=by cases b<;>rfl
   rw[t]at p;rw[F3];simp -implicitDefEqProofs(disch:=try exact wK)only[go_sem,Bo,Bk,z,D,E,F,u,p,d]
  |true=>
   have⟨j,p⟩:=Whm C h true b f a d n i v w R y g o r (q++[x]) true (l++[x]++[VW x]) (by rw[k];simp) (by rw[vW,vW,Gt,Gt];omega);have H:l++[x]++[VW x]++dV true r=l++dV true (x::r):=by unfold dV;simp
   rw[H,m]at p;have J:((q.length+1:Nat):Int)=(q.length:Int)+1:=by omega
   rw[J]at p;refine⟨j,?_⟩;have A:=Wxs C h b c l _ e x (VW x);simp only[xc,Xbx]at A;have t:io b true=ob b+2:=by cases b<;>rfl
   rw[t]at p;have t1:=λI=>W_ x Y I;have u:hN.get ((iS b c C l).set (io b c) .gone++[O.cells (Z (l++[x]))]) (iS b c C l).length=W (Z (l++[x])):=by unfold hN.get;rw[DQ u0];simp
   have K s:G' T T 1 8 ((iS b c C l).set (io b c) .gone++[O.cells (Z (l++[x]))]) (dN (iS b c C l).length (l++[x])) (.sl [iI (VW x)] s)=W (dN ((iS b c C l).length+1) (l++[x]++[VW x]),((iS b c C l).set (io b c) .gone++[O.cells (Z (l++[x]))]).set (iS b c C l).length .gone++[O.cells (Z (l++[x]++[VW x]))]):=by rw[Qli u (by rw[vW,Gt];unfold Qaq;omega)];simp
   rw[F3];simp -implicitDefEqProofs(disch:=try exact wK)only[go_sem,Bo,Bk,z,D,E,F,t1,K,A,p,d]
variable{a4:dQ}
def Ws7:(cq a4).map V.ng=cq a4:=rfl
def Ws8:V.aL a (cq a4):=rfl
attribute [go_sem] Ws8
def Wmt{b:Bool}{l:u_}(m:l.length<=89000):
  (bd (E cx 111 [vH (ob b) l] (oS b l)) λe=>
   bd (G' T T 1 8 e.2 (dN (ob b) l) e.1.ng) λa=>
   bd (E cx 112 [a.1.ng.ng] a.2) λd=>
   bd (wS T 1 1 (iI 0) [(0,d.1.ng)]) λg=>
   bd (G' T T 1 8 d.2 a.1 g.ng) λc=>
   bd (E cx 113 [c.1.ng.ng] c.2) λh=>
   bd (E cx 114 [c.1.ng] h.2) λf=>
   bd (oK T f.1) (nK 0 f.2))=W (.sl (Z (kB l)) .no,[]):=by
 have i:=r_ (b:=b) (l:=l) Y;rw[W6 i];show(bd (G' T T 1 8 (oS b l) (dN (ob b) l) (jH (dc l)).ng) λa=>
   bd (E cx 112 [a.1.ng.ng] a.2) λd=>
   bd (wS T 1 1 (iI 0) [(0,d.1.ng)]) λg=>
   bd (G' T T 1 8 d.2 a.1 g.ng) λc=>
   bd (E cx 113 [c.1.ng.ng] c.2) λh=>
   bd (E cx 114 [c.1.ng] h.2) λf=>
   bd (oK T f.1) (nK 0 f.2))=_
 unfold kB;have j:=XH l
 match n:dc l,j with
 |[],j=>have e:jH []=.ad:=rfl;have k:G' T T 1 8 (oS b l) (dN (ob b) l) V.ad.ng=W (dN (ob b) l,oS b l):=Wmr i.get (by unfold Qaq;omega);rw[e,k,wt];exact Whl i Y
 |[x],j=>have e:jH [x]=.sl [iI x] .no:=rfl;have k:G' T T 1 8 (oS b l) (dN (ob b) l) (V.sl [iI x] .no).ng=W (dN (oS b l).length (l++[x]),(oS b l).set (ob b) .gone++[O.cells (Z (l++[x]))]):=Qli i.get (by unfold Qaq;omega);rw[e,k];exact Whl (i.grow (l++[x]) (by rw[vW,Gt];omega)) (by rw[vW,Gt];omega)
 |x::y::r,j=>simp at j
theorem Wxt:∀(f:Nat) (r:u2),s8 (ji f r)
 |0,r,c,a=>by simp[ji]at a
 |f+1,r,c,a=>by
  unfold ji at a;split at a
  ·cases a
  ·cases b:dD r with
   |none=>rw[b]at a;cases a
   |some k=>
    rw[b]at a;simp only at a;rcases vZ.1 a with h|h
    ·have d:=zN b;have e:=(EJ r k d.1 d.2.1 d.2.2).2 b;unfold D0 at e;rw[vc]at e;have:=La e.1;rw[h];exact this
    ·exact Wxt f _ c h
def Wo5(s:u2):s8 (bP s):=Wxt _ s
def fE(c:dQ):Prop:=VT c.text=true/\c.text.length<=200
theorem Whn(fold:Bool)(s:Sl dQ)(t:s.l.length<=200)(n:∀c∈s.l,fE c):∀(r q:wZ) (b:Bool) (l:u_),s.l=q++r->l.length+400*r.length<=89000->
  Bp QaT 0 1 [dN (ob b) l,.bool fold,ae eS s,iI s.l.length,iI q.length] (oS b l)=W (.sl (Z (kB (l++r.flatMap λc=>dV fold (bP c.text)))) .no,[])
 |[],q,b,l,a,d=>by
  have e:¬(q.length:Int)<s.l.length:=by rw[a];simp
  have f:=se b l;have g:=Wmt (b:=b) (by simp at d;omega);rw[F4,List.flatMap_nil,wt,<-g];simp only[go_sem,zK,e,f]
 |c::r,q,b,l,f,o=>by
  have p:s.l.length=q.length+r.length+1:=by rw[f];simp;omega
  have⟨g,v⟩:=n c (by rw[f];simp);have u:(q.length:Int)<s.l.length:=by omega
  have w:eI 3 (iI q.length) (ae eS s)=W (.ai (cq c) 0):=KZ f rfl rfl;have x I:eL I true 3 (.ai (cq c) 0)=W (.agg (cq c)):=xg rfl Ws7;have y:u5 (oS b l++[O.cells [iI 0,.str [],.bool T]]) 3 (.ptr (ob b+1) 0) (.agg (cq c)) (.agg (cq c))=W (.undef,iS b T (cq c) l):=by cases b<;>rfl
  have z:eL (iS b T (cq c) l) T 1 (.ptr (ob b+1) 1)=W (.str c.text):=by cases b<;>rfl
  have A:=Wxp (b:=b) (l:=l);have B:(iS b T (cq c) l).length=ob b+2:=by rw[Whj];rfl
  have C:=λI=>P3 c.text Y g I;have D:=Hu c.text;have E m I:fz m I fzD (.sl (Z (bP c.text)) .no)=W (.sl (Z (bP c.text)) .no):=vC wB;have F I:fz (ob b+2) I fzD (dN (ob b) l)=W (dN (ob b) l):=vC (by simp[V.rb]);have G k I:fz k I fzD (ae eS s)=W (ae eS s):=qe λ_ _=>rfl;have⟨h,d⟩:=Whm (cq c) rfl fold b (ae eS s) (vw λ_ _=>rfl) vz s.l.length q.length Y Y (bP c.text) Y (Wo5 _) (Bp QaT 0 1) (bP c.text) [] T l rfl (by simp at o;omega);have i:io b T=ob b:=by cases b<;>rfl
  rw[i]at d;have e:x_ QaT 0 1 (Bp QaT 0 1) (ob b+2) [dN (ob b) l,.bool fold,ae eS s,iI s.l.length,iI q.length,.sl (Z (bP c.text)) .no,iI (bP c.text).length,iI 0] (iS b T (cq c) l)=Bp QaT 0 1 [dN (ob h) (l++dV fold (bP c.text)),.bool fold,ae eS s,iI s.l.length,iI ((q.length:Int)+1)] (oS h (l++dV fold (bP c.text))):=d;have H:=W8 fold (bP c.text);have j:=Whn fold s t n r (q++[c]) h (l++dV fold (bP c.text)) (by rw[f];simp) (by rw[vW];simp at o;omega);rw[show((q++[c]).length:Int)=q.length+1 by simp,wL]at j;have J:(c::r).flatMap (λc=>dV fold (bP c.text))=dV fold (bP c.text)++r.flatMap λc=>dV fold (bP c.text):=u0;rw[<-J]at j;rw[F4,<-j,<-e];have K:(ae eS s).ng=ae eS s:=vz;have L:(V.sl (Z (bP c.text)) .no).ng=.sl (Z (bP c.text)) .no:=rfl;have M:Qai (V.sl (Z (bP c.text)) .no)=W (iI (bP c.text).length):=by simp -implicitDefEqProofs(disch:=try exact wK)only[go_sem,]
  generalize(bP c.text).length=S,(V.sl (Z (bP c.text)) .no)=R,ae eS s=Q,cq c=P,dN (ob b) l=N,iS b T (cq c) l=a at*;simp -implicitDefEqProofs(disch:=try exact wK)only[go_sem,zK,u,w,x,y,z,A,B,C,E,F,G,K,L,M]
def Wde(c:dQ)(I:hN):E cx 108 [eS c] I=W (.bool c.fold,I):=by refine v_ X0K X0K ?_ rfl I;have a:bK [] (.agg (cq c))=W (.ptr 0 0,[.cells (cq c)]):=rfl;have b:eL [.cells (cq c)] T 1 (.ptr 0 2)=W (.bool c.fold):=rfl;rw[De];simp only[eS]at*;simp -implicitDefEqProofs only[go_sem,wG,a,b]
def On:wZ->Nat->Int
 |[],_ => -1
 |c::r,i=>if c.fold then i else On r (i+1)
theorem Qi:∀(l:wZ) (i:Nat),decide (0<=On l i)=l.any (·.fold)
 |[],i=>rfl
 |c::r,i=>by
  unfold On;rw[Ng];cases h:c.fold with
  |true=>simp
  |false=>simp only[vD,A9d,C3];exact Qi r (i+1)
abbrev l4:V:=.fn 108 [] []
theorem Qj(s:Sl dQ)(j:s.l.length<=1000000000):∀(r q:wZ),s.l=q++r->
  Bu QaT 0 0 [ae eS s,l4,iI s.l.length,iI q.length] []=W (iI (On r q.length),[])
 |[],q,a=>by
  have b:¬(q.length:Int)<s.l.length:=by rw[a];simp
  rw[F6];show _=W (V.int .i64 (-1),[]);simp -implicitDefEqProofs only[go_sem,Bt,b]
 |c::r,q,b=>by
  have e:s.l.length=q.length+r.length+1:=by rw[b];simp;omega
  have d:(q.length:Int)<s.l.length:=by omega
  have f:eI 3 (iI q.length) (ae eS s)=W (.ai (cq c) 0):=KZ b rfl rfl;have g I:eL I true 3 (.ai (cq c) 0)=W (.agg (cq c)):=xg rfl Ws7;have f1 k I:fz k I fzD (ae eS s)=W (ae eS s):=qe λ_ _=>rfl;have f3 k I:fz k I fzD l4=some l4:=vC rfl;have a I:E cx 108 [.agg (cq c)] I=W (.bool c.fold,I):=Wde c I;have h:=Qj s j r (q++[c]) (by rw[b];simp);rw[show((q++[c]).length:Int)=q.length+1 by simp,show(q++[c]).length=q.length+1 by simp]at h;rw[F6];show _=W (V.int .i64 (if c.fold then(q.length:Int)else On r (q.length+1)),[]);cases i:c.fold with
  |true=>rw[i]at a;simp -implicitDefEqProofs(disch:=try exact wK)only[go_sem,Bt,LY,d,f,g,f1,f3,a]
  |false=>rw[i]at a;simp -implicitDefEqProofs(disch:=try exact wK)only[go_sem,Bt,LY,d,f,g,f1,f3,a,h]
def Wmu(s:Sl dQ)(b:s.l.length<=1000000000)(I:hN):E cx 107 [ae eS s,l4] I=W (.bool (s.l.any (·.fold)),I):=by
 have f1 k I:fz k I fzD (ae eS s)=W (ae eS s):=qe λ_ _=>rfl;have f3 k I:fz k I fzD l4=some l4:=vC rfl;have a:V.aL 0 [ae eS s,l4]:=by rw[Qae,vw λ_ _=>rfl];rfl
 have c I:E cx 122 [ae eS s,l4] I=W (iI (On s.l 0),I):=by refine v_ X0K X0K ?_ a I;have h:Bu QaT 0 0 [ae eS s,l4,iI s.l.length,iI 0] []=W (iI (On s.l 0),[]):=Qj s b s.l [] rfl;rw[SJ];simp only[go_sem,L1,f1,f3,h]
 refine v_ X0K X0K ?_ a I;rw[Sw,<-Qi s.l 0];simp -implicitDefEqProofs only[go_sem,QeD,c]
def JV(l:wZ):u_:=[45]++l.flatMap λc=>dV (l.any (·.fold)) (bP c.text)
def cJ(l:wZ):u_:=kB (JV l)
def Wdf(s:Sl dQ)(a:s.l.length<=200)(b:∀c∈s.l,fE c)(I:hN):E cx 98 [ae eS s] I=W (.sl (Z (cJ s.l)) .no,I):=by refine v_ X0K X0K ?_ (by rw[Qae,vw λ_ _=>rfl];rfl) I;have d:=λI=>Wmu s Y I;have h:=Whn (s.l.any (·.fold)) s a b s.l [] T [45] rfl yZ;have e:Bp QaT 0 1 [.hg 0 1 1 T,.bool (s.l.any (·.fold)),ae eS s,iI s.l.length,iI 0] [.cells [iI 45]]=W (.sl (Z (cJ s.l)) .no,[]):=h;have f:QM T 1 1 (iI 0) [(0,(iI 45))] []=W (.hg 0 1 1 T,[.cells [iI 45]]):=rfl;have g k I:fz k I fzD (ae eS s)=W (ae eS s):=qe λ_ _=>rfl;have i:(ae eS s).ng=ae eS s:=vz;have j:Qai (ae eS s)=W (iI s.l.length):=ON;have l I:fz 1 I fzD (.hg 0 1 1 T)=W (.hg 0 1 1 T):=vC rfl;have m:V.rb 0 (.sl (Z (cJ s.l)) .no):=Nu _;rw[SD];simp only[go_sem,LW,d,e,f,g,i,j,l,m]
structure Pt where
 text:List Int
 fold:Bool
def dk(p:Pt):uZ:=[.sl (Z p.text) .no,.bool p.fold]
def gX(p:Pt)(B:u_):uZ:=[.sl (Z p.text) .no,.bool p.fold,.sl (Z B) .no]
section
variable{n:Nat}{p:Pt}{B:u_}
def Qsw:V.aL n (dk p):=by simp only[dk,Qae,Dg,wB,ZZ,xK,C4]
def Qx0:V.aL n (gX p B):=by simp only[gX,Qae,Dg,wB,ZZ,xK,C4]
def Wxu:bK [] (.agg (dk p))=W (.ptr 0 0,[.cells (dk p)]):=rfl
def Wxv:bK [] (.agg (gX p B))=W (.ptr 0 0,[.cells (gX p B)]):=rfl
def sf:eL (.cells (dk p)::d) true 2 (.ptr 0 0)=W (.agg (dk p)):=rfl
def Wxw:eL (.cells (gX p B)::d) true 2 (.ptr 0 0)=W (.agg (dk p)):=rfl
def Wxx:eL (.cells (gX p B)::d) true 3 (.ptr 0 0)=W (.agg (gX p B)):=rfl
def Wxy:eL (.cells (gX p B)::d) T 1 (.ptr 0 2)=W (.sl (Z B) .no):=rfl
end
attribute [go_sem] Qsw Qx0
attribute [go_sem high] Wxu Wxv sf Wxw Wxx Wxy
def Pt.same(p:Pt)(i c:Int):Bool:=if(p.text.length:Int)<=i then false else decide (p.text.getD i.toNat 0=c)||(p.fold&&decide (qd (p.text.getD i.toNat 0)=qd c))
structure jj (p:Pt):Prop where
 len:p.text.length<=1000000
 ch:s8 p.text
def kJ(c:Int):Prop:=-1<=c/\c<=1114111
section
variable(p:Pt)(u:jj p)(I:hN)
def Xy:E cx 128 [.agg (dk p)] I=W (iI p.text.length,I):=by refine v_ X0K X0K ?_ (by simp only[go_sem]) I;have a:eL [.cells (dk p)] T 1 (.ptr 0 0)=W (.sl (Z p.text) .no):=rfl;rw[Z7];simp -implicitDefEqProofs only[go_sem,Rl,a]
include u
theorem Ws9(i:Nat):p.text.getD i 0=0\/p.text.getD i 0∈p.text:=by
 rw[y9];cases h:p.text[i]? with
 |none=>exact .inl rfl
 |some x=>exact .inr (Ah h)
theorem Who(i:Nat):kJ (p.text.getD i 0):=by
 rcases Ws9 p u i with h|h
 ·rw[h];exact⟨by omega,by omega⟩
 ·have:=u.ch _ h;exact⟨by omega,by omega⟩
theorem Whp(i c:Int)(n:0<=i)(j:kJ c):E cx 146 [.agg (dk p),iI i,iI c] I=W (.bool (Pt.same p i c),I):=by
 refine v_ X0K X0K ?_ (by simp only[go_sem]) I;have b:eL [.cells (dk p)] T 1 (.ptr 0 0)=W (.sl (Z p.text) .no):=rfl;have a:eL [.cells (dk p)] T 1 (.ptr 0 1)=W (.bool p.fold):=rfl;rw[QaL];unfold Pt.same;by_cases d:(p.text.length:Int)<=i
 ·simp -implicitDefEqProofs only[go_sem,RZ,b,a,d]
 ·have e:eI 1 (iI i) (.sl (Z p.text) .no)=W (.ai [iI (p.text.getD i.toNat 0)] 0):=Pj Y;have f I x:eL I T 1 (.ai [iI x] 0)=W (iI x):=rfl;have k:=Who p u i.toNat;generalize p.text.getD i.toNat 0=x at*;have l:=λI=>DZ x k I;have m:=λI=>DZ c j I;by_cases g:x=c
  ·subst g;simp -implicitDefEqProofs only[go_sem,RZ,b,a,d,e,f]
  ·cases h:p.fold with
   |false=>rw[h]at a;simp -implicitDefEqProofs only[go_sem,RZ,b,a,d,e,f,g]
   |true=>rw[h]at a;simp -implicitDefEqProofs only[go_sem,RZ,b,a,d,e,f,g,l,m]
def l6(p:Pt)(st c:Int):Int:=if st = -1 then -1 else if Pt.same p st c then st+1 else -1
theorem XI(st c:Int)(e:-1<=st/\st<=10000000)(d:kJ c):E cx 213 [.agg (dk p),iI st,iI c] I=W (iI (l6 p st c),I):=by
 refine v_ X0K X0K ?_ (by simp only[go_sem]) I;rw[QaF];unfold l6;by_cases a:st = -1
 ·subst a;simp -implicitDefEqProofs only[go_sem,RC]
 ·have h:=λI=>Whp p u I st c Y d;cases b:Pt.same p st c with
  |true=>rw[b]at h;simp -implicitDefEqProofs(disch:=try exact wK)only[go_sem,RC,a,h]
  |false=>rw[b]at h;simp -implicitDefEqProofs only[go_sem,RC,a,h]
def s9(p:Pt)(st c:Int):Int:=if(p.text.length:Int)<st\/(st=p.text.length/\c=45)then p.text.length+1 else l6 p st c
theorem Wmv(st c:Int)(g:-1<=st/\st<=10000000)(h:kJ c):E cx 219 [.agg (dk p),iI st,iI c] I=W (iI (s9 p st c),I):=by
 refine v_ X0K X0K ?_ (by simp only[go_sem]) I;have a:=λI=>Xy p I;have b:=λI=>XI p u I st c g h;have i:=u.len;rw[QaG];unfold s9;by_cases d:(p.text.length:Int)<st
 ·simp -implicitDefEqProofs(disch:=try exact wK)only[go_sem,Kn,ox,a,b,d]
 ·by_cases e:st=p.text.length
  ·by_cases f:c=45
   ·subst e f;have q:((p.text.length:Int)=p.text.length):=rfl;simp -implicitDefEqProofs(disch:=try exact wK)only[go_sem,Kn,ox,a,b,d,q]
   ·subst e;have q:((p.text.length:Int)=p.text.length):=rfl;simp -implicitDefEqProofs only[go_sem,Kn,ox,a,b,d,q,f]
  ·simp -implicitDefEqProofs only[go_sem,Kn,ox,a,b,d,e]
def s_(p:Pt)(st c:Int):Int:=if st=p.text.length then st else l6 p st c
theorem Wmw(st c:Int)(e:-1<=st/\st<=10000000)(f:kJ c):E cx 220 [.agg (dk p),iI st,iI c] I=W (iI (s_ p st c),I):=by
 refine v_ X0K X0K ?_ (by simp only[go_sem]) I;have a:=λI=>Xy p I;have b:=λI=>XI p u I st c e f;rw[QaJ];unfold s_;by_cases d:st=p.text.length
 ·simp -implicitDefEqProofs only[go_sem,Kq,a,b,d]
 ·simp -implicitDefEqProofs only[go_sem,Kq,a,b,d]
def l7(c:Int):Bool:=Waa c||decide (c=12)||decide (c=13)
omit u in
theorem TA(c:Int):E cx 216 [iI c] I=W (.bool (l7 c),I):=by
 refine v_ X0K X0K ?_ rfl I;have h:=λI=>Wmc c I;rw[Sq];unfold l7;cases a:Waa c with
 |true=>rw[a]at h;simp -implicitDefEqProofs only[go_sem,LI,h]
 |false=>
  rw[a]at h;by_cases e:c=12
  ·subst e;have q:(12:Int)=12:=rfl;simp -implicitDefEqProofs only[go_sem,LI,h,q]
  ·simp -implicitDefEqProofs only[go_sem,LI,h,e]
def uY(p:Pt)(st c:Int):Int:=if(p.text.length:Int)<st then st else if !l7 c then l6 p st c else if st=p.text.length then st+1 else 0
theorem Wmy(st c:Int)(h:-1<=st/\st<=10000000)(i:kJ c):E cx 215 [.agg (dk p),iI st,iI c] I=W (iI (uY p st c),I):=by
 refine v_ X0K X0K ?_ (by simp only[go_sem]) I;have b:=λI=>Xy p I;have d:=λI=>XI p u I st c h i;have a:=λI=>TA I c;have j:=u.len;rw[Z9];unfold uY;by_cases e:(p.text.length:Int)<st
 ·simp -implicitDefEqProofs only[go_sem,Rp,b,d,a,e]
 ·cases f:l7 c with
  |false=>rw[f]at a;simp -implicitDefEqProofs only[go_sem,Rp,b,d,a,e]
  |true=>
   rw[f]at a;by_cases g:st=p.text.length
   ·simp -implicitDefEqProofs(disch:=try exact wK)only[go_sem,Rp,b,d,a,e,g]
   ·simp -implicitDefEqProofs only[go_sem,Rp,b,d,a,e,g]
variable(B:u_)
def l8(p:Pt)(B:u_)(c:Int):Nat->Int->Int
 |0,k=>k
 |f+1,k=>if 0<k/\Pt.same p k c=false then l8 p B c f (B.getD k.toNat 0)else if Pt.same p k c then k+1 else k
def iv(p:Pt)(B:u_)(k c:Int):Int:=l8 p B c (k.toNat+1) k
structure okB (n:Nat) (B:List Int):Prop where
 len:B.length=n+1
 lt:∀j:Nat,0<j->j<=n->0<=B.getD j 0/\B.getD j 0<j
structure ta (I:hN) (bV:V) (n:Nat) (B:List Int):Prop where
 wf:Wf I
 rb:V.rb I.length bV=true
 no:bV.ng=bV
 one:V.one bV=true
 rd:∀j:Nat,j<=n->∃pV,eI 1 (.int .i64 j) bV=some pV/\pV.ng=pV/\∀H,eL (I++H) false 1 pV=some (.int .i64 (B.getD j 0))
def dm(p:Pt)(bV:V):uZ:=[.sl (Z p.text) .no,.bool p.fold,bV]
theorem Xx(l:okB p.text.length B){I0:hN}{bV:V}(d:ta I0 bV p.text.length B)(c:Int)(m:kJ c):∀(f:Nat) (k:Int),0<=k/\k<=p.text.length->k.toNat<f->
  qk QaT I0.length (I0.length+1) [iI k,iI c,.ptr I0.length 0] (I0++[.cells (dm p bV)])=W (iI (l8 p B c f k),I0)
 |0,k,a,b=>by omega
 |f+1,k,q,z=>by
  have b:=λI=>Whp p u I k c q.1 m;have A:=u.len;have i:V.aL (I0.length+1) (dm p bV):=by simp only[dm,go_sem,xI (GX _) d.rb]
  have r:Wf (I0++[O.cells (dm p bV)]):=MS d.wf λx o=>by obtain rfl:=vR.1 o;simpa[O.rb]using i
  have a:ve (I0.length+1) (I0++[O.cells (dm p bV)])=W (I0++[O.cells (dm p bV)]):=by
   have:=Kk r
   rwa[vW]at this
  have e:eL (I0++[O.cells (dm p bV)]) true 2 (.ptr I0.length 0)=W (.agg (dk p)):=by rw[yo,wJ];rfl
  have s:eL (I0++[O.cells (dm p bV)]) T 1 (.ptr I0.length 2)=some bV:=by rw[yo,wJ];show W bV.ng=_;rw[d.no]
  have g x:nK I0.length (I0++[O.cells (dm p bV)]) (iI x)=W (iI x,I0):=VO d.wf rfl;have⟨C,n,t,j⟩:=d.rd k.toNat Y;have j:=j [O.cells (dm p bV)];rw[show((k.toNat:Nat):Int)=k by omega]at n;have v:=d.no;rw[QdU];show _=W (V.int .i64 (if 0<k/\Pt.same p k c=T then l8 p B c f (B.getD k.toNat 0)else if Pt.same p k c then k+1 else k),I0);by_cases h:0<k
  ·cases o:Pt.same p k c with
   |false=>rw[o]at b;have w:=l.lt k.toNat Y Y;have y:=Xx l d c m f (B.getD k.toNat 0) Y Y;simp -implicitDefEqProofs(disch:=try exact wK)only[go_sem,oz,oy,b,a,e,s,g,h,n,t,j,v,y]
   |true=>rw[o]at b;simp -implicitDefEqProofs(disch:=try exact wK)only[go_sem,oz,oy,b,a,e,g,h]
  ·cases o:Pt.same p k c with
   |false=>rw[o]at b;simp -implicitDefEqProofs(disch:=try exact wK)only[go_sem,oz,oy,b,a,e,g,h]
   |true=>rw[o]at b;simp -implicitDefEqProofs(disch:=try exact wK)only[go_sem,oz,oy,b,a,e,g,h]
theorem Whq(b:okB p.text.length B){bV:V}(a:ta d bV p.text.length B)(k c:Int)(I0:kJ c)(e:0<=k/\k<=p.text.length):B_ QaT (.agg (dm p bV)) (iI k) (iI c) d=W (iI (iv p B k c),d):=by
 have h:=Xx p u B b a c I0 (k.toNat+1) k e Y;have f:bK d (.agg (dm p bV))=W (.ptr d.length 0,d++[.cells (dm p bV)]):=by rw[Qos,RH];simp only[dm,CY,MO,Wf4,Qot,a.one,C4,A9c,xc,Xbx,qQ,We9,a.no]
 have g:(d++[O.cells (dm p bV)]).length=d.length+1:=u0;unfold iv;simp -implicitDefEqProofs(disch:=try exact wK)only[go_sem,B_,f,g,h]
theorem sg(a:okB p.text.length B):ta [] (.sl (Z B) .no) p.text.length B:=by refine⟨zM,by simp only[go_sem],rfl,rfl,λj b=>⟨.ai [iI (B.getD j 0)] 0,?_,rfl,λH=>rfl⟩⟩;rw[Pj (by have:=a.len;omega),zi]
theorem Wta(a:okB p.text.length B)(k c:Int)(b:kJ c)(d:0<=k/\k<=p.text.length):E cx 129 [.agg (gX p B),iI k,iI c] I=W (iI (iv p B k c),I):=by refine v_ X0K X0K ?_ (by simp only[go_sem]) I;have h:=Whq p u B a (sg p u B a) k c b d;rw[Z_];exact(A9e (Option.bind · (u1 [])) h).trans yB
theorem XE(a:okB p.text.length B)(k c:Int)(b:kJ c)(d:0<=k/\k<=p.text.length):E cx 222 [.agg (gX p B),iI k,iI c] I=W (iI (iv p B k c),I):=by refine v_ X0K X0K ?_ (by simp only[go_sem]) I;have h:=λI=>Wta p u I B a k c b d;rw[QaP];simp -implicitDefEqProofs only[go_sem,QaV,h]
def lT(p:Pt)(B:u_)(st c:Int):Int:=if st=p.text.length then st else iv p B st c
theorem Wmz(d:okB p.text.length B)(st c:Int)(e:kJ c)(f:0<=st/\st<=p.text.length):E cx 223 [.agg (gX p B),iI st,iI c] I=W (iI (lT p B st c),I):=by
 refine v_ X0K X0K ?_ (by simp only[go_sem]) I;have h:=λI=>XE p u I B d st c e f;have a:=λI=>Xy p I;rw[QaN];unfold lT;by_cases b:st=p.text.length
 ·simp -implicitDefEqProofs only[go_sem,Ku,h,a,b]
 ·simp -implicitDefEqProofs only[go_sem,Ku,h,a,b]
omit u
theorem Wm0(st c:Int):E cx 211 [.agg [],iI st,iI c] I=W (iI st,I):=by refine v_ X0K X0K ?_ rfl I;rw[QaO];simp -implicitDefEqProofs only[go_sem,R5]
theorem Wm1(st c:Int):E cx 225 [.agg [],iI st,iI c] I=W (iI st,I):=by refine v_ X0K X0K ?_ rfl I;rw[QaI];simp -implicitDefEqProofs only[go_sem,RU]
theorem Wtb(st:Int):E cx 210 [.agg [],iI st] I=W (.bool T,I):=by refine v_ X0K X0K ?_ rfl I;rw[QaM];simp -implicitDefEqProofs only[go_sem,Ks]
theorem Wtc(st:Int):E cx 224 [.agg [],iI st] I=W (.bool true,I):=by refine v_ X0K X0K ?_ rfl I;rw[QaK];simp -implicitDefEqProofs only[go_sem,Ii]
theorem Whr(st:Int):E cx 212 [.agg (dk p),iI st] I=W (.bool (decide (st=p.text.length)),I):=by refine v_ X0K X0K ?_ (by simp only[go_sem]) I;have a:=λI=>Xy p I;rw[QaH];simp -implicitDefEqProofs only[go_sem,RQ,a]
theorem P_(st:Int):E cx 221 [.agg (gX p B),iI st] I=W (.bool (decide (st=p.text.length)),I):=by refine v_ X0K X0K ?_ (by simp only[go_sem]) I;have a:=λI=>Xy p I;rw[QdK];simp -implicitDefEqProofs only[go_sem,QbH,a]
theorem Wtd(st:Int):E cx 218 [.agg (dk p),iI st] I=W (.bool (decide ((p.text.length:Int)<=st)),I):=by refine v_ X0K X0K ?_ (by simp only[go_sem]) I;have a:=λI=>Xy p I;rw[Z8];simp -implicitDefEqProofs only[go_sem,Rn,a]
theorem Wte(st:Int):E cx 214 [.agg (dk p),iI st] I=W (.bool (decide ((p.text.length:Int)<=st)),I):=by refine v_ X0K X0K ?_ (by simp only[go_sem]) I;have a:=λI=>Xy p I;rw[QaA];simp -implicitDefEqProofs only[go_sem,Ed,a]
end
def Waw{n:Nat}(h:n<=1000000000):ej T 1 8 (iI 0) (iI n) (iI n) d=W (.hs d.length 0 n 1 T,d++[.cells (Z (List.replicate n 0))]):=by
 unfold ej;have e:(List.replicate n (V.int .i64 0)).flatMap V.cells=Z (List.replicate n 0):=by
  unfold Z;induction n with
  |zero=>rfl
  |succ n a=>rw[Gu,Gu,AR,xc,a Y];rfl
 simp only[Et,u7,va,zi,e];rw[A9a ⟨by omega,by omega,by unfold Qaq;omega,rfl,rfl,rfl⟩]
def yl{o i:Nat}(h:i<a):eI 1 (iI i) (.hs o 0 a 1 T)=W (.ptr o i):=by rw[QT Y,zi]
variable{g U:uZ}
def Np{m:Nat}(h:hN.get d G=W g)(o:hN.get d m=W U):w_ [xN J a (.ptr G b0),.made m] d d=some d:=by
 have e:bt d d (.same T G b0 (if J then a else 1)):=by simp only[bt,h,decide_true,Ab];rw[O3 (by decide)];exact V.bG _
 have b:bt d d (.made m):=by simp only[bt,o];exact V.bG _
 show(if(bt d d (.same T G b0 (if J then a else 1))&&(bt d d (.made m)&&true))=true then W d else none)=_;rw[e,b];rfl
def XM{l:u_}{i:Nat}:(Z l).set i (iI j)=Z (l.set i j):=by unfold Z;rw[List.map_set]
theorem P8:∀(r p z:u_),vk T 1 (Z (p++(r++z))) r.length p.length=W (Z r)
 |[],p,z=>rfl
 |b::r,p,z=>by
  have h:=P8 r (p++[b]) z;rw[wL]at h;simp only[vW,vT,xJ,AJ,xQ,xr]at h;have a:Ev.part T 1 (Z (p++(b::(r++z)))) p.length=W (iI b):=by rw[Nl u0];simp
  rw[vT];simp only[AJ,vk,a,h,u7,va,AK];rfl
theorem Waz{n d:Nat}{I:hN}:∀l:u_,(Z l).mapM (fz n I d)=W (Z l)
 |[]=>rfl
 |x::r=>by have a:=Waz (n:=n) (d:=d) (I:=I) r;have e:fz n I d (iI x)=W (iI x):=Tu;show(V.int .i64 x::Z r).mapM _=_;rw[xw,e,a];rfl
def Wxz(b:a<=b0)(o:hN.get d b0=W (Z i)):fz a d (G+1) (.hs b0 0 i.length 1 T)=W (.sl (Z i) .no):=by
 have h:=P8 i [] [];simp only[xQ,wt,xJ]at h;have e:V.rb a (.hs b0 0 i.length 1 T)=T:=by simp[V.rb];omega
 unfold fz;rw[e];simp only[vD,A9d,u7,AK,o,va,h,Waz]
def qF(p:Pt):Nat->Nat->Int->u_->u_
 |0,_,_,B=>B
 |f+1,i,k,B=>if i<p.text.length then qF p f (i+1) (iv p B k (p.text.getD i 0)) (B.set (i+1) (iv p B k (p.text.getD i 0)))else B
def iK(p:Pt):u_:=qF p (p.text.length+1) 1 0 (List.replicate (p.text.length+1) 0)
theorem Wa0(p:Pt)(B:u_)(c:Int)(n:Nat)(a:okB n B):∀(f:Nat) (k:Int),0<=k/\k<=n->k.toNat<f->0<=l8 p B c f k/\l8 p B c f k<=k+1
 |0,k,b,d=>by omega
 |f+1,k,d,e=>by
  unfold l8;split
  ·rename_i h;have b:=a.lt k.toNat Y Y;have g:=Wa0 p B c n a f (B.getD k.toNat 0) Y Y;omega
  ·split<;>omega
theorem Wo6(p:Pt)(B:u_)(c:Int)(b:okB p.text.length B):∀(f:Nat) (k:Int),0<=k/\k<=p.text.length->k.toNat<f->l8 p B c f k<=p.text.length
 |0,k,a,d=>by omega
 |f+1,k,d,e=>by
  unfold l8;split
  ·rename_i h;have a:=b.lt k.toNat Y Y;exact Wo6 p B c b f (B.getD k.toNat 0) Y Y
  ·split
   ·rename_i g a;unfold Pt.same at a;split at a
    ·cases a
    ·omega
   ·omega
def Wht{i:Nat}{B:u_}(n:okB a B)(d:0<=j/\j<=i)(f:i<a):okB a (B.set (i+1) j):=by
 refine⟨by rw[GR];exact n.len,λk b c => ?_⟩;have g:=n.len;by_cases e:k=i+1
 ·subst e;have:(B.set (i+1) j).getD (i+1) 0=j:=by rw[y9,Aa Y];rfl
  rw[this];omega
 ·have:(B.set (i+1) j).getD k 0=B.getD k 0:=by rw[y9,CQ Y,<-y9]
  rw[this];exact n.lt k b c
def Whu(n:Nat):okB n (List.replicate (n+1) 0):=by
 refine⟨KR,λj a b => ?_⟩;have:(List.replicate (n+1) (0:Int)).getD j 0=0:=by rw[y9,Xd,A9a Y];rfl
 rw[this];omega
theorem P'(p:Pt):∀(f i:Nat) (k:Int) (B:u_),okB p.text.length B->0<=k/\k<i->okB p.text.length (qF p f i k B)
 |0,i,k,B,a,b=>a
 |f+1,i,k,B,a,c=>by
  unfold qF;split
  ·rename_i h;have d:=Wa0 p B (p.text.getD i 0) _ a (k.toNat+1) k Y Y;have b:0<=iv p B k (p.text.getD i 0)/\iv p B k (p.text.getD i 0)<=i:=by unfold iv;omega
   exact P' p f (i+1) _ _ (Wht a b h) Y
  ·exact a
def Oz(p:Pt):okB p.text.length (iK p):=P' p _ _ _ _ (Whu _) Y
section
variable(p:Pt)(q:jj p)
abbrev gy(p:Pt)(B:List Int):hN:=[.cells (dk p),.cells [.ad,.bool false,.ad],.cells (dm p (.hs 3 0 (p.text.length+1) 1 false)),.cells (Z B)]
def Whw(B:u_):Wf (gy p B):=by
 have a n:O.rb n (.cells (Z B)):=wB;have b n:O.rb n (.cells (dk p)):=Qsw;have c:O.rb 4 (.cells (dm p (.hs 3 0 (p.text.length+1) 1 T))):=by
  show V.aL 4 (dm p _);simp only[dm,go_sem]
  first|done|rfl
 unfold Wf;simp only[vT,xJ,Um,List.all_nil,a,b,c]
 first|done|rfl
def sj(B:u_)(a:okB p.text.length B):ta (gy p B) (.hs 3 0 (p.text.length+1) 1 T) p.text.length B:=by
 refine⟨Whw p B,rfl,rfl,rfl,λj b=>⟨.ptr 3 j,?_,rfl,λH => ?_⟩⟩
 ·exact yl Y
 ·exact Nl (by have:=a.len;omega)
include q
theorem Wa1:∀(f:Nat) (i:Nat) (k:Int) (B:u_),okB p.text.length B->0<=k/\k<i->i<=p.text.length+1->p.text.length+1-i<f->
  zz QaT 0 4 [.ptr 0 0,.ptr 1 0,.ptr 2 0,iI k,iI i] (gy p B)=W (.agg (gX p (qF p f i k B)),[])
 |0,i,k,B,a,b,c,d=>by omega
 |f+1,i,k,B,a,H,J,K=>by
  have L:=q.len;have r:=λI=>Xy p I;have d:ve 4 (gy p B)=W (gy p B):=Kk (Whw p B);have s:eL (gy p B) true 2 (.ptr 0 0)=W (.agg (dk p)):=rfl;have t:eL (gy p B) true 3 (.ptr 2 0)=W (.agg (dm p (.hs 3 0 (p.text.length+1) 1 T))):=rfl;have u:eL (gy p B) T 1 (.ptr 0 0)=W (.sl (Z p.text) .no):=rfl;have v:eL (gy p B) T 1 (.ptr 2 2)=W (.hs 3 0 (p.text.length+1) 1 T):=rfl;have g:∀o I,o<4->fz 4 I fzD (.ptr o 0)=W (.ptr o 0):=λo I h=>vC (by simp[V.rb];omega);have f0:=λI=>g 0 I Y;have f1:=λI=>g 1 I Y;have f2:=λI=>g 2 I Y;rw[FK];unfold qF;by_cases b:i<p.text.length
  ·rw[A9a b];have e:=Who p q i;have y:∀x,x=p.text.getD i 0->E cx 129 [.agg (dm p (.hs 3 0 (p.text.length+1) 1 T)),iI k,iI x] (gy p B)=W (iI (iv p B k x),gy p B):=λx z=>by
    subst z;refine((cQ X0K X0K ?_ rfl).trans (QbF ..)).trans (Whq p q B a (sj p B a) k _ e Y);rw[Qae,Qun];have:V.aL 0 (dm p (.hs 3 0 (p.text.length+1) 1 T))=T:=by simp[dm,V.aL,V.rb]
    rw[this];rfl
   have A:eI 1 (iI i) (.sl (Z p.text) .no)=W (.ai [iI (p.text.getD i 0)] 0):=by rw[Pj Y,zi]
   have C I x:eL I T 1 (.ai [iI x] 0)=W (iI x):=rfl;have D:eI 1 (iI ((i:Int)+1)) (.hs 3 0 (p.text.length+1) 1 T)=W (.ptr 3 (i+1)):=by exact yl (i:=i+1) Y
   have F x:u5 (gy p B) 1 (.ptr 3 (i+1)) (iI x) (iI x)=W (.undef,gy p (B.set (i+1) x)):=by
    have z:=a.len;have:u5 (gy p B) 1 (.ptr 3 (i+1)) (iI x) (iI x)=if(1:Nat)=1/\i+1+1<=(Z B).length/\yd [V.int .i64 x]=true then W (.undef,(gy p B).set 3 (.cells ((Z B).set (i+1) (iI x))))else none:=rfl
    rw[this,A9a ⟨rfl,by rw[BB];omega,rfl⟩,XM];rfl
   have G:=Wa0 p B (p.text.getD i 0) _ a (k.toNat+1) k Y Y;have j:0<=iv p B k (p.text.getD i 0)/\iv p B k (p.text.getD i 0)<=i:=by unfold iv;omega
   have w:=Wa1 f (i+1) (iv p B k (p.text.getD i 0)) (B.set (i+1) (iv p B k (p.text.getD i 0))) (Wht a j b) Y Y Y;have l x:ve 4 (gy p (B.set (i+1) x))=W (gy p (B.set (i+1) x)):=Kk (Whw p _);rw[show((i+1:Nat):Int)=(i:Int)+1 by omega]at w;have m:=y _ rfl;have n:=F (iv p B k (p.text.getD i 0));have c:=l (iv p B k (p.text.getD i 0));have M:(V.agg (dm p (.hs 3 0 (p.text.length+1) 1 T))).ng=.agg (dm p (.hs 3 0 (p.text.length+1) 1 T)):=rfl;simp -implicitDefEqProofs(disch:=try exact wK)only[go_sem,wM,r,s,t,u,v,f0,f1,f2,b,A,C,m,D,n,c,w]
  ·rw[O3 b];have m:u5 (gy p B) 3 (.ptr 1 0) (.agg (dm p (.hs 3 0 (p.text.length+1) 1 T))) (.agg (dm p (.hs 3 0 (p.text.length+1) 1 T)))=W (.undef,[.cells (dk p),.cells (dm p (.hs 3 0 (p.text.length+1) 1 T)),.cells (dm p (.hs 3 0 (p.text.length+1) 1 T)),.cells (Z B)]):=rfl;have w:il [.cells (dk p),.cells (dm p (.hs 3 0 (p.text.length+1) 1 T)),.cells (dm p (.hs 3 0 (p.text.length+1) 1 T)),.cells (Z B)] true 3 (.ptr 1 0)=W (.agg (dm p (.hs 3 0 (p.text.length+1) 1 T))):=rfl;have x:nK 0 [.cells (dk p),.cells (dm p (.hs 3 0 (p.text.length+1) 1 T)),.cells (dm p (.hs 3 0 (p.text.length+1) 1 T)),.cells (Z B)] (.agg (dm p (.hs 3 0 (p.text.length+1) 1 T)))=W (.agg (gX p B),[]):=by
    have n:=a.len;unfold nK;rw[Qz0,vQ];have e:V.rb 0 (.agg (dm p (.hs 3 0 (p.text.length+1) 1 T)))=T:=by simp[dm,V.aL,V.rb]
    have y I:fz 0 I 39 (.sl (Z p.text) .no)=W (.sl (Z p.text) .no):=vC (by simp only[go_sem]);have z:∀c j l:O,fz 0 [c,j,l,.cells (Z B)] 39 (.hs 3 0 (p.text.length+1) 1 T)=W (.sl (Z B) .no):=λc j l=>by rw[<-n];exact Wxz Y rfl
    have A I:fz 0 I fzD (.agg (dm p (.hs 3 0 (p.text.length+1) 1 T)))=((dm p (.hs 3 0 (p.text.length+1) 1 T)).mapM (fz 0 I 39)).bind λC=>W (V.agg C):=by unfold fzD;rw[show(40:Nat)=39+1 from rfl];rw[fz,e];rfl
    rw[A];have D:(dm p (.hs 3 0 (p.text.length+1) 1 T)).mapM (fz 0 [.cells (dk p),.cells (dm p (.hs 3 0 (p.text.length+1) 1 T)),.cells (dm p (.hs 3 0 (p.text.length+1) 1 T)),.cells (Z B)] 39)=W (gX p B):=by unfold dm gX;simp only[xw,Fe,y,z];rfl
    rw[D];rfl
   have F:(V.agg (dm p (.hs 3 0 (p.text.length+1) 1 T))).ng=.agg (dm p (.hs 3 0 (p.text.length+1) 1 T)):=rfl;simp -implicitDefEqProofs(disch:=try exact wK)only[go_sem,wM,r,s,t,u,v,f0,f1,f2,b,d,m,w,x]
theorem Qb(I:hN):E cx 115 [.agg (dk p)] I=W (.agg (gX p (iK p)),I):=by
 refine v_ X0K X0K ?_ (by simp only[go_sem]) I;have i:=q.len;have b:=λI=>Xy p I;have h:zz QaT 0 4 [.ptr 0 0,.ptr 1 0,.ptr 2 0,iI 0,iI 1] (gy p (List.replicate (p.text.length+1) 0))=W (.agg (gX p (iK p)),[]):=Wa1 p q (p.text.length+1) 1 0 (List.replicate (p.text.length+1) 0) (Whu _) Y Y Y;have c:∀I:hN,ZU [xN true 2 (.ptr 0 0),.made 2] I=some I:=λI=>rfl;have d:w_ [xN true 2 (.ptr 0 0),.made 2] [.cells (dk p),.cells [.ad,.bool T,.ad],.cells [.ad,.bool T,.ad]] [.cells (dk p),.cells [.ad,.bool T,.ad],.cells [.ad,.bool T,.ad]]=W [.cells (dk p),.cells [.ad,.bool T,.ad],.cells [.ad,.bool T,.ad]]:=by exact Np rfl rfl
 have mk:ej T 1 8 (iI 0) (iI ((p.text.length:Int)+1)) (iI ((p.text.length:Int)+1)) [.cells (dk p),.cells [.ad,.bool T,.ad],.cells [.ad,.bool T,.ad]]=W (.hs 3 0 (p.text.length+1) 1 T,[.cells (dk p),.cells [.ad,.bool T,.ad],.cells [.ad,.bool T,.ad]]++[.cells (Z (List.replicate (p.text.length+1) 0))]):=Waw (n:=p.text.length+1) Y;have e:mz [.ad,.bool T,.ad] [(0,2,.agg (dk p)),(2,1,.hs 3 0 (p.text.length+1) 1 T)]=W (.agg (dm p (.hs 3 0 (p.text.length+1) 1 T))):=rfl;have f:u5 ([.cells (dk p),.cells [.ad,.bool T,.ad],.cells [.ad,.bool T,.ad]]++[.cells (Z (List.replicate (p.text.length+1) 0))]) 3 (.ptr 2 0) (.agg (dm p (.hs 3 0 (p.text.length+1) 1 T))) (.agg (dm p (.hs 3 0 (p.text.length+1) 1 T)))=W (.undef,gy p (List.replicate (p.text.length+1) 0)):=rfl;have g H:eL (.cells (dk p)::H) true 2 (.ptr 0 0)=W (.agg (dk p)):=rfl;have a:(gy p (List.replicate (p.text.length+1) 0)).length=4:=rfl;rw[Sh];generalize[O.cells (dk p),.cells [.ad,.bool T,.ad],.cells [.ad,.bool T,.ad]]++[.cells (Z (List.replicate (p.text.length+1) 0))]=k,gy p (List.replicate (p.text.length+1) 0)=j at*;simp -implicitDefEqProofs(disch:=try exact wK)only[go_sem,Lx,b,g,c,d,mk,e,f,a,h]
end
inductive Mc where
 |never|exact(p:Pt)|worded (p:Pt)|eG (p:Pt)|begun (p:Pt)|ends (p:Pt)|part (p:Pt)|always
abbrev y8:=List Mc
def bm:Mc->V
 | .never=>.bE 186 (.agg [])
 | .exact p=>.bE 188 (.agg (dk p))
 | .worded p=>.bE 190 (.agg (dk p))
 | .eG p=>.bE 191 (.agg (dk p))
 | .begun p=>.bE 192 (.agg (dk p))
 | .ends p=>.bE 194 (.agg (gX p (iK p)))
 | .part p=>.bE 197 (.agg (gX p (iK p)))
 | .always=>.bE 198 (.agg [])
def Mc.pt:Mc->Pt
 | .never=>⟨[],false⟩ | .exact p=>p | .worded p=>p | .eG p=>p | .begun p=>p | .ends p=>p | .part p=>p | .always=>⟨[],false⟩
def KI:Mc->Int->Int->Int
 | .never,a,_=>a | .exact p,a,c=>l6 p a c | .worded p,a,c=>uY p a c | .eG p,a,c=>s9 p a c | .begun p,a,c=>s_ p a c
 | .ends p,a,c=>iv p (iK p) a c | .part p,a,c=>lT p (iK p) a c | .always,a,_=>a
def kC:Mc->Int->Bool
 | .never,_=>false | .exact p,a=>decide (a=p.text.length) | .worded p,a=>decide ((p.text.length:Int)<=a) | .eG p,a=>decide ((p.text.length:Int)<=a) | .begun p,a=>decide (a=p.text.length)
 | .ends p,a=>decide (a=p.text.length) | .part p,a=>decide (a=p.text.length) | .always,_=>true
def gw:Mc->Int->Prop
 | .never,a=>a=0 | .exact p,a => -1<=a/\a<=p.text.length | .worded p,a => -1<=a/\a<=p.text.length+1 | .eG p,a => -1<=a/\a<=p.text.length+1 | .begun p,a => -1<=a/\a<=p.text.length
 | .ends p,a=>0<=a/\a<=p.text.length | .part p,a=>0<=a/\a<=p.text.length | .always,a=>a=0
variable{b1:Mc}
def IG(h:gw b1 j):-1<=j/\j<=b1.pt.text.length+1:=by cases b1<;>simp only[gw,Mc.pt]at*<;>omega
def Wx0(m:Mc):gw m 0:=by cases m<;>simp only[gw]<;>omega
def Qsz(p:Pt)(st c:Int)(h:-1<=st):-1<=l6 p st c/\l6 p st c<=p.text.length:=by
 unfold l6;split
 ·omega
 ·split
  ·rename_i b a;unfold Pt.same at a;split at a
   ·cases a
   ·omega
  ·omega
def Qk(p:Pt)(st c:Int)(h:0<=st/\st<=p.text.length):0<=iv p (iK p) st c/\iv p (iK p) st c<=p.text.length:=
 ⟨(Wa0 p (iK p) c _ (Oz p) (st.toNat+1) st h Y).1,Wo6 p (iK p) c (Oz p) (st.toNat+1) st h Y⟩
def Whz(h:gw b1 j)(c:Int):gw b1 (KI b1 j c):=by
 cases b1 with
 |never=>exact h
 |always=>exact h
 |exact p=>exact Qsz p j c h.1
 |worded p=>
  have:=Qsz p j c h.1;simp only[gw,KI,uY]at*;split
  ·omega
  ·split
   ·omega
   ·split<;>omega
 |eG p=>have:=Qsz p j c h.1;simp only[gw,KI,s9]at*;split<;>omega
 |begun p=>have:=Qsz p j c h.1;simp only[gw,KI,s_]at*;split<;>omega
 |ends p=>exact Qk p j c h
 |part p=>have:=Qk p j c h;simp only[gw,KI,lT]at*;split<;>omega
def Up(m:Mc):V.rb a (bm m):=by cases m<;>simp only[bm,Qzz,Qun,Qsw,Qx0,xK]
attribute [go_sem] Up
def Qvd(m:Mc):(bm m).ng=bm m:=by cases m<;>rfl
def Wtf(m:Mc):V.one (bm m):=by cases m<;>rfl
def SB(m:Mc):(bm m).cells=[bm m]:=by cases m<;>rfl
def Wx1(k:Nat)(m:Mc):ny k (bm m)=W (.eQ k (bm m)):=by cases m<;>rfl
abbrev Wx2:List (TypeId×Bool):=[(186,false),(188,false),(189,true),(190,false),(191,false),(192,false),(194,false),(196,true),(197,false),(198,false)]
abbrev Wx3:List (TypeId×Bool):=[(186,false),(188,false),(189,true),(190,false),(191,false),(192,true),(194,false),(196,true),(197,true),(198,false)]
abbrev uG:List (TypeId×FuncId×Option (Nat×Nat)):=[(186,211,none),(188,213,none),(189,213,(some (0,2))),(190,215,none),(191,219,none),(192,220,none),(194,222,none),(196,222,(some (0,3))),(197,223,none),(198,225,none)]
abbrev uH:List (TypeId×FuncId×Option (Nat×Nat)):=[(186,210,none),(188,212,none),(189,212,(some (0,2))),(190,214,none),(191,218,none),(192,212,(some (0,2))),(194,221,none),(196,221,(some (0,3))),(197,221,(some (0,3))),(198,224,none)]
def Wx4(k:Nat)(m:Mc):O4 k Wx2 (.eQ k (bm m))=W (.eQ k (bm m)):=by cases m<;>simp[O4,bm,Wx2,U2]
def Wx5(k:Nat)(m:Mc):O4 k Wx3 (.eQ k (bm m))=W (.eQ k (bm m)):=by cases m<;>simp[O4,bm,Wx3,U2]
def Wx6(m:Mc)(a:jj m.pt)(st c:Int)(d:gw m st)(b:kJ c)(I:hN):KH QaT I (bm m) uG [iI st,iI c]=W (iI (KI m st c),I):=by
 have e:=a.len;have f:=IG d;cases m with
 |never=>exact Wm0 I st c
 |always=>exact Wm1 I st c
 |exact p=>exact XI p a I st c (by simp only[Mc.pt]at*; omega) b
 |worded p=>exact Wmy p a I st c (by simp only[Mc.pt]at*; omega) b
 |eG p=>exact Wmv p a I st c (by simp only[Mc.pt]at*; omega) b
 |begun p=>exact Wmw p a I st c (by simp only[Mc.pt]at*; omega) b
 |ends p=>exact XE p a I (iK p) (Oz p) st c b d
 |part p=>exact Wmz p a I (iK p) (Oz p) st c b d
def sk(m:Mc)(st:Int)(I:hN):KH QaT I (bm m) uH [iI st]=W (.bool (kC m st),I):=by
 cases m with
 |never=>exact Wtb I st
 |always=>exact Wtc I st
 |exact p=>exact Whr p I st
 |worded p=>exact Wte p I st
 |eG p=>exact Wtd p I st
 |begun p=>exact Whr p I st
 |ends p=>exact P_ p I (iK p) st
 |part p=>exact P_ p I (iK p) st
def e_(c:dQ):Pt:=⟨bP c.text,c.fold⟩
def bg(c:dQ):Mc:=
 if V5 c.op c.text then .never else if c.op=2 then .exact (e_ c)else if c.op=3 then .worded (e_ c)else if c.op=4 then .eG (e_ c)else if c.op=5 then .begun (e_ c)else if c.op=6 then .ends (e_ c)else if c.op=7 then .part (e_ c)else .always
def Wo7(h:fE a4):jj (e_ a4):=⟨by have:=Hu a4.text;have:=h.2;show(bP a4.text).length<=_;omega,Wo5 _⟩
def Wx7(h:fE a4):jj (bg a4).pt:=by
 have a:jj ⟨[],T⟩:=⟨u0,λa4 b=>by cases b⟩
 unfold bg
 repeat' split
 all_goals first|exact Wo7 h|exact a
def Wo8(c:dQ):(bg c).pt.text.length<=(bP c.text).length:=by
 unfold bg
 repeat' split
 all_goals first|exact vE _|exact wV _
def Wx8(c:dQ)(h:fE c)(I:hN):E cx 99 [eS c] I=W (bm (bg c),I):=by
 refine v_ X0K X0K ?_ rfl I;have b:=λI=>P3 c.text (by have:=h.2;omega) h.1 I;have a I:E cx 64 [.agg [iI c.op,.str c.text,.bool c.fold]] I=W (.bool (V5 c.op c.text),I):=Wgu c.op c.text c.fold (by have:=h.2;omega) I;have D:=λI=>Qb (e_ c) (Wo7 h) I;have d:∀I:hN,ZU [xN T 1 (.ptr 0 2),.made 1] I=some I:=λI=>rfl;have e:w_ [xN T 1 (.ptr 0 2),.made 1] [.cells (cq c),.cells [.ad,.bool T]] [.cells (cq c),.cells [.ad,.bool T]]=W [.cells (cq c),.cells [.ad,.bool T]]:=by exact Np rfl rfl
 have f:mz [.ad,.bool T] [(0,1,.sl (Z (bP c.text)) .no),(1,1,.bool c.fold)]=W (.agg (dk (e_ c))):=rfl;have g:u5 [.cells (cq c),.cells [.ad,.bool T]] 2 (.ptr 1 0) (.agg (dk (e_ c))) (.agg (dk (e_ c)))=W (.undef,[.cells (cq c),.cells (dk (e_ c))]):=rfl;have i:bK [] (.agg (cq c))=W (.ptr 0 0,[.cells (cq c)]):=rfl;have j:eL [.cells (cq c)] T 1 (.ptr 0 1)=W (.str c.text):=rfl;have l:eL [.cells (cq c)] T 1 (.ptr 0 2)=W (.bool c.fold):=rfl;have m:eL [.cells (cq c),.cells (dk (e_ c))] true 3 (.ptr 0 0)=W (.agg (cq c)):=rfl;have o:eL [.cells (cq c),.cells (dk (e_ c))] T 1 (.ptr 0 0)=W (iI c.op):=rfl;have p:eL [.cells (cq c),.cells (dk (e_ c))] true 2 (.ptr 1 0)=W (.agg (dk (e_ c))):=rfl;have b2:mz [.ad,.bool T] [(0,2,.agg (dk (e_ c)))]=W (.agg (dk (e_ c))):=rfl;have K:mz [.ad,.bool T,.ad] [(0,3,.agg (gX (e_ c) (iK (e_ c))))]=W (.agg (gX (e_ c) (iK (e_ c)))):=rfl;have z:∀t x (I:hN),V.aL 0 x->nK 0 I (.bE t (.agg x))=W (.bE t (.agg x),[]):=λt x I L=>Wru (by rw[Qzz,Qun];exact L);have v:=λt I=>z t (dk (e_ c)) I Qsw;have F:=λt I=>z t (gX (e_ c) (iK (e_ c))) I Qx0;have G:=λt I=>z t [] I rfl;rw[Sj];unfold bg;change ∀I,E cx 64 [.agg (cq c)] I=_ at a;simp only[eS]at*;generalize w:dk (e_ c)=A at*;generalize H:gX (e_ c) (iK (e_ c))=B at*;cases J:V5 c.op c.text with
 |true=>rw[J]at a;show _=W (V.bE 186 (.agg []),[]);simp -implicitDefEqProofs(disch:=try exact wK)only[go_sem,Lz,i,j,l,d,b,e,f,g,m,a,G]
 |false=>
  rw[J]at a;simp only[vD,A9d];generalize c.op=k at*;by_cases n:k=2
  ·subst n;show _=W (V.bE 188 (.agg (dk (e_ c))),[]);rw[w];have q:(2:Int)=2:=rfl;simp -implicitDefEqProofs(disch:=try exact wK)only[go_sem,Lz,i,j,l,d,b,e,f,g,m,a,o,p,b2,v,q]
  ·rw[O3 n];by_cases r:k=3
   ·subst r;show _=W (V.bE 190 (.agg (dk (e_ c))),[]);rw[w];have q:(3:Int)=3:=rfl;simp -implicitDefEqProofs(disch:=try exact wK)only[go_sem,Lz,i,j,l,d,b,e,f,g,m,a,o,p,b2,v,n,q]
   ·rw[O3 r];by_cases s:k=4
    ·subst s;show _=W (V.bE 191 (.agg (dk (e_ c))),[]);rw[w];have q:(4:Int)=4:=rfl;simp -implicitDefEqProofs(disch:=try exact wK)only[go_sem,Lz,i,j,l,d,b,e,f,g,m,a,o,p,b2,v,n,r,q]
    ·rw[O3 s];by_cases u:k=5
     ·subst u;show _=W (V.bE 192 (.agg (dk (e_ c))),[]);rw[w];have q:(5:Int)=5:=rfl;simp -implicitDefEqProofs(disch:=try exact wK)only[go_sem,Lz,i,j,l,d,b,e,f,g,m,a,o,p,b2,v,n,r,s,q]
     ·rw[O3 u];by_cases y:k=6
      ·subst y;show _=W (V.bE 194 (.agg (gX (e_ c) (iK (e_ c)))),[]);rw[H];have q:(6:Int)=6:=rfl;simp -implicitDefEqProofs(disch:=try exact wK)only[go_sem,Lz,i,j,l,d,b,e,f,g,m,a,o,p,D,F,n,r,s,u,q]
      ·rw[O3 y];by_cases C:k=7
       ·subst C;show _=W (V.bE 197 (.agg (gX (e_ c) (iK (e_ c)))),[]);rw[H];have q:(7:Int)=7:=rfl;simp -implicitDefEqProofs(disch:=try exact wK)only[go_sem,Lz,i,j,l,d,b,e,f,g,m,a,o,p,D,K,F,n,r,s,u,y,q]
       ·rw[O3 C];show _=W (V.bE 198 (.agg []),[]);simp -implicitDefEqProofs(disch:=try exact wK)only[go_sem,Lz,i,j,l,d,b,e,f,g,m,a,o,p,G,n,r,s,u,y,C]
structure jO {α:Type} (f:α->V) (I:hN) (aV:V) (l:List α):Prop where
 wf:Wf I
 rb:V.rb I.length aV=true
 no:aV.ng=aV
 len:Qai aV=some (.int .i64 l.length)
 rd:∀(q r:List α) (x:α),l=q++x::r->∃pV,eI 1 (.int .i64 q.length) aV=some pV/\pV.ng=pV/\∀H,eL (I++H) false 1 pV=some (f x)
variable{b3:Type}
def KJ{f:b3->V}(d:∀x,(f x).ng=f x){I:hN}{l:List b3}(e:Wf I)(b:hN.get I a=W (l.map f)):jO f I (.hs a 0 l.length 1 T) l:=by have g:=Ct b;refine⟨e,by simp[V.rb,g],rfl,rfl,λq r x c=>⟨.ptr a q.length,yl (by rw[c];simp),rfl,λH => ?_⟩⟩;show(hN.get (I++H) a).bind (λh=>Ev.part T 1 h q.length)=_;rw[hN.cd b];simp only[va,Ev.part,vD,A9d,A9c];rw[c];simp[d]
def Qve{f:b3->V}(c:∀x,(f x).ng=f x)(b:∀x,(f x).cells=[f x])(d:∀n x,V.rb n (f x)){I:hN}{l:List b3}(e:Wf I):jO f I (.sl (l.map f) .no) l:=by
 refine⟨e,AM (d _),rfl,?_,λq r x g=>⟨.ai [f x] 0,?_,rfl,λH => ?_⟩⟩
 ·show W (V.int .i64 ((l.map f).length:Nat))=_;rw[wq]
 ·have:=KZ (s:=.row l) (k:=.i64) (sz:=1) g rfl (by rw[b];rfl);rw[b]at this;exact this
 ·show W (V.ng (f x))=_;rw[c]
def bV(b:UInt8):V:=.int .u8 b.toNat
variable{a7:u2}
def Wu{l m:u2}{I:hN}{c:bU}(a:m≠[])(b:l.length+m.length<=Qaq):aT T T 1 1 I (vG bV 1 l) (.sl (u4 m) c)=W (vG bV 1 (l++m)):=by
 cases l with
 |nil=>
  cases m with
  |nil=>exact absurd rfl a
  |cons y r=>have d:=DU (ag:=T) (l:=y::r) (f:=bV) (λ_=>rfl) (λ_=>rfl) (λ_=>rfl);unfold aT;simp only[Nv,vD,A9d,Nq,u7,va];show RE T 1 1 .ad ((y::r).map bV)=_;unfold RE;rw[d,A9a rfl];simp only[xc,vT,wq];rw[O3 u0,A9a (by simpa using b)];rfl
 |cons y r=>exact yC (λ_=>rfl) (λ_=>rfl) (λ_=>rfl) (.inr rfl) a (by simpa using b)
def Wtg{m:u2}{I:hN}(a:m≠[])(b:a7.length+m.length<=Qaq):aT true T 1 1 I (vG bV 1 a7) (.str m)=W (vG bV 1 (a7++m)):=Wu (c:=.no) (I:=I) a b
def Wx9:(vG bV 1 a7).ng=ae bV (ak a7):=h7
def Wa2{l:u2}{I:hN}:eC I .bh (ae bV (ak l))=W (.str l):=by
 cases l with
 |nil=>rfl
 |cons y r=>show(bytesOf (u4 (y::r))).map V.str=_;rw[QF];rfl
def Wth{s:u2}{k':IntKind}{b:Int}(h:0<=j/\j<=b/\b<=s.length):AP (.str s) (W (.int a6 j)) (W (.int k' b))=W (.str ((s.drop j.toNat).take (b.toNat-j.toNat))):=by
 have c:vr (.int k' b) s.length=W b.toNat:=by simp[vr];omega
 have d:vr (.int a6 j) b.toNat=W j.toNat:=by simp[vr];omega
 simp only[AP,vI,JK,c,d,u7,va,AK,reduceCtorEq,A9d]
def hV(n:Int):u2:=if n<0 then[45,49]else[UInt8.ofNat (48+n.toNat)]
def tV:u2:=[48,49,50,51,52,53,54,55,56,57,97,98,99,100,101,102,103,104,105,106,107,108,109,110,111,112,113,114,115,116,117,118,119,120,121,122]
def Wya:∀k:Fin 10,((tV.drop k.val).take (k.val+1-k.val))=[UInt8.ofNat (48+k.val)]:=by decide
def Wti(h:0<=F/\F<10)(I:hN):E cx 165 [iI F] I=W (.str [UInt8.ofNat (48+F.toNat)],I):=by
 refine v_ X0K X0K ?_ rfl I;have a:AP (.str [48,49,50,51,52,53,54,55,56,57,97,98,99,100,101,102,103,104,105,106,107,108,109,110,111,112,113,114,115,116,117,118,119,120,121,122]) (W (iI F)) (W (iI (F+1)))=W (.str [UInt8.ofNat (48+F.toNat)]):=by rw[Wth yZ];have:=Wya ⟨F.toNat,by omega⟩;simp only at this;rw[show(F+1).toNat=F.toNat+1 by omega];exact A9e (λs=>W (V.str s)) this
 have b:=h.2;rw[QdH];simp -implicitDefEqProofs(disch:=try exact wK)only[go_sem,Ij,b,a]
def P9(i:D.length<=1000000)(n:Int)(h:0<=n/\n<10)(I:hN)(a:Wf I):E cx 162 [vG bV 1 D,.int .u64 n,iI 10] I=W (vG bV 1 (D++[UInt8.ofNat (48+n.toNat)]),I):=by
 have b:=λI=>Wti n h I;have c I:aT true T 1 1 I (vG bV 1 D) (.str [UInt8.ofNat (48+n.toNat)])=W (vG bV 1 (D++[UInt8.ofNat (48+n.toNat)])):=Wtg u0 (by simp[Qaq];omega);have d:n<100:=by omega
 have e:IntKind.i64.wrap n=n:=uu Y;have f:oK true (vG bV 1 (D++[UInt8.ofNat (48+n.toNat)]))=W (vG bV 1 (D++[UInt8.ofNat (48+n.toNat)])):=by cases j:D++[UInt8.ofNat (48+n.toNat)]<;>rfl
 have g:nK I.length I (vG bV 1 (D++[UInt8.ofNat (48+n.toNat)]))=W (vG bV 1 (D++[UInt8.ofNat (48+n.toNat)]),I):=yg a (Qc3 λ_=>rfl);rw[Sz];simp only[go_sem,LQ,b,c,d,e,f,g]
def Qx1(q:D.length<=100000)(n:Int)(h:-1<=n/\n<10)(I:hN)(a:Wf I):E cx 147 [vG bV 1 D,iI n,iI 10] I=W (vG bV 1 (D++hV n),I):=by
 have b:oK true (vG bV 1 (D++hV n))=W (vG bV 1 (D++hV n)):=by cases r:D++hV n<;>rfl
 have d:nK I.length I (vG bV 1 (D++hV n))=W (vG bV 1 (D++hV n),I):=yg a (Qc3 λ_=>rfl);have e:E cx 158 [vG bV 1 D,iI n,iI 10] I=W (vG bV 1 (D++hV n),I):=by
  rw[SA];by_cases f:n<0
  ·obtain rfl:n = -1:=by omega
   have i:hV (-1)=[45,49]:=rfl;have g:=P9 (D++[45]) yZ 1 Y I a;have j:D++[45]++[UInt8.ofNat (48+(1:Int).toNat)]=D++hV (-1):=by rw[i];simp
   rw[j]at g;have k:wS T 1 1 (.int .u8 0) [(0,.int .u8 45)]=W (.sl (u4 [45]) .fx):=rfl;have m c:aT T T 1 1 I (vG bV 1 D) (.sl (u4 [45]) c)=W (vG bV 1 (D++[45])):=Wu u0 (by simp[Qaq];omega);have o:eC I (.toInt .u64) (iI (-1))=W (.int .u64 18446744073709551615):=rfl;have p:fk .neg (.int .u64 18446744073709551615)=W (.int .u64 1):=rfl;simp only[go_sem,Ft,pF,g,k,m,o,p,b,d]
  ·have g:hV n=[UInt8.ofNat (48+n.toNat)]:=by unfold hV;rw[O3 f]
   have c:=P9 D Y n Y I a;rw[<-g]at c;have i:eC I (.toInt .u64) (iI n)=W (.int .u64 n):=by show W (V.int .u64 (IntKind.u64.wrap n))=_;simp only[IntKind.wrap_u64];congr 2;omega
   simp only[go_sem,Ft,pF,c,i,f,b,d]
 rw[Sn];simp only[go_sem,LD,e,b,d]
section
variable{u:Type}{f:u->V}
theorem Qkk(a:∀x,(f x).ng=f x):∀(r p z:List u),vk T 1 ((p++(r++z)).map f) r.length p.length=W (r.map f)
 |[],p,z=>rfl
 |b::r,p,z=>by
  have h:=Qkk a r (p++[b]) z;rw[wL]at h;simp only[vW,vT,xJ,AJ,xQ,xr]at h;have c:Ev.part T 1 ((p++(b::(r++z))).map f) p.length=W (f b):=by simp[Ev.part,a]
  rw[vT];simp only[AJ,vk,c,h,u7,va,AK];rfl
theorem Qs0(a:∀n x,V.rb n (f x)){n d:Nat}{I:hN}:∀l:List u,(l.map f).mapM (fz n I d)=W (l.map f)
 |[]=>rfl
 |x::r=>by have b:=Qs0 a (n:=n) (d:=d) (I:=I) r;rw[xc,xw,vC (a n x),b];rfl
def Wh0(a:∀x,(f x).ng=f x)(b:∀n x,V.rb n (f x)){n d o:Nat}{I:hN}{A:List u}(g:n<=o)(c:hN.get I o=W (A.map f)):fz n I (d+1) (.hs o 0 A.length 1 T)=W (.sl (A.map f) .no):=by
 have h:=Qkk a A [] [];simp only[xQ,wt,xJ]at h;have e:V.rb n (.hs o 0 A.length 1 T)=T:=by simp[V.rb];omega
 unfold fz;rw[e];simp only[vD,A9d,u7,AK,c,va,h,Qs0 b]
def Wm2{o:Nat}{l:u2}(a:hN.get d o=W (u4 l)):eC d .bh (.hs o 0 l.length 1 T)=W (.str l):=by have h:=Qkk (f:=bV) (λ_=>rfl) l [] [];simp only[xQ,wt,xJ]at h;have b:vk T 1 (u4 l) l.length 0=W (u4 l):=h;simp only[eC,Nq,a,u7,va,b,QF,A0]
def OB{I:hN}{n:Nat}(b:e.cells=[e])(c:yd [e])(d:eg T e)(h:n*a<=Qaq):ej T 1 a e (iI n) (iI n) I=W (.hs I.length 0 n 1 T,I++[.cells (List.replicate n e)]):=by
 unfold ej;have z:(List.replicate n e).flatMap V.cells=List.replicate n e:=by
  clear h;induction n with
  |zero=>rfl
  |succ n f=>rw[Gu,AR,f,b];rfl
 simp only[Et,u7,va,zi,z,b];rw[A9a ⟨by omega,by omega,by rw[<-Qy];exact Int.ofNat_le.2 h,rfl,c,d⟩]
def Qkl{I:hN}{cs:uZ}:(I++[O.cells cs]).set I.length (.cells g)=I++[.cells g]:=u0
def Wtj{cs:uZ}(b:a<cs.length):u5 (d++[.cells cs]) 1 (.ptr d.length a) (.int a6 j) (.int a6 j)=W (.undef,d++[.cells (cs.set a (.int a6 j))]):=by
 have:u5 (d++[.cells cs]) 1 (.ptr d.length a) (.int a6 j) (.int a6 j)=(hN.get (d++[.cells cs]) d.length).bind λk=>if(1:Nat)=1/\a+1<=k.length/\yd [V.int a6 j]=true then W (.undef,((d++[O.cells cs]:hN).set d.length (O.cells (k.set a (.int a6 j))):hN))else none:=rfl
 rw[this,wJ,va,A9a ⟨rfl,by omega,rfl⟩,Qkl]
def Wh1:(g++e::U).set g.length M=g++M::U:=u0
def VS{I:hN}{cs:uZ}(h:Wf I)(a:V.aL (I.length+1) cs):Wf (I++[.cells cs]):=MS h λx b=>by obtain rfl:=vR.1 b;exact a
def Qx2{I:hN}{cs:uZ}(h:Wf I)(a:V.aL (I.length+1) cs):ve (I.length+1) (I++[.cells cs])=W (I++[.cells cs]):=by
 have:=Kk (VS h a)
 rwa[vW]at this
end
def aE(l:u_):u2:=l.flatMap λn=>hV n++[44]
def Wtk:(hV F).length<=2:=by unfold hV;split<;>simp
abbrev Iv:Int->V:=V.int .i64
section
variable{I:hN}{u:V}
theorem XY{l:u_}(a:jO Iv I u l)(m:l.length<=10000)(i:∀x∈l,-1<=x/\x<10):∀(r q:u_) (b:u2),l=q++r->b.length+3*r.length<=90000->
  A9 QaT I.length I.length [vG bV 1 b,u,iI l.length,iI q.length] I=W (.str (b++aE r),I)
 |[],q,b,e,o=>by
  have f:¬(q.length:Int)<l.length:=by rw[e];simp
  have g:=a.wf;have c:=Kk g;have h d:fz I.length d fzD (vG bV 1 b)=W (vG bV 1 b):=vC (Qc3 λ_=>rfl);have j:(vG bV 1 b).ng=ae bV (ak b):=Wx9;have k d:eC d .bh (ae bV (ak b))=W (.str b):=Wa2;have n:b++aE []=b:=by simp[aE]
  rw[FO,n];simp -implicitDefEqProofs(disch:=try exact wK)only[go_sem,A8,f,h,c,j,k]
 |x::r,q,b,f,n=>by
  have k:l.length=q.length+r.length+1:=by rw[f];simp;omega
  have o:(q.length:Int)<l.length:=by omega
  have j:=a.wf;have e:=Kk j;have D:=Wtk x;rw[vT]at n;have⟨E,t,v,d⟩:=a.rd q r x f;have d:=d [];rw[wt]at d;have d:=d;have w:=Qx1 b Y x (i x (by rw[f];simp)) I j;have y:wS T 1 1 (.int .u8 0) [(0,.int .u8 44)]=W (.sl (u4 [44]) .fx):=rfl;have z c:aT T T 1 1 I (vG bV 1 (b++hV x)) (.sl (u4 [44]) c)=W (vG bV 1 (b++hV x++[44])):=Wu u0 (by simp[Qaq];omega);have h:=XY a m i r (q++[x]) (b++hV x++[44]) (by rw[f];simp) yZ;rw[show((q++[x]).length:Int)=q.length+1 by simp]at h;have s:b++hV x++[44]++aE r=b++aE (x::r):=by simp[aE]
  rw[s]at h;have A g:fz I.length g fzD u=some u:=vC a.rb;have p g:fz I.length g fzD (vG bV 1 (b++hV x++[44]))=W (vG bV 1 (b++hV x++[44])):=vC (Qc3 λ_=>rfl);have B:=a.no;rw[FO];generalize l.length=L,u4 [44]=C,vG bV 1 b=G,vG bV 1 (b++hV x)=H,vG bV 1 (b++hV x++[44])=F at*;simp -implicitDefEqProofs(disch:=try exact wK)only[go_sem,A8,o,t,v,d,w,y,z,A,p,B,e,h]
def Wyb(a:jO Iv I u i)(b:i.length<=10000)(c:∀x∈i,-1<=x/\x<10):LB QaT u I=W (.str (aE i),I):=by have h:A9 QaT I.length I.length [.ad,u,iI i.length,iI 0] I=W (.str (aE i),I):=XY a b c i [] [] rfl yZ;have d:=a.no;have e:=a.len;have f g:fz I.length g fzD u=some u:=vC a.rb;simp only[go_sem,LB,d,e,f,h]
def sn(a:w.length<=10000)(b:∀x∈w,-1<=x/\x<10)(I:hN):E cx 130 [.sl (Z w) .no] I=W (.str (aE w),I):=by refine v_ X0K X0K ?_ (by simp only[go_sem]) I;rw[Sm];exact(A9e (Option.bind · (u1 [])) (Wyb (Qve (λ_=>rfl) (λ_=>rfl) (λ_ _=>rfl) zM) a b)).trans yB
def Wh2:V.aL 0 [V.hs a 0 G 1 T]=T:=by simp[V.aL,V.rb]
def Wyc(b:Wf I)(o:hN.get I a=W (Z i))(c:i.length<=10000)(d:∀x∈i,-1<=x/\x<10):E cx 130 [.hs a 0 i.length 1 T] I=W (.str (aE i),I):=
 ((cQ X0K X0K Wh2 (JA o)).trans (KC ..)).trans (Wyb (KJ (λ_=>rfl) b o) c d)
def b2(h:Bool):UInt8:=if h then 1 else 0
def aQ(l:List Bool):u2:=l.map b2
abbrev Bv:Bool->V:=V.bool
theorem Wa4{l:List Bool}(c:jO Bv I u l)(v:l.length<=10000):∀(r q:List Bool),l=q++r->
  A5 QaT I.length (I.length+1) [.hs I.length 0 l.length 1 T,u,iI l.length,iI q.length] (I++[.cells (u4 (aQ q++List.replicate r.length 0))])=W (.str (aQ l),I)
 |[],q,b=>by
  have e:¬(q.length:Int)<l.length:=by rw[b];simp
  have f:aQ q++List.replicate 0 0=aQ l:=by rw[b];simp
  have d:=c.wf;rw[xJ,f];have a:=Qx2 (cs:=u4 (aQ l)) d Ex;have g h:fz (I.length+1) h fzD (.hs I.length 0 l.length 1 T)=W (.hs I.length 0 l.length 1 T):=vC (by simp[V.rb]);have i:eC (I++[O.cells (u4 (aQ l))]) .bh (.hs I.length 0 l.length 1 T)=W (.str (aQ l)):=by
   have:=Wm2 (o:=I.length) (l:=aQ l) wJ
   rwa[show(aQ l).length=l.length by simp[aQ]]at this
  have j:nK I.length (I++[O.cells (u4 (aQ l))]) (.str (aQ l))=W (.str (aQ l),I):=VO d rfl;rw[FL];simp only[go_sem,vq,e,a,g,i,j]
 |x::r,q,h=>by
  have n:l.length=q.length+r.length+1:=by rw[h];simp;omega
  have k:(q.length:Int)<l.length:=by omega
  have y:=c.wf;have⟨z,o,p,g⟩:=c.rd q r x h;have g:eL (I++[.cells (u4 (aQ q++List.replicate (x::r).length 0))]) T 1 z=W (.bool x):=g _;have f:=Wa4 c v r (q++[x]) (by rw[h];simp);rw[show((q++[x]).length:Int)=q.length+1 by simp]at f;have w:aQ (q++[x])++List.replicate r.length 0=aQ q++b2 x::List.replicate r.length 0:=by simp[aQ]
  rw[w]at f;have d:=λb=>Qx2 (cs:=u4 b) y Ex;have m i:fz (I.length+1) i fzD (.hs I.length 0 l.length 1 T)=W (.hs I.length 0 l.length 1 T):=vC (by simp[V.rb]);have s i:fz (I.length+1) i fzD u=some u:=vC (xI (GX _) c.rb);have t:=c.no;have A:eI 1 (iI q.length) (.hs I.length 0 l.length 1 T)=W (.ptr I.length q.length):=yl Y;rw[FL];cases x with
  |false=>have j:b2 T::List.replicate r.length 0=List.replicate (T::r).length 0:=rfl;rw[j]at f;have e:=d (aQ q++List.replicate (T::r).length 0);generalize l.length=L,V.hs I.length 0 l.length 1 T=B,I++[O.cells (u4 (aQ q++List.replicate (T::r).length 0))]=a at*;simp -implicitDefEqProofs(disch:=try exact wK)only[go_sem,vq,vp,k,o,p,g,e,m,s,t,f]
  |true=>
   have C:u5 (I++[.cells (u4 (aQ q++List.replicate (true::r).length 0))]) 1 (.ptr I.length q.length) (.int .u8 1) (.int .u8 1)=W (.undef,I++[.cells (u4 (aQ q++b2 true::List.replicate r.length 0))]):=by
    rw[Wtj (by rw[U8];simp[aQ])];have:(u4 (aQ q++List.replicate (true::r).length 0)).set q.length (.int .u8 1)=u4 (aQ q++b2 true::List.replicate r.length 0):=by
     unfold u4;rw[yW,yW,vT,Gu,xc,xc];have e:q.length=((aQ q).map λb=>V.int .u8 b.toNat).length:=by simp[aQ]
     rw[e,Wh1];rfl
    rw[this]
   have j:=d (aQ q++b2 true::List.replicate r.length 0);generalize I++[O.cells (u4 (aQ q++List.replicate (true::r).length 0))]=a,I++[O.cells (u4 (aQ q++b2 true::List.replicate r.length 0))]=E at*;have D:(V.hs I.length 0 l.length 1 T).ng=.hs I.length 0 l.length 1 T:=rfl;generalize l.length=L,V.hs I.length 0 l.length 1 T=B at*;simp -implicitDefEqProofs(disch:=try exact wK)only[go_sem,vq,vp,k,o,p,g,A,D,C,j,m,s,t,f]
def Wyd{l:List Bool}(a:jO Bv I u l)(d:l.length<=10000):Ly QaT u I=W (.str (aQ l),I):=by
 have h:A5 QaT I.length (I.length+1) [.hs I.length 0 l.length 1 T,u,iI l.length,iI 0] (I++[.cells (u4 (List.replicate l.length 0))])=W (.str (aQ l),I):=Wa4 a d l [] rfl;have e:=a.no;have f:=a.len;have b:(I++[O.cells (u4 (List.replicate l.length 0))]).length=I.length+1:=u0;have g c:fz (I.length+1) c fzD u=some u:=vC (xI (GX _) a.rb);have i c:fz (I.length+1) c fzD (.hs I.length 0 l.length 1 T)=W (.hs I.length 0 l.length 1 T):=vC (by simp[V.rb]);have mk:ej T 1 1 (.int .u8 0) (iI l.length) (iI l.length) I=W (.hs I.length 0 l.length 1 T,I++[.cells (u4 (List.replicate l.length 0))]):=by
  rw[OB rfl rfl rfl (by unfold Qaq;omega)];have:List.replicate l.length (V.int .u8 0)=u4 (List.replicate l.length 0):=by unfold u4;rw[KV];rfl
  rw[this]
 simp only[go_sem,Ly,e,f,g,i,mk,b,h]
def so(a:b4.length<=10000)(I:hN):E cx 100 [.sl (b4.map Bv) .no] I=W (.str (aQ b4),I):=by refine v_ X0K X0K ?_ (by rw[Qae,Dg,AM λ_=>rfl];rfl) I;rw[Si];exact(A9e (Option.bind · (u1 [])) (Wyd (Qve (λ_=>rfl) (λ_=>rfl) (λ_ _=>rfl) zM) a)).trans yB
def Wye{o:Nat}{l:List Bool}(b:Wf I)(a:hN.get I o=W (l.map Bv))(c:l.length<=10000):E cx 100 [.hs o 0 l.length 1 T] I=W (.str (aQ l),I):=
 ((cQ X0K X0K Wh2 (JA a)).trans (IS ..)).trans (Wyd (KJ (λ_=>rfl) b a) c)
end
def Wa5:∀b:Fin 64,(BitVec.ofInt 8 128|||BitVec.ofInt 8 (b.val:Int)).toNat=128+b.val/\(b.val<32->(BitVec.ofInt 8 192|||BitVec.ofInt 8 (b.val:Int)).toNat=192+b.val)/\(b.val<16->(BitVec.ofInt 8 224|||BitVec.ofInt 8 (b.val:Int)).toNat=224+b.val)/\(b.val<8->(BitVec.ofInt 8 240|||BitVec.ofInt 8 (b.val:Int)).toNat=240+b.val):=by decide
section
variable{b:Int}
def Wtl(h:0<=b/\b<64):eB .or .no (.int .u8 128) (.int .u8 b)=W (.int .u8 (128+b)):=by
 obtain⟨n,rfl⟩:∃n:Nat,b=n:=⟨b.toNat,by omega⟩
 have a:=(Wa5 ⟨n,by omega⟩).1;simp only at a;show W (V.int .u8 (IntKind.u8.wrap ((BitVec.ofInt 8 128|||BitVec.ofInt 8 (n:Int)).toNat:Int)))=_;rw[a,w8 Y];congr 2
def sq(h:0<=b/\b<32):eB .or .no (.int .u8 192) (.int .u8 b)=W (.int .u8 (192+b)):=by
 obtain⟨n,rfl⟩:∃n:Nat,b=n:=⟨b.toNat,by omega⟩
 have a:=(Wa5 ⟨n,by omega⟩).2.1 (by simp only;omega);simp only at a;show W (V.int .u8 (IntKind.u8.wrap ((BitVec.ofInt 8 192|||BitVec.ofInt 8 (n:Int)).toNat:Int)))=_;rw[a,w8 Y];congr 2
def sr(h:0<=b/\b<16):eB .or .no (.int .u8 224) (.int .u8 b)=W (.int .u8 (224+b)):=by
 obtain⟨n,rfl⟩:∃n:Nat,b=n:=⟨b.toNat,by omega⟩
 have a:=(Wa5 ⟨n,by omega⟩).2.2.1 (by simp only;omega);simp only at a;show W (V.int .u8 (IntKind.u8.wrap ((BitVec.ofInt 8 224|||BitVec.ofInt 8 (n:Int)).toNat:Int)))=_;rw[a,w8 Y];congr 2
def ss(h:0<=b/\b<8):eB .or .no (.int .u8 240) (.int .u8 b)=W (.int .u8 (240+b)):=by
 obtain⟨n,rfl⟩:∃n:Nat,b=n:=⟨b.toNat,by omega⟩
 have a:=(Wa5 ⟨n,by omega⟩).2.2.2 (by simp only;omega);simp only at a;show W (V.int .u8 (IntKind.u8.wrap ((BitVec.ofInt 8 240|||BitVec.ofInt 8 (n:Int)).toNat:Int)))=_;rw[a,w8 Y];congr 2
def Wtm(h:0<=b/\b<=255):eB .and .no (.int .u8 b) (.int .u8 63)=W (.int .u8 (b%64)):=by
 obtain⟨m,rfl⟩:∃m:Nat,b=m:=⟨b.toNat,by omega⟩
 have a:(BitVec.ofInt 8 (m:Int)&&&BitVec.ofInt 8 63).toNat=m%64:=by
  rw[BitVec.toNat_and];have c:(BitVec.ofInt 8 (m:Int)).toNat=m:=by simp[BitVec.toNat_ofInt];omega
  have d:(BitVec.ofInt 8 63).toNat=2^6-1:=rfl;rw[c,d,W']
 show W (V.int .u8 (IntKind.u8.wrap (BitVec.ofInt 8 (m:Int)&&&BitVec.ofInt 8 63).toNat))=_;rw[a,w8 Y];congr 2
def tW:eB .shr .no (.int .i32 b) (.int .u64 6)=W (.int .i32 (b/64)):=by show W (V.int .i32 (b.fdiv 64))=_;rw[T6 _ (by decide)]
def su:eB .shr .no (.int .i32 b) (.int .u64 12)=W (.int .i32 (b/4096)):=by show W (V.int .i32 (b.fdiv 4096))=_;rw[T6 _ (by decide)]
def sv:eB .shr .no (.int .i32 b) (.int .u64 18)=W (.int .i32 (b/262144)):=by show W (V.int .i32 (b.fdiv 262144))=_;rw[T6 _ (by decide)]
def Wh3:eC d (.toInt .u8) (.int .i32 b)=W (.int .u8 (b%256)):=by show W (V.int .u8 (IntKind.u8.wrap b))=_;simp only[IntKind.wrap_u8]
def U0(h:0<=b/\b<=1114111):eC d (.toInt .u32) (.int .i32 b)=W (.int .u32 b):=by show W (V.int .u32 (IntKind.u32.wrap b))=_;simp only[IntKind.wrap_u32];congr 2;omega
def Wpa(h:0<=b/\b<=1114111):eC d (.toInt .i32) (iI b)=W (.int .i32 b):=by show W (V.int .i32 (IntKind.i32.wrap b))=_;rw[uv Y]
end
def l9(h:0<=j/\j<=255):[V.int .u8 j]=u4 [dz j]:=by simp[u4,Dp h]
def kD{s:u2}(h:0<=j/\j<=255)(a:g=u4 s):V.int .u8 j::g=u4 (dz j::s):=by rw[a];simp[u4,Dp h]
section
variable(l:u2)(z:l.length<=1000000000)(c:Int)(q:Qbn c=true)(I:hN)(u:Wf I)
include z q u
theorem Wm3(w:128<=c):E cx 164 [vG bV 1 l,.int .i32 c] I=W (vG bV 1 (l++bo c),I):=by
 have n:=La q;have H:c<55296\/57343<c:=by unfold Qbn at q;simp only[vc,zH,A9f]at q;exact q.2
 have e:oK true (vG bV 1 (l++bo c))=W (vG bV 1 (l++bo c)):=by cases J:l++bo c<;>rfl
 have f:nK I.length I (vG bV 1 (l++bo c))=W (vG bV 1 (l++bo c),I):=yg u (Qc3 λ_=>rfl);have g A:aT T T 1 1 I (vG bV 1 l) (.sl (u4 (bo c)) A)=W (vG bV 1 (l++bo c)):=Wu (Wgf c) (by have:=(Jr c).2;unfold Qaq;omega);have h:eC I (.toInt .u32) (.int .i32 c)=W (.int .u32 c):=U0 n;have i:=tW (b:=c);have a:=su (b:=c);have o:=sv (b:=c);have j:eC I (.toInt .u8) (.int .i32 c)=W (.int .u8 (c%256)):=Wh3;have k:eC I (.toInt .u8) (.int .i32 (c/64))=W (.int .u8 (c/64%256)):=Wh3;have d:eC I (.toInt .u8) (.int .i32 (c/4096))=W (.int .u8 (c/4096%256)):=Wh3;have p:eC I (.toInt .u8) (.int .i32 (c/262144))=W (.int .u8 (c/262144%256)):=Wh3;have d0:eB .and .no (.int .u8 (c%256)) (.int .u8 63)=W (.int .u8 (c%64)):=by rw[Wtm Y];congr 2;omega
 have d6:eB .and .no (.int .u8 (c/64%256)) (.int .u8 63)=W (.int .u8 (c/64%64)):=by rw[Wtm Y];congr 2;omega
 have d12:eB .and .no (.int .u8 (c/4096%256)) (.int .u8 63)=W (.int .u8 (c/4096%64)):=by rw[Wtm Y];congr 2;omega
 have m:eB .or .no (.int .u8 128) (.int .u8 (c%64))=W (.int .u8 (128+c%64)):=Wtl Y;have r:eB .or .no (.int .u8 128) (.int .u8 (c/64%64))=W (.int .u8 (128+c/64%64)):=Wtl Y;have s:eB .or .no (.int .u8 128) (.int .u8 (c/4096%64))=W (.int .u8 (128+c/4096%64)):=Wtl Y;rw[QdG];by_cases t:c<2048
 ·have v:c<=2047:=by omega
  have x:bo c=[dz (192+c/64),dz (128+c%64)]:=by unfold bo;rw[O3 Y,A9a t]
  have f6:eB .or .no (.int .u8 192) (.int .u8 (c/64%256))=W (.int .u8 (192+c/64)):=by rw[show c/64%256=c/64 by omega];exact sq Y
  have y:wS T 1 2 (.int .u8 0) [(0,.int .u8 (192+c/64)),(1,.int .u8 (128+c%64))]=W (.sl (u4 (bo c)) .fx):=by rw[x,<-kD Y (l9 Y)];rfl
  simp -implicitDefEqProofs only[go_sem,pL,h,v,i,k,f6,j,d0,m,y,g,e,f]
 ·have v:¬c<=2047:=by omega
  by_cases y:c<65536
  ·have B:bo c=[dz (224+c/4096),dz (128+c/64%64),dz (128+c%64)]:=by unfold bo;rw[O3 Y,O3 t,A9a y]
   have f12:eB .or .no (.int .u8 224) (.int .u8 (c/4096%256))=W (.int .u8 (224+c/4096)):=by rw[show c/4096%256=c/4096 by omega];exact sr Y
   have x:wS T 1 3 (.int .u8 0) [(0,.int .u8 (224+c/4096)),(1,.int .u8 (128+c/64%64)),(2,.int .u8 (128+c%64))]=W (.sl (u4 (bo c)) .fx):=by rw[B,<-kD Y (kD Y (l9 Y))];rfl
   by_cases z:c<55296
   ·simp -implicitDefEqProofs only[go_sem,pL,ow,h,v,z,a,d,f12,i,k,d6,r,j,d0,m,x,g,e,f]
   ·have C:57343<c:=by omega
    have D:c<=65535:=by omega
    simp -implicitDefEqProofs only[go_sem,pL,ow,h,v,z,C,D,a,d,f12,i,k,d6,r,j,d0,m,x,g,e,f]
  ·have x:bo c=[dz (240+c/262144),dz (128+c/4096%64),dz (128+c/64%64),dz (128+c%64)]:=by unfold bo;rw[O3 Y,O3 t,O3 y]
   have f18:eB .or .no (.int .u8 240) (.int .u8 (c/262144%256))=W (.int .u8 (240+c/262144)):=by rw[show c/262144%256=c/262144 by omega];exact ss Y
   have z:wS T 1 4 (.int .u8 0) [(0,.int .u8 (240+c/262144)),(1,.int .u8 (128+c/4096%64)),(2,.int .u8 (128+c/64%64)),(3,.int .u8 (128+c%64))]=W (.sl (u4 (bo c)) .fx):=by rw[x,<-kD Y (kD Y (kD Y (l9 Y)))];rfl
   have B:¬c<55296:=by omega
   have C:57343<c:=by omega
   have D:¬c<=65535:=by omega
   have F:65535<c:=by omega
   have G:c<=1114111:=by omega
   simp -implicitDefEqProofs only[go_sem,pL,ow,h,v,B,C,D,F,G,o,p,f18,a,d,d12,s,i,k,d6,r,j,d0,m,z,g,e,f]
theorem Wh4:E cx 160 [vG bV 1 l,.int .i32 c] I=W (vG bV 1 (l++bo c),I):=by
 have a:=La q;have b:oK true (vG bV 1 (l++bo c))=W (vG bV 1 (l++bo c)):=by cases n:l++bo c<;>rfl
 have d:nK I.length I (vG bV 1 (l++bo c))=W (vG bV 1 (l++bo c),I):=yg u (Qc3 λ_=>rfl);have e:eC I (.toInt .u32) (.int .i32 c)=W (.int .u32 c):=U0 a;rw[QdE];by_cases f:c<128
 ·have g:c<=127:=by omega
  have h i:aT T T 1 1 I (vG bV 1 l) (.sl (u4 (bo c)) i)=W (vG bV 1 (l++bo c)):=Wu (Wgf c) (by have:=(Jr c).2;unfold Qaq;omega);have j:bo c=[dz c]:=by unfold bo;rw[A9a f]
  have k:eC I (.toInt .u8) (.int .i32 c)=W (.int .u8 c):=by rw[Wh3,show c%256=c by omega]
  have m:wS T 1 1 (.int .u8 0) [(0,.int .u8 c)]=W (.sl (u4 (bo c)) .fx):=by rw[j,<-l9 Y];rfl
  simp -implicitDefEqProofs only[go_sem,w5,e,g,k,m,h,b,d]
 ·have h:=Wm3 l z c q I u Y;have g:¬c<=127:=by omega
  simp only[go_sem,w5,e,g,h,b,d]
end
def Qx3(b:Qbn F)(I:hN):E cx 163 [.int .i32 F] I=W (.bool true,I):=by
 refine v_ X0K X0K ?_ rfl I;have a:=La b;have h:F<55296\/57343<F:=by unfold Qbn at b;simp only[vc,zH,A9f]at b;exact b.2
 have d:=a.1;have f:=a.2;rw[QdF];by_cases e:F<55296
 ·simp -implicitDefEqProofs only[go_sem,Bz,d,e]
 ·have g:57343<F:=by omega
  simp -implicitDefEqProofs only[go_sem,Bz,d,e,g,f]
def Wm4(b:Qbn F)(I:hN):E cx 159 [iI F] I=W (.bool true,I):=by refine v_ X0K X0K ?_ rfl I;have a:=La b;have d:=a.1;have e:=a.2;have k I:eC I (.toInt .i32) (iI F)=W (.int .i32 F):=Wpa a;have h:=λI=>Qx3 F b I;rw[QdD];simp -implicitDefEqProofs only[go_sem,Ig,d,e,k,h]
def pH(l:u_):u2:=l.flatMap bo
section
variable{I:hN}{u:V}
theorem X5{l:u_}(a:jO Iv I u l)(n:l.length<=10000000)(i:∀x∈l,Qbn x):∀(r q:u_) (b:u2),l=q++r->b.length+4*r.length<=900000000->
  pE QaT I.length I.length [vG bV 1 b,u,iI l.length,iI q.length] I=W (ae bV (ak (b++pH r)),I)
 |[],q,b,e,o=>by
  have f:¬(q.length:Int)<l.length:=by rw[e];simp
  have d:=a.wf;have c:=Kk d;have g h:fz I.length h fzD (vG bV 1 b)=W (vG bV 1 b):=vC (Qc3 λ_=>rfl);have j:oK T (vG bV 1 b)=W (ae bV (ak b)):=by cases b<;>rfl
  have k:nK I.length I (ae bV (ak b))=W (ae bV (ak b),I):=yg d (vw λ_ _=>rfl);have m:b++pH []=b:=by simp[pH]
  rw[zA,m];simp only[go_sem,pD,f,g,c,j,k]
 |x::r,q,b,e,o=>by
  have m:l.length=q.length+r.length+1:=by rw[e];simp;omega
  have p:(q.length:Int)<l.length:=by omega
  have j:=a.wf;have d:=Kk j;have C:=Jr x;rw[vT]at o;have g:=i x (by rw[e];simp);have⟨D,v,w,c⟩:=a.rd q r x e;have c:=c [];rw[wt]at c;have c:=c;have y:=Wh4 b Y x g I j;have z:=λI=>Wm4 x g I;have k I:eC I (.toInt .i32) (iI x)=W (.int .i32 x):=Wpa (La g);have h:=X5 a n i r (q++[x]) (b++bo x) (by rw[e];simp) yZ;rw[show((q++[x]).length:Int)=q.length+1 by simp]at h;have t:b++bo x++pH r=b++pH (x::r):=by simp[pH]
  rw[t]at h;have A f:fz I.length f fzD u=some u:=vC a.rb;have s f:fz I.length f fzD (vG bV 1 (b++bo x))=W (vG bV 1 (b++bo x)):=vC (Qc3 λ_=>rfl);have B:=a.no;rw[zA];simp -implicitDefEqProofs(disch:=try exact wK)only[go_sem,pD,pX,p,v,w,c,y,z,k,A,s,B,d,h]
def Wpb(a:jO Iv I u i)(b:i.length<=10000000)(c:∀x∈i,Qbn x):HZ QaT u I=W (ae bV (ak (pH i)),I):=by have h:pE QaT I.length I.length [.ad,u,iI i.length,iI 0] I=W (ae bV (ak (pH i)),I):=X5 a b c i [] [] rfl yZ;have d:=a.no;have e:=a.len;have f g:fz I.length g fzD u=some u:=vC a.rb;simp only[go_sem,HZ,d,e,f,h]
def Wm5{f:Int->V}(a:Wf I):jO f I .ad []:=⟨a,rfl,rfl,rfl,λq r x h=>by cases q<;>cases h⟩
def Wtn(I:hN):E cx 149 [.ad] I=W (.ad,I):=by refine v_ X0K X0K ?_ rfl I;rw[QdC];exact(A9e (Option.bind · (u1 [])) (Wpb (Wm5 zM) u0 u0)).trans yB
def Wto{o:Nat}{l:u_}(b:Wf I)(a:hN.get I o=W (Z l))(c:l.length<=10000000)(d:∀x∈l,Qbn x):E cx 149 [.hs o 0 l.length 1 T] I=W (ae bV (ak (pH l)),I):=
 ((cQ X0K X0K Wh2 (JA a)).trans (Rs ..)).trans (Wpb (KJ (λ_=>rfl) b a) c d)
end
theorem II{n t:Nat}{ks:wi}{I:hN}:∀ {ps:XB},(∀p∈ps,p.1≠t/\V.rb n p.2)->mB n I [t] ks ps=W (ps.map Prod.snd)
 |[],_=>rfl
 |p::ps,h=>by
  have a:=h p (wA ..);have b:=II (ks:=ks) (I:=I) λq c=>h q (wh _ c);unfold mB;rw[b];have d:[t].contains p.1=T:=by simpa using a.1
  rw[d,vC a.2];rfl
def Gm{n t o len:Nat}{pre:XB}{I base:hN}{l:u_}(e:n<=o)(a:hN.get I o=W (Z l))(f:∀p∈pre,p.1≠t/\V.rb n p.2)(h:ve n (I.set o .gone)=W base):
  VJ n [t] (pre++[(t,.hg o len 1 T)]) I=W (pre.map Prod.snd++[.hg n len 1 T],base++[.cells (Z l)]):=by
 have i:mV t (pre++[(t,V.hg o len 1 T)])=.hg o len 1 T:=Pk λp b=>(f p b).1;have j:([t].filterMap λk=>AG n (mV k (pre++[(t,V.hg o len 1 T)])))=[o]:=by simp[i,AG,e]
 have m:(Z l).filterMap (js n)=[]:=by
  unfold Z;rw[List.filterMap_map];induction l with
  |nil=>rfl
  |cons x r d=>simp[js]
 have q:yn n I [o]=[o]:=by unfold yn;simp[a,m,dI]
 have s:=Ct a;have c:I[o]?=W (.cells (Z l)):=by
  unfold hN.get at a;cases d:I[o]? with
  |none=>rw[d]at a;cases a
  |some x=>
   rw[d]at a;cases x with
   |cells y=>simp only[vU]at a;rw[a]
   |mp y=>cases a
   |si r p=>cases a
   |gone=>cases a
 unfold VJ;rw[j,q];have g:VP [o] I=I.set o .gone:=rfl;have u:OA n [o] (I.set o .gone) (.hg o len 1 T)=W (.hg n len 1 T):=by simp only[OA];have:[o].contains o:=u0;rw[this,C5,A9a rfl];simp[ez,AT.2 e]
 have v:mB n (I.set o .gone) [t] [o] [(t,V.hg o len 1 T)]=W [.hg n len 1 T]:=by unfold mB;simp only[Ug,beq_self_eq_true,CR,A9c,u,va];rfl
 rw[g,Qhb,II f,v];simp only[va];have w:xx n I [o]=W (base++[.cells (Z l)]):=by
  unfold xx;rw[g];have y:([o].mapM λd=>(I[d]?).bind (AO n [o] (I.set o .gone)))=W [.cells (Z l)]:=by rw[xw,c];simp only[va,AO,Xt,A0];rfl
  rw[y,h];rfl
 rw[w];rfl
def qG(n:Nat):u_->V
 |[]=>.ad
 |x::r=>.hg n (x::r).length 1 false
def pG(I:hN):u_->hN
 |[]=>I
 |x::r=>I++[.cells (Z (x::r))]
def Wyf{I:hN}(e:Wf I)(k:u_)(c:Int)(f:bU)(g:(k.length+1)*8<=Qaq)(pre:XB)(t:Nat)(i:∀p∈pre,p.1≠t/\V.rb I.length p.2):
  ∃v H,G' T T 1 8 (pG I k) (qG I.length k) (.sl [iI c] f)=W (v,H)/\v.ng=(v.ng).ng/\(∀o cs,hN.get I o=W cs->hN.get H o=W cs)/\
   VJ I.length [t] (pre++[(t,v)]) H=W (pre.map Prod.snd++[qG I.length (k++[c])],pG I (k++[c])):=by
 cases k with
 |nil=>
  refine⟨.hg I.length 1 1 T,I++[.cells (Z [c])],?_,rfl,λo cs h=>hN.cd h,?_⟩
  ·unfold G' pG qG;simp only[Nv,vD,A9d,Nq,u7,va];rw[A9a ⟨rfl,by simpa using g⟩];rfl
  ·have a:ve I.length ((I++[O.cells (Z [c])]).set I.length .gone)=some I:=by have:(I++[O.cells (Z [c])]).set I.length .gone=I++[.gone]:=u0;rw[this];exact xd e
   exact Gm (vE _) wJ i a
 |cons x r=>
  have m:hN.get (I++[O.cells (Z (x::r))]) I.length=W (Z (x::r)):=wJ;have a:(I++[O.cells (Z (x::r))]).length=I.length+1:=u0;have b:(I++[O.cells (Z (x::r))]).set I.length .gone=I++[.gone]:=u0;have j:=Qli (x:=c) (c:=f) m g;rw[a,b]at j;refine⟨_,_,j,rfl,λo cs h => ?_,?_⟩
  ·rw[wL];exact hN.cd h
  ·have d:hN.get (I++[O.gone]++[O.cells (Z (x::r++[c]))]) (I.length+1)=W (Z (x::r++[c])):=by have:=wJ (I:=I++[O.gone]) (cs:=Z (x::r++[c]));simpa using this
   have l:ve I.length ((I++[O.gone]++[O.cells (Z (x::r++[c]))]).set (I.length+1) .gone)=some I:=by
    have:(I++[O.gone]++[O.cells (Z (x::r++[c]))]).set (I.length+1) .gone=I++([O.gone]++[.gone]):=by have:=Hh (s:=I++[O.gone]) (t:=[O.cells (Z (x::r++[c]))]) (I.length+1) O.gone u0;rw[this];simp
    rw[this];exact xd e
   exact Gm (GX _) d i l
def Wh5{t:Nat}{pre:XB}{I:hN}(b:∀p∈pre,p.1≠t/\V.rb a p.2)(n:ve a I=W d):
  VJ a [t] (pre++[(t,.ad)]) I=W (pre.map Prod.snd++[.ad],d):=by
 have e:mV t (pre++[(t,V.ad)])=.ad:=Pk λp base=>(b p base).1;have f:([t].filterMap λg=>AG a (mV g (pre++[(t,V.ad)])))=[]:=by simp[e,AG]
 unfold VJ;rw[f];have h:yn a I []=[]:=rfl;have c:VP [] I=I:=rfl;rw[h];have i:mB a I [t] [] [(t,V.ad)]=W [.ad]:=by unfold mB;simp only[Ug,beq_self_eq_true,CR,A9c];rfl
 rw[c,Qhb,II b,i];simp only[va];have j:xx a I []=some d:=by unfold xx;rw[c];rw[n];simp
 rw[j];rfl
def gz(t:V×Int×Int):V:=.agg [t.1,.int .i64 t.2.1,.int .i64 t.2.2]
def eH(ts:List (V×Int×Int)):Nat->Nat->u_
 |0,_=>[]
 |f+1,n=>
  match ts[n]? with
  |some t=>if 0<=t.2.1 then t.2.2::eH ts f t.2.1.toNat else[]
  |none=>[]
section
variable{I:hN}{o N:Nat}(u:Wf I)(q:o<I.length)(S:N<=1000000000)
include u q S
theorem Wa7:∀(f:Nat) (M P Q:u_) (i j:Int),M.length<=f->(P++M++Q).length=N->i=P.length->j=(P.length:Int)+M.length-1->
  Bi QaT I.length I.length [.hs o 0 N 1 T,iI i,iI j] (cf I o (P++M++Q))=W (.aR [],cf I o (P++M.reverse++Q))
 |f,M,P,Q,i,j,t,v,w,A=>by
  have n:=Qiz u q (L:=P++M++Q) Y;have e:∀L:u_,L.length<=1000000000->ve I.length (cf I o L)=W (cf I o L):=λL k=>by
   have:=Kk (Qiz u q k).wf
   rwa[BZ]at this
  have g:∀L:u_,L.length<=1000000000->nK I.length (cf I o L) (.aR [])=W (.aR [],cf I o L):=λL k=>by
   have:=yg (Qiz u q k).wf (r:=.aR []) rfl
   rwa[BZ]at this
  have B:=e _ (show(P++M++Q).length<=_ by omega);have C:=g _ (show(P++M++Q).length<=_ by omega);rw[FV];by_cases p:M.length<2
  ·have a:¬i<j:=by omega
   have b:M.reverse=M:=by
    match M,p with
    |[],_=>rfl
    |[x],_=>rfl
    |x::y::r,h=>exact absurd h u0
   rw[b];simp only[go_sem,zC,a,B,C]
  ·obtain⟨x,c,y,rfl⟩:∃x c y,M=x::(c++[y]):=by
    match M,p with
    |[],h=>simp at h
    |[x],h=>simp at h
    |x::z::E,_=>
     rcases List.eq_nil_or_concat (z::E)with h|⟨a,b,h⟩
     ·cases h
     ·exact⟨x,a,b,by rw[h,List.concat_eq_append]⟩
   simp only[vW,vT,xJ]at v A t;obtain⟨f,rfl⟩:∃F,f=F+1:=⟨f-1,by omega⟩
   obtain⟨d,rfl⟩:∃d:Nat,j=d:=⟨P.length+c.length+1,by omega⟩
   subst w;have D:(P.length:Int)<d:=by omega
   have G:eI 1 (iI d) (.hs o 0 N 1 T)=W (.ptr o d):=yl Y;have H:eI 1 (iI P.length) (.hs o 0 N 1 T)=W (.ptr o P.length):=yl Y;have J:(P++(x::(c++[y]))++Q).getD d 0=y:=by have:P++(x::(c++[y]))++Q=(P++x::c)++y::Q:=u0;rw[this,show d=(P++x::c).length by simp<;>omega];exact O7
   have K:(P++(x::(c++[y]))++Q).getD P.length 0=x:=by have:P++(x::(c++[y]))++Q=P++x::(c++[y]++Q):=u0;rw[this];exact O7
   have O:eL (cf I o (P++(x::(c++[y]))++Q)) T 1 (.ptr o d)=W (iI y):=by rw[n.ld (by simp<;>omega),J]
   have R:eL (cf I o (P++(x::(c++[y]))++Q)) T 1 (.ptr o P.length)=W (iI x):=by rw[n.ld (by simp<;>omega),K]
   have S:(P++(x::(c++[y]))++Q).set P.length y=P++(y::(c++[y]))++Q:=by have:P++(x::(c++[y]))++Q=P++x::(c++[y]++Q):=u0;rw[this];simp
   have U:(P++(y::(c++[y]))++Q).set d x=(P++[y])++c++(x::Q):=by have:P++(y::(c++[y]))++Q=(P++y::c)++y::Q:=u0;rw[this,show d=(P++y::c).length by simp<;>omega];simp
   have l:u5 (cf I o (P++(x::(c++[y]))++Q)) 1 (.ptr o P.length) (iI y) (iI y)=W (.undef,cf I o (P++(y::(c++[y]))++Q)):=by rw[Tc q (by simp<;>omega),S]
   have m:u5 (cf I o (P++(y::(c++[y]))++Q)) 1 (.ptr o d) (iI x) (iI x)=W (.undef,cf I o ((P++[y])++c++(x::Q))):=by rw[Tc q (by simp<;>omega),U]
   have V:=e ((P++[y])++c++(x::Q)) (by simp<;>omega);have s:=Wa7 f c (P++[y]) (x::Q) ((P.length:Int)+1) ((d:Int)-1) Y (by simp<;>omega) u0 (by simp<;>omega);have X:P++[y]++c.reverse++x::Q=P++(x::(c++[y])).reverse++Q:=u0;rw[X]at s;simp -implicitDefEqProofs(disch:=try exact wK)only[go_sem,zC,D,G,H,O,R,l,m,V,s]
end
def Wh6{I:hN}{o:Nat}{l:u_}(h:Rw I o l):E cx 148 [vH o l] I=W (.aR [],cf I o l.reverse):=by have b:=Ct h.get;have a:=Wa7 h.wf b h.len l.length l [] [] 0 ((l.length:Int)-1) (vE _) u0 rfl u0;simp only[xQ,wt]at a;rw[Was h.get]at a;have c:=h.len;rw[VK _ _ Wh2 (JA h.get)];simp -implicitDefEqProofs(disch:=try exact wK)only[go_sem,LP,a]
def Wdg(I:hN):E cx 148 [.ad] I=W (.aR [],I):=by
 refine v_ X0K X0K ?_ rfl I;rw[Sy];have a:Bi QaT 0 0 [.ad,iI 0,iI (-1)] []=W (.aR [],[]):=by rw[FV];simp -implicitDefEqProofs only[go_sem,zC]
 simp only[go_sem,LP,a]
section
variable{I:hN}(q:Wf I){sp:Nat}{CS:uZ}{ts:List (V×Int×Int)}{cp:bU}(u:hN.get I sp=some CS)(Q:CS[2]?=some (.sl (ts.map gz) cp))(z:∀(i:Nat) (t:V×Int×Int),ts[i]?=some t->-1<=t.2.1/\t.2.1<i)(N:∀(i:Nat) (t:V×Int×Int),ts[i]?=some t->0<=t.2.1->Qbn t.2.2=true)(S:ts.length<=1000000000)
include q u Q z N S
theorem U4(h:∀o cs,hN.get I o=W cs->hN.get d o=W cs):eL d T 1 (.ptr sp 2)=W (.sl (ts.map gz) .no):=by rw[yo,h _ _ u,va];simp only[Ev.part,vD,A9d,A9c,Q,A0];rfl
theorem X6:∀(f n:Nat) (k:u_),n<f->n<ts.length->k.length+f<=9000000->(∀x∈k,Qbn x)->
  AF QaT I.length I.length [.ptr sp 0,iI n,qG I.length k] (pG I k)=W (.str (pH (k++eH ts f n).reverse),I)
 |0,n,k,a,_,_,_=>by omega
 |f+1,n,k,v,B,F,e=>by
  have C:=Ct u;have b:=vO B;generalize ts[n]=t at b;have⟨R,U⟩:=z n t b;have D:∀o F,hN.get I o=W F->hN.get (pG I k) o=some F:=λo F h=>by
   cases k with
   |nil=>exact h
   |cons x r=>exact hN.cd h
  have J:=U4 q u Q z N S D;have m:eI 3 (iI n) (.sl (ts.map gz) .no)=W (.ai [t.1,iI t.2.1,iI t.2.2] 0):=by have:=Fj (f:=gz) (l:=ts) (c:=.no) (λ_=>rfl) t (k:=.i64) (i:=n) (sz:=3) Y;rw[this,zi,y9,b];rfl
  have w I:eL I T 1 (.ai [t.1,iI t.2.1,iI t.2.2] 1)=W (iI t.2.1):=rfl;have A I:eL I T 1 (.ai [t.1,iI t.2.1,iI t.2.2] 2)=W (iI t.2.2):=rfl;rw[Ou];by_cases d:0<=t.2.1
  ·have a:eH ts (f+1) n=t.2.2::eH ts f t.2.1.toNat:=by simp only[eH,b,A9a d]
   have⟨v,H,G,P,K,s⟩:=Wyf q k t.2.2 .no (by unfold Qaq;omega) [(0,.ptr sp 0),(1,iI t.2.1)] 5 (by
    intro p y;simp only[vZ,AS,R7]at y;rcases y with rfl|rfl
    ·exact⟨u0,by simp[V.rb,C]⟩
    ·exact⟨u0,rfl⟩)
   have c:=U4 q u Q z N S K;have g:=N n t b d;have j:=X6 f t.2.1.toNat (k++[t.2.2]) Y Y (by simp<;>omega) (λx p=>by
    rcases xf.1 p with h|h
    ·exact e x h
    ·obtain rfl:=vR.1 h;exact g)
   rw[show((t.2.1.toNat:Nat):Int)=t.2.1 by omega]at j;have L:k++[t.2.2]++eH ts f t.2.1.toNat=k++eH ts (f+1) n:=by rw[a];simp
   rw[L]at j;simp only[xc,Xbx,AJ,xQ]at s;have M:(V.sl (ts.map gz) .no).ng=.sl (ts.map gz) .no:=rfl;obtain⟨X,a,g⟩:=t;simp only at*;simp -implicitDefEqProofs(disch:=try exact wK)only[go_sem,zp,J,m,w,A,d,G,c,M,s,j]
  ·have v:eH ts (f+1) n=[]:=by simp only[eH,b,O3 d]
   rw[v,wt];have g H s:nK I.length (I++H) (.str s)=W (.str s,I):=VO q rfl;have c:∀p∈[((4:Nat),V.any)],p.1≠5/\V.rb I.length p.2:=λp a=>by obtain rfl:=vR.1 a;exact⟨by decide,rfl⟩
   cases k with
   |nil=>have y:VJ I.length [5] [(4,.any),(5,.ad)] I=W ([.any,.ad],I):=Wh5 (pre:=[(4,.any)]) c (Kk q);have G:=Wdg I;have K:=Wtn I;have L:eC I .bh .ad=W (.str []):=rfl;have M:nK I.length I (.str [])=W (.str [],I):=yg q rfl;show zp QaT I.length I.length (AF QaT I.length I.length) (.ptr sp 0) (iI n) .ad I=W (.str [],I);have a:eL I T 1 (.ptr sp 2)=W (.sl (ts.map gz) .no):=J;obtain⟨P,b,f⟩:=t;simp only at*;have j:(V.sl (ts.map gz) .no).ng=.sl (ts.map gz) .no:=rfl;generalize V.sl (ts.map gz) .no=X at*;simp -implicitDefEqProofs(disch:=try exact wK)only[go_sem,zp,a,m,w,A,d,y,G,K,L,M,j]
   |cons x r=>
    have b:ve I.length ((I++[O.cells (Z (x::r))]).set I.length .gone)=some I:=by have:(I++[O.cells (Z (x::r))]).set I.length .gone=I++[.gone]:=u0;rw[this];exact xd q
    have k1:VJ I.length [5] [(4,.any),(5,.hg I.length (x::r).length 1 T)] (I++[.cells (Z (x::r))])=W ([.any,.hg I.length (x::r).length 1 T],I++[.cells (Z (x::r))]):=Gm (pre:=[(4,.any)]) (vE _) wJ c b;have K:Rw (I++[O.cells (Z (x::r))]) I.length (x::r):=⟨VS q wB,wJ,by omega⟩
    have M:=Wh6 K;have b:cf (I++[O.cells (Z (x::r))]) I.length (x::r).reverse=I++[.cells (Z (x::r).reverse)]:=u0;rw[b]at M;have P:=Wto (I:=I++[O.cells (Z (x::r).reverse)]) (o:=I.length) (l:=(x::r).reverse) (VS q wB) wJ (by rw[Xi];omega) (λy b=>e y (List.mem_reverse.1 b));rw[Xi]at P;have cv:eC (I++[O.cells (Z (x::r).reverse)]) .bh (ae bV (ak (pH (x::r).reverse)))=W (.str (pH (x::r).reverse)):=Wa2;have he:=g [O.cells (Z (x::r).reverse)] (pH (x::r).reverse);have nS:(ae bV (ak (pH (x::r).reverse))).ng=ae bV (ak (pH (x::r).reverse)):=vz;show zp QaT I.length I.length (AF QaT I.length I.length) (.ptr sp 0) (iI n) (.hg I.length (x::r).length 1 T) (I++[.cells (Z (x::r))])=_;have j:eL (I++[O.cells (Z (x::r))]) T 1 (.ptr sp 2)=W (.sl (ts.map gz) .no):=J;have n1:(V.hg I.length (x::r).length 1 T).ng=.hs I.length 0 (x::r).length 1 T:=rfl;have n2:(V.hs I.length 0 (x::r).length 1 T).ng=.hs I.length 0 (x::r).length 1 T:=rfl;have L:E cx 148 [.hs I.length 0 (x::r).length 1 T] (I++[O.cells (Z (x::r))])=W (.aR [],I++[.cells (Z (x::r).reverse)]):=M;obtain⟨tA,tf,tc⟩:=t;simp only at m w A d;have nX:(V.sl (ts.map gz) .no).ng=.sl (ts.map gz) .no:=rfl;generalize a0:[tA,V.int .i64 tf,V.int .i64 tc]=EC at*;generalize pH (x::r).reverse=T9,V.sl (ts.map gz) .no=X at*;generalize V.hg I.length (x::r).length 1 T=G,V.hs I.length 0 (x::r).length 1 T=a5,I++[O.cells (Z (x::r))]=a,I++[O.cells (Z (x::r).reverse)]=Z2,ae bV (ak T9)=hl at*;simp -implicitDefEqProofs(disch:=try exact wK)only[go_sem,zp,j,m,w,A,d,k1,L,P,cv,he,nX,n1,n2,nS]
theorem Wtp(n:Nat)(a:n<ts.length)(b:n<8000000):E cx 131 [.ptr sp 0,iI n] I=W (.str (pH (eH ts (n+1) n).reverse),I):=by have c:=Ct u;have h:AF QaT I.length I.length [.ptr sp 0,iI n,.ad] I=W (.str (pH (eH ts (n+1) n).reverse),I):=X6 q u Q z N S (n+1) n [] Y a (by simp<;>omega) (λx d=>by cases d);rw[Qhu _ _ _ rfl (JA u)];simp -implicitDefEqProofs(disch:=try exact wK)only[go_sem,Oc,h]
end
def cU(l:List u2):List (V×V):=l.map λs=>(.str s,.bool true)
def Qvf:O.rb a (.mp (cU K)):=by
 have l:V.aL a ((cU K).map Prod.fst):=by unfold cU;rw[Ni];exact AM λ_=>rfl
 have b:V.aL a ((cU K).map Prod.snd):=by unfold cU;rw[Ni];exact AM λ_=>rfl
 show(V.aL a ((cU K).map Prod.fst)&&V.aL a ((cU K).map Prod.snd));rw[l,b];rfl
theorem QD(K:u2):∀l:List u2,iU .s (.str K) (cU l)=W (if bu l K=true then W (.bool true)else none)
 |[]=>rfl
 |s::r=>by
  have a:=QD K r;show(match Hw .s (.str K) (.str s)with|some true=>W (W (V.bool true))|some false=>iU .s (.str K) (cU r)|none=>none)=_;have e:Hw .s (.str K) (.str s)=W (decide (K=s)):=rfl;rw[e];unfold bu;rw[Ng];by_cases h:K=s
  ·rw[xG h];rfl
  ·rw[A9i h,C3];exact a
theorem Wpd(K:u2):∀l:List u2,bu l K=T->jV .s (.str K) (.bool true) (cU l)=W (cU (l++[K]))
 |[],_=>rfl
 |s::r,h=>by have a:(decide (K=s)||bu r K)=T:=h;rw[Ud]at a;have b:=Wpd K r a.2;show(match Hw .s (.str K) (.str s)with|some true=>W ((V.str K,V.bool true)::cU r)|some false=>(jV .s (.str K) (.bool true) (cU r)).map λc=>(V.str s,V.bool true)::c|none=>none)=_;have e:Hw .s (.str K) (.str s)=W (decide (K=s)):=rfl;rw[e,a.1,b];rfl
def Xo{I:hN}{o:Nat}{l:List u2}{K:u2}(h:I[o]?=W (.mp (cU l))):Mo .s I (.bool T) (.mp o) (.str K) T=W (.bool (bu l K)):=by simp only[Mo,jr,h,QD,u7,va];cases bu l K<;>rfl
def Xp{I:hN}{o:Nat}{l:List u2}{K:u2}(h:I[o]?=W (.mp (cU l)))(a:bu l K=T):JW .s I (.mp o) (.str K) (.bool true)=W (.undef,I.set o (.mp (cU (l++[K])))):=by simp only[JW,h,Wpd K l a,u7,va,Wdw,A9c]
def rG(sz:Nat):uZ->V
 |[]=>.ad
 |x::r=>.sl (x::r) (.gr sz)
variable{y:bU}
def Wpe{bytes:Nat}{I:hN}{y:V}{c':bU}(c:∀x∈g,x.cells.length=a)(d:ZS J a [y])(b:(g.length+1)*bytes<=Qaq):aT T J a bytes I (rG a g) (.sl [y] c')=W (rG a (g++[y])):=by
 unfold aT;simp only[Nv,vD,A9d,Nq,u7,va];unfold RE;rw[A9a d];cases g with
 |nil=>rw[O3 u0,A9a (by simpa using b)];rfl
 |cons x r=>show(if(bU.gr a=.fx\/bU.gr a=.gr a)/\(x::r).all (λy=>decide (y.cells.length=a))/\((x::r).length+[y].length)*bytes<=Qaq then W (V.sl ((x::r)++[y]) (.gr a))else none)=_;rw[A9a ⟨.inr rfl,AI.2 λx xs=>by simpa using c x xs,b⟩];rfl
def Wyg{bytes:Nat}{I:hN}{xs:uZ}{c':bU}(b:y=.fx\/y=.gr a)(d:∀x∈xs,x.cells.length=a)(c:ZS J a [e])(f:(xs.length+1)*bytes<=Qaq):aT T J a bytes I (.sl xs y) (.sl [e] c')=W (.sl (xs++[e]) (.gr a)):=by unfold aT;simp only[Nv,vD,A9d,Nq,u7,va];unfold RE;rw[A9a c];show(if(y=.fx\/y=.gr a)/\xs.all (λe=>decide (e.cells.length=a))/\(xs.length+[e].length)*bytes<=Qaq then W (V.sl (xs++[e]) (.gr a))else none)=_;rw[A9a ⟨b,AI.2 λx sz=>by simpa using d x sz,f⟩]
def sC(ms ls st ou:V)(n:Int):uZ:=[ms,ls,st,.mp 0,.mp 1,ou,.int .i64 n]
def gA(b:Bool)(l:u_):V:=match b with|false=>.sl (Z l) .no|true=>.hs 3 0 l.length 1 false
def pO(b:Bool)(e1 e2:List u2)(C:uZ)(l:u_):hN:=match b with|false=>[.mp (cU e1),.mp (cU e2),.cells C]|true=>[.mp (cU e1),.mp (cU e2),.cells C,.cells (Z l)]
def bp(b:Bool):Nat:=match b with|false=>3|true=>4
variable{r L:List u2}
section
variable{b:Bool}{e1 e2:List u2}{C:uZ}{l:u_}{H:hN}
def QR:(pO b e1 e2 C l).length=bp b:=by cases b<;>rfl
def Xq:(pO b e1 e2 C l++H)[0]?=W (.mp (cU e1)):=by cases b<;>rfl
def Wib:(pO b e1 e2 C l++H)[1]?=W (.mp (cU e2)):=by cases b<;>rfl
def w1:hN.get (pO b e1 e2 C l++H) 2=some C:=by cases b<;>rfl
def Wtq:(pO b e1 e2 C l++H).set 0 (.mp (cU r))=pO b r e2 C l++H:=by cases b<;>rfl
def Wtr:(pO b e1 e2 C l++H).set 1 (.mp (cU r))=pO b e1 r C l++H:=by cases b<;>rfl
def RX:(pO b e1 e2 C l++H).set 2 (.cells g)=pO b e1 e2 g l++H:=by cases b<;>rfl
def Wic(h:V.aL (bp b) C):Wf (pO b e1 e2 C l):=by have a n e:O.rb n (.mp (cU e)):=Qvf e;have c n:O.rb n (.cells (Z l)):=wB;have d:O.rb (bp b) (.cells C):=h;unfold Wf;rw[QR];cases b<;>simp[pO,a,c,d]
def Qvg:(gA b l).ng=gA b l:=by cases b<;>rfl
def Wyh:V.rb (bp b) (gA b l):=by
 cases b with
 |false=>exact wB
 |true=>rfl
def Wyi(a:Wf (pO b e1 e2 C l++H)):jO Iv (pO b e1 e2 C l++H) (gA b l) l:=by
 cases b with
 |false=>exact Qve (λ_=>rfl) (λ_=>rfl) (λ_ _=>rfl) a
 |true=>exact KJ (λ_=>rfl) a rfl
end
section
variable{b:Bool}{e1 e2:List u2}{ms ls st ou:V}{n:Int}{l:u_}{H:hN}
def Wm6(k:V.rb a ms)(b:V.rb a ls)(c:V.rb a st)(d:V.rb a ou)(e:2<=a):V.aL a (sC ms ls st ou n):=by simp only[sC,V.aL,k,b,c,d,V.rb,CB,Ab,vc,A9f];omega
def Wpf:eL (pO b e1 e2 (sC ms ls st ou n) l++H) T 1 (.ptr 2 0)=W ms.ng:=by rw[yo,w1];rfl
def Wid:eL (pO b e1 e2 (sC ms ls st ou n) l++H) T 1 (.ptr 2 2)=W st.ng:=by rw[yo,w1];rfl
def Wyj:eL (pO b e1 e2 (sC ms ls st ou n) l++H) T 1 (.ptr 2 3)=W (.mp 0):=by rw[yo,w1];rfl
def Wyk:eL (pO b e1 e2 (sC ms ls st ou n) l++H) T 1 (.ptr 2 4)=W (.mp 1):=by rw[yo,w1];rfl
def Wyl{t:V}(a:e.cells=[e])(c:V.one e)(d:∀cs,e≠.agg cs)(f:t.dg=T):u5 (pO b e1 e2 (sC ms ls st ou n) l++H) 1 (.ptr 2 2) e t=W (.undef,pO b e1 e2 (sC ms ls t ou n) l++H):=by
 have v:u5 (pO b e1 e2 (sC ms ls st ou n) l++H) 1 (.ptr 2 2) e t=(hN.get (pO b e1 e2 (sC ms ls st ou n) l++H) 2).bind λcs=>if e.cells.length=1/\2+1<=cs.length/\yd e.cells=true then(match e with | .agg _=>W (.undef,(pO b e1 e2 (sC ms ls st ou n) l++H).set 2 (.cells (RK cs 2 (e.cells.map V.ng))))|_=>if t.dg then none else W (.undef,(pO b e1 e2 (sC ms ls st ou n) l++H).set 2 (.cells (cs.set 2 t))))else none:=rfl
 rw[v,w1,va,A9a ⟨by rw[a];rfl,by simp[sC],by rw[a,CY,c];rfl⟩];cases e with
 |agg cs=>exact absurd rfl (d cs)
 |_=>simp only[f,vD,A9d,RX];rfl
def Wym{v t:V}(a:v.cells=[v])(c:V.one v)(d:∀cs,v≠.agg cs)(f:t.dg=T):u5 (pO b e1 e2 (sC ms ls st ou n) l++H) 1 (.ptr 2 5) v t=W (.undef,pO b e1 e2 (sC ms ls st t n) l++H):=by
 have e:u5 (pO b e1 e2 (sC ms ls st ou n) l++H) 1 (.ptr 2 5) v t=(hN.get (pO b e1 e2 (sC ms ls st ou n) l++H) 2).bind λcs=>if v.cells.length=1/\5+1<=cs.length/\yd v.cells=true then(match v with | .agg _=>W (.undef,(pO b e1 e2 (sC ms ls st ou n) l++H).set 2 (.cells (RK cs 5 (v.cells.map V.ng))))|_=>if t.dg then none else W (.undef,(pO b e1 e2 (sC ms ls st ou n) l++H).set 2 (.cells (cs.set 5 t))))else none:=rfl
 rw[e,w1,va,A9a ⟨by rw[a];rfl,by simp[sC],by rw[a,CY,c];rfl⟩];cases v with
 |agg cs=>exact absurd rfl (d cs)
 |_=>simp only[f,vD,A9d,RX];rfl
def Wyn{x:Int}:u5 (pO b e1 e2 (sC ms ls st ou n) l++H) 1 (.ptr 2 6) (iI x) (iI x)=W (.undef,pO b e1 e2 (sC ms ls st ou x) l++H):=by
 have e:u5 (pO b e1 e2 (sC ms ls st ou n) l++H) 1 (.ptr 2 6) (iI x) (iI x)=(hN.get (pO b e1 e2 (sC ms ls st ou n) l++H) 2).bind λa=>if(1:Nat)=1/\6+1<=a.length/\yd [V.int .i64 x]=true then W (.undef,((pO b e1 e2 (sC ms ls st ou n) l++H).set 2 (O.cells (a.set 6 (iI x))):hN))else none:=rfl
 rw[e,w1,va,A9a ⟨rfl,by simp[sC],rfl⟩,RX];rfl
def gK:V->V
 | .sl a (.gr _)=>.sl a .no
 |x=>x
def Wyo:Zy (pO b e1 e2 (sC ms ls (rG 3 g) ou n) l++H) (.ptr 2 2)=W (rG 3 g,pO b e1 e2 (sC ms ls (gK (rG 3 g)) ou n) l++H):=by
 have e st:Zy (pO b e1 e2 (sC ms ls st ou n) l++H) (.ptr 2 2)=(match st with | .sl g (.gr s)=>W (.sl g (.gr s),(pO b e1 e2 (sC ms ls st ou n) l++H).set 2 (.cells ((sC ms ls st ou n).set 2 (.sl g .no)))) | .sl _ .lk=>none|v=>W (v,pO b e1 e2 (sC ms ls st ou n) l++H):Ro):=by show((hN.get (pO b e1 e2 (sC ms ls st ou n) l++H) 2).bind λa=>(a[2]?).bind _)=_;rw[w1];rfl
 rw[e];cases g with
 |nil=>rfl
 |cons x r=>simp only[rG,RX];rfl
def kd:V->V
 | .sl a (.gr _)=>.sl a .lk
 |x=>x
def Wyp{xs:uZ}(a:y=.fx\/y=.gr 3):Zy (pO b e1 e2 (sC ms ls st (.sl xs y) n) l++H) (.ptr 2 5)=W (.sl xs y,pO b e1 e2 (sC ms ls st (gK (.sl xs y)) n) l++H):=by
 have e ou:Zy (pO b e1 e2 (sC ms ls st ou n) l++H) (.ptr 2 5)=(match ou with | .sl xs (.gr s)=>W (.sl xs (.gr s),(pO b e1 e2 (sC ms ls st ou n) l++H).set 2 (.cells ((sC ms ls st ou n).set 5 (.sl xs .no)))) | .sl _ .lk=>none|v=>W (v,pO b e1 e2 (sC ms ls st ou n) l++H):Ro):=by show((hN.get (pO b e1 e2 (sC ms ls st ou n) l++H) 2).bind λd=>(d[5]?).bind _)=_;rw[w1];rfl
 rw[e];rcases a with rfl|rfl
 ·rfl
 ·simp only[RX];rfl
def sw{xs:uZ}(a:y=.fx\/y=.gr 3):VH (pO b e1 e2 (sC ms ls st (.sl xs y) n) l++H) (.ptr 2 5)=if y=.fx then .same true 2 5 1 else .cE 2 5:=by unfold VH;simp only[w1];rcases a with rfl|rfl<;>rfl
def tX{xs:uZ}(a:y=.fx\/y=.gr 3):ZU [if y=.fx then .same true 2 5 1 else .cE 2 5] (pO b e1 e2 (sC ms ls st (gK (.sl xs y)) n) l++H)=W (pO b e1 e2 (sC ms ls st (kd (.sl xs y)) n) l++H):=by
 rcases a with rfl|rfl
 ·rfl
 ·show Hs (pO b e1 e2 (sC ms ls st (.sl xs .no) n) l++H) [(2,5)]=_;unfold Hs;rw[w1];show Hs ((pO b e1 e2 (sC ms ls st (.sl xs .no) n) l++H).set 2 (.cells ((sC ms ls st (.sl xs .no) n).set 5 (.sl xs .lk)))) []=_;rw[RX];rfl
def tY{xs:uZ}(d:y=.fx\/y=.gr 3):w_ [if y=.fx then .same true 2 5 1 else .cE 2 5] (pO b e1 e2 (sC ms ls st (gK (.sl xs y)) n) l++H) (pO b e1 e2 (sC ms ls st (kd (.sl xs y)) n) l++H)=W (pO b e1 e2 (sC ms ls st (gK (.sl xs y)) n) l++H):=by
 rcases d with rfl|rfl
 ·show(if(bt (pO b e1 e2 (sC ms ls st (.sl xs .fx) n) l++H) (pO b e1 e2 (sC ms ls st (.sl xs .fx) n) l++H) (.same true 2 5 1)&&true)=true then W (pO b e1 e2 (sC ms ls st (.sl xs .fx) n) l++H)else none)=_;have:bt (pO b e1 e2 (sC ms ls st (.sl xs .fx) n) l++H) (pO b e1 e2 (sC ms ls st (.sl xs .fx) n) l++H) (.same true 2 5 1):=by simp only[bt,w1,decide_true,Ab,A9c,V.bG]
  rw[this];rfl
 ·show(TS (pO b e1 e2 (sC ms ls st (.sl xs .lk) n) l++H) [(2,5)]).bind (λa=>if(true&&true)=true then W a else none)=_;unfold TS;rw[w1];show(TS ((pO b e1 e2 (sC ms ls st (.sl xs .lk) n) l++H).set 2 (.cells ((sC ms ls st (.sl xs .lk) n).set 5 (.sl xs .no)))) []).bind (λa=>if(true&&true)=true then W a else none)=_;rw[RX];rfl
end
def Wpg(h:g.mapM (fz a d fzD)=W U):fb a d (.cells g)=W (.cells U):=by
 show(if V.aL a g=true then W (O.cells g)else(g.mapM (fz a d fzD)).map O.cells)=_;split
 ·rename_i b;rw[Cz b]at h;cases h;rfl
 ·rw[h];rfl
def Qs2{d:Nat}{Dww:hN}{C:uZ}(h:C.mapM (fz a Dww d)=W g):fz a Dww (d+1) (.sl C y)=W (.sl g y):=by
 cases b:V.aL a C with
 |true=>rw[Cz b]at h;cases h;exact vC b
 |false=>have e:V.rb a (.sl C y)=T:=b;unfold fz;simp only[e,vD,A9d,h,u7,va,AK]
def Tm{d:Nat}{k:hN}{C:uZ}(h:C.mapM (fz a k d)=W g):fz a k (d+1) (.agg C)=W (.agg g):=by
 cases b:V.aL a C with
 |true=>rw[Cz b]at h;cases h;exact vC b
 |false=>have e:V.rb a (.agg C)=T:=b;unfold fz;simp only[e,vD,A9d,h,u7,va,AK]
def Qs3{d:Nat}{x:hN}{C:uZ}{y:V}(b:V.aL a C)(c:fz a x d e=W y):(C++[e]).mapM (fz a x d)=W (C++[y]):=by rw[List.mapM_append,Cz b];simp only[xw,Fe,c,u7,va,AK]
section
variable{b:Bool}{e1 e2:List u2}{C:uZ}{l:u_}{H:hN}{Dww:uZ}{q:O}
def Qx4:hN.get (pO b e1 e2 C l ++ .cells Dww::H) (bp b)=some Dww:=by cases b<;>rfl
def Qs4:hN.get (pO b e1 e2 C l++q :: .cells Dww::H) (bp b+1)=some Dww:=by cases b<;>rfl
def Wm7{E:uZ}:(pO b e1 e2 C l++q :: .cells Dww::H).set (bp b+1) (.cells E)=pO b e1 e2 C l++q :: .cells E::H:=by cases b<;>rfl
def Wie{ms ls st ou:V}{n:Int}(k:V.rb 3 ms)(m:V.rb 3 ls)(o:V.rb (bp b) st)(p:fz (bp b) (pO b e1 e2 (sC ms ls st ou n) l++H) fzD ou=W e):
  ve (bp b) (pO b e1 e2 (sC ms ls st ou n) l++H)=W (pO b e1 e2 (sC ms ls st e n) l):=by
 have g:3<=bp b:=by cases b<;>decide
 have i a n c:fb n a (.mp (cU c))=W (.mp (cU c)):=Td (Qvf c);have q a n:fb n a (.cells (Z l))=W (.cells (Z l)):=Td wB;have f1 a d:fz (bp b) a d ms=some ms:=vC (xI g k);have f2 a d:fz (bp b) a d ls=some ls:=vC (xI g m);have f3 a d:fz (bp b) a d st=some st:=vC o;have f5 a d:fz (bp b) a d (.mp 0)=W (.mp 0):=vC (by cases b<;>rfl);have f6 a d:fz (bp b) a d (.mp 1)=W (.mp 1):=vC (by cases b<;>rfl);have f7 a d x:fz (bp b) a d (iI x)=W (iI x):=vC rfl;have j:fb (bp b) (pO b e1 e2 (sC ms ls st ou n) l++H) (.cells (sC ms ls st ou n))=W (.cells (sC ms ls st e n)):=by
  refine Wpg ?_;have:∀a,fz (bp b) a fzD ou=W e->(sC ms ls st ou n).mapM (fz (bp b) a fzD)=W (sC ms ls st e n):=λa h=>by unfold sC;simp only[xw,Fe,f1,f2,f3,f5,f6,f7,h,u7,va,AK]
  exact this _ p
 have r:(pO b e1 e2 (sC ms ls st ou n) l++H).take (bp b)=pO b e1 e2 (sC ms ls st ou n) l:=by rw[<-QR,List.take_left'];rfl
 unfold ve;rw[r];generalize pO b e1 e2 (sC ms ls st ou n) l++H=a at*;cases b with
 |false=>show([.mp (cU e1),.mp (cU e2),.cells (sC ms ls st ou n)]:hN).mapM (fb 3 a)=_;have f:fb 3 a (.cells (sC ms ls st ou n))=W (.cells (sC ms ls st e n)):=j;simp only[xw,Fe,i,f,u7,va,AK];rfl
 |true=>show([.mp (cU e1),.mp (cU e2),.cells (sC ms ls st ou n),.cells (Z l)]:hN).mapM (fb 4 a)=_;have f:fb 4 a (.cells (sC ms ls st ou n))=W (.cells (sC ms ls st e n)):=j;simp only[xw,Fe,i,q,f,u7,va,AK];rfl
end
theorem Us{ts us:List (V×Int×Int)}(h:ts.map Prod.snd=us.map Prod.snd):∀(f n:Nat),eH ts f n=eH us f n
 |0,n=>rfl
 |f+1,n=>by
  have e:(ts[n]?).map Prod.snd=(us[n]?).map Prod.snd:=by rw[<-ym,<-ym,h]
  have c:=λm=>Us h f m;unfold eH;cases a:ts[n]? with
  |none=>
   cases b:us[n]? with
   |none=>rfl
   |some u=>rw[a,b]at e;cases e
  |some t=>
   cases b:us[n]? with
   |none=>rw[a,b]at e;cases e
   |some u=>rw[a,b]at e;simp only[A0,vU]at e;simp only[e,c]
structure fF where
 holds:List Bool
 value:List UInt8
 gL:Bool
def aK(v:fF):V:=.agg [.sl (v.holds.map Bv) .no,.str v.value,.bool v.gL]
def OM{n:Nat}(v:fF):V.rb n (aK v):=by show V.aL n [.sl (v.holds.map Bv) .no,.str v.value,.bool v.gL];rw[Qae,Dg,AM λ_=>rfl];rfl
attribute [go_sem] OM
abbrev fq:=List Int×Int×Int
def lj(x:fq):V×Int×Int:=(.sl (Z x.1) .no,x.2)
def dO(l:List fq):uZ:=l.map λx=>gz (lj x)
def Qvh(l:List fq):V.aL a (dO l):=AM λx=>by show V.aL a [.sl (Z x.1) .no,iI x.2.1,iI x.2.2];rw[Qae,Dg,wB];rfl
structure aY where
 aM:List fq
 out:List fF
 steps:Int
def aF(ms:y8)(l:u_):List Bool:=List.zipWith kC ms l
def Qa2(S:aY):List u2:=S.aM.map λx=>aE x.1
def zP(l:List fF):List u2:=l.map λv=>aQ v.holds
def Qa9(S:aY):List u2:=zP S.out
def cM(ms:y8)(a:List fq)(x:fq):fF:=⟨aF ms x.1,pH (eH ((a++[x]).map lj) (a.length+1) a.length).reverse,false⟩
def ed(ms:y8)(S:aY)(x:fq):List fF:=if bu (Qa9 S) (aQ (aF ms x.1))then S.out else S.out++[cM ms S.aM x]
def bS(ms:y8)(S:aY)(x:fq):aY:=if bu (Qa2 S) (aE x.1)then S else⟨S.aM++[x],ed ms S x,S.steps⟩
def lq(l:List fF):bU:=if l.length=1 then .fx else .gr 3
def gB(l:List fF):V:=.sl (l.map aK) (lq l)
def Wyq(l:List fF):lq l=.fx\/lq l=.gr 3:=by
 unfold lq;split
 ·exact .inl rfl
 ·exact .inr rfl
def Qvi{n:Nat}(l:List fF):V.rb n (gB l):=AM λv=>OM v
def bn(b:Bool)(ms:y8)(ls:u_)(ks a:List u2)(st:V)(ou:List fF)(n:Int)(l:u_):hN:=pO b ks a (sC (vG bm 1 ms) (.sl (Z ls) .no) st (gB ou) n) l
def sO(b:Bool)(ms:y8)(ls:u_)(S:aY)(l:u_):hN:=bn b ms ls (Qa2 S) (Qa9 S) (rG 3 (dO S.aM)) S.out S.steps l
def Wm8(h:V.aL a g):V.rb a (rG G g):=by cases g with|nil=>rfl|cons x r=>exact h
def XW{n:Nat}(ms:y8):V.rb n (vG bm 1 ms):=Qc3 λm=>Up m
structure tZ (ms:List Mc) (S:aY):Prop where
 pt:∀m∈ms,jj m.pt
 nm:ms.length<=1000
 ne:S.out≠[]
 fr:∀(i:Nat) (x:fq),S.aM[i]?=some x->-1<=x.2.1/\x.2.1<i
 ch:∀(i:Nat) (x:fq),S.aM[i]?=some x->0<=x.2.1->Qbn x.2.2=true
 ns:S.aM.length<=1000000
 no:S.out.length<=1000000
structure t_ (ms:List Mc) (S:aY) (x:fq):Prop where
 len:x.1.length=ms.length
 sm:∀st∈x.1,-1<=st/\st<10
 fr:-1<=x.2.1/\x.2.1<S.aM.length
 ch:0<=x.2.1->Qbn x.2.2=true
def VU{n:Nat}{b:hN}(h:ve n d=W b)(c:V.rb n e):nK n d e=W (e,b):=by unfold nK;rw[h,vQ,vC c,vQ]
def Qe{xs:uZ}{y:V}:rG a (xs++[y])=.sl (xs++[y]) (.gr a):=by cases xs<;>rfl
def Wyr{b:Bool}{l:u_}{a:O}{i:Nat}(d:i<U.length):u5 (pO b r L g l++[a,.cells U]) 1 (.ptr (bp b+1) i) (.bool J) (.bool J)=W (.undef,pO b r L g l++[a,.cells (U.set i (.bool J))]):=by
 have:u5 (pO b r L g l++[a,.cells U]) 1 (.ptr (bp b+1) i) (.bool J) (.bool J)=(hN.get (pO b r L g l++[a,.cells U]) (bp b+1)).bind λc=>if(1:Nat)=1/\i+1<=c.length/\yd [V.bool J]=true then W (.undef,((pO b r L g l++[a,.cells U]:hN).set (bp b+1) (O.cells (c.set i (.bool J))):hN))else none:=rfl
 rw[this,Qs4,va,A9a ⟨rfl,by omega,rfl⟩,Wm7]
def BX(b:Bool)(x:fq):uZ:=[gA b x.1,.int .i64 x.2.1,.int .i64 x.2.2]
section
variable(b:Bool)(ms:y8)(ls:u_)
def Wts(x:fq):V.aL (bp b) (BX b x):=by unfold BX;rw[Qae,Wyh];rfl
def To{st:V}(a:V.rb (bp b) st)(ou:List fF)(n:Int):V.aL (bp b) (sC (vG bm 1 ms) (.sl (Z ls) .no) st (gB ou) n):=
 Wm6 (XW ms) wB a (Qvi ou) (by cases b<;>decide)
def Wif(ks c:List u2)(a:V.rb (bp b) e)(ou:List fF)(n:Int)(l:u_):Wf (bn b ms ls ks c e ou n l):=Wic (To b ms ls a ou n)
def Wm9(ks a:List u2){C:uZ}(c:V.aL (bp b) C)(x:fq):Wf (pO b ks a C x.1++[.cells (BX b x)]):=by refine MS (Wic c) λy d => ?_;obtain rfl:=vR.1 d;rw[QR];exact zB u0 (Wts b x)
def Qnv(ks d:List u2){C:uZ}(e:V.aL (bp b) C)(x:fq)(a:List Bool):Wf (pO b ks d C x.1++[.cells (BX b x),.cells (a.map Bv)]):=by
 refine MS (Wic e) λy c => ?_;rw[QR];simp only[vZ,AS,R7]at c;rcases c with rfl|rfl
 ·exact zB u0 (Wts b x)
 ·exact AM λ_=>rfl
variable(S:aY)(x:fq)
def cr:V:=rG 3 (dO S.aM++[gz (gA b x.1,x.2)])
def Wph:V.rb (bp b) (cr b S x):=by
 unfold cr;refine Wm8 ?_;have h:∀(l:uZ) (y:V),V.aL (bp b) l->V.rb (bp b) y->V.aL (bp b) (l++[y]):=λl y a c=>by
  induction l with
  |nil=>rw[xQ,Qae,c];rfl
  |cons z r d=>rw[Qae,vc]at a;rw[AJ,Qae,a.1,d a.2];rfl
 exact h _ _ (Qvh _) (Wts b x)
variable(q:tZ ms S)(u:t_ ms S x)
include q u
theorem Wna:(aF ms x.1).length=ms.length:=by unfold aF;rw[Uf,u.len,Nat.min_self]
theorem Wtt(X:Rk):AB QaT (bp b) (bp b+2) X (.ptr 2 0) (.ptr (bp b) 0) (.hs (bp b+1) 0 ms.length 1 T) (ae bm (ak ms)) (iI ms.length) (iI ms.length) (bn b ms ls (Qa2 S++[aE x.1]) (Qa9 S) (cr b S x) S.out S.steps x.1++[.cells (BX b x),.cells ((aF ms x.1).map Bv)])
  = W (.aR [],bn b ms ls (Qa2 S++[aE x.1]) (zP (ed ms S x)) (cr b S x) (ed ms S x) S.steps x.1):=by
 have j:=Wna ms S x q u;have e1:¬(ms.length:Int)<ms.length:=by omega
 have k:3<=bp b:=by cases b<;>decide
 have P I:fz (bp b+2) I fzD (.ptr 2 0)=W (.ptr 2 0):=vC (by simp[V.rb];omega);have g:=Wph b S x;have k:=To b ms ls g S.out S.steps;have m:=Qnv b (Qa2 S++[aE x.1]) (Qa9 S) k x (aF ms x.1);have p:∀(Q R:List u2) (C:uZ) (y z:O),(pO b Q R C x.1++[y,z]).length=bp b+2:=λQ R C y z=>by rw[vW,QR];rfl
 have a:=Kk m;rw[p]at a;have c:=Wye (o:=bp b+1) (l:=aF ms x.1) m Qs4 (by rw[j];have:=q.nm;omega);rw[j]at c;have U:eL (bn b ms ls (Qa2 S++[aE x.1]) (Qa9 S) (cr b S x) S.out S.steps x.1++[.cells (BX b x),.cells ((aF ms x.1).map Bv)]) T 1 (.ptr 2 4)=W (.mp 1):=Wyk;have A:Mo .s (bn b ms ls (Qa2 S++[aE x.1]) (Qa9 S) (cr b S x) S.out S.steps x.1++[.cells (BX b x),.cells ((aF ms x.1).map Bv)]) (.bool T) (.mp 1) (.str (aQ (aF ms x.1))) T=W (.bool (bu (Qa9 S) (aQ (aF ms x.1)))):=Xo Wib;unfold ed;cases D:bu (Qa9 S) (aQ (aF ms x.1))with
 |true=>
  rw[D]at A;simp only[A9c];have d:nK (bp b) (bn b ms ls (Qa2 S++[aE x.1]) (Qa9 S) (cr b S x) S.out S.steps x.1++[.cells (BX b x),.cells ((aF ms x.1).map Bv)]) (.aR [])=W (.aR [],bn b ms ls (Qa2 S++[aE x.1]) (zP S.out) (cr b S x) S.out S.steps x.1):=
   VU (Wie (XW ms) wB g (vC (Qvi _))) rfl
  change E cx 100 _ (bn b ms ls (Qa2 S++[aE x.1]) (Qa9 S) (cr b S x) S.out S.steps x.1++[.cells (BX b x),.cells ((aF ms x.1).map Bv)])=W (_,bn b ms ls (Qa2 S++[aE x.1]) (Qa9 S) (cr b S x) S.out S.steps x.1++[.cells (BX b x),.cells ((aF ms x.1).map Bv)])at c;change ve (bp b+2) (bn b ms ls (Qa2 S++[aE x.1]) (Qa9 S) (cr b S x) S.out S.steps x.1++[.cells (BX b x),.cells ((aF ms x.1).map Bv)])=W (bn b ms ls (Qa2 S++[aE x.1]) (Qa9 S) (cr b S x) S.out S.steps x.1++[.cells (BX b x),.cells ((aF ms x.1).map Bv)])at a;have e:(V.hs (bp b+1) 0 ms.length 1 T).ng=.hs (bp b+1) 0 ms.length 1 T:=rfl;simp -implicitDefEqProofs(disch:=try exact wK)only[go_sem,AB,e1,P,e,a,c,U,A,d]
 |false=>
  rw[D]at A;simp only[vD,A9d];have e:=Wyq S.out;have F:JW .s (bn b ms ls (Qa2 S++[aE x.1]) (Qa9 S) (cr b S x) S.out S.steps x.1++[.cells (BX b x),.cells ((aF ms x.1).map Bv)]) (.mp 1) (.str (aQ (aF ms x.1))) (.bool true)=W (.undef,bn b ms ls (Qa2 S++[aE x.1]) (Qa9 S++[aQ (aF ms x.1)]) (cr b S x) S.out S.steps x.1++[.cells (BX b x),.cells ((aF ms x.1).map Bv)]):=by have d:=Xp (K:=aQ (aF ms x.1)) (Wib (b:=b) (e1:=Qa2 S++[aE x.1]) (e2:=Qa9 S) (C:=sC (vG bm 1 ms) (.sl (Z ls) .no) (cr b S x) (gB S.out) S.steps) (l:=x.1) (H:=[.cells (BX b x),.cells ((aF ms x.1).map Bv)])) D;rw[Wtr]at d;exact d
  have tk:Zy (bn b ms ls (Qa2 S++[aE x.1]) (Qa9 S++[aQ (aF ms x.1)]) (cr b S x) S.out S.steps x.1++[.cells (BX b x),.cells ((aF ms x.1).map Bv)]) (.ptr 2 5)=W (.sl (S.out.map aK) (lq S.out),pO b (Qa2 S++[aE x.1]) (Qa9 S++[aQ (aF ms x.1)]) (sC (vG bm 1 ms) (.sl (Z ls) .no) (cr b S x) (gK (gB S.out)) S.steps) x.1++[.cells (BX b x),.cells ((aF ms x.1).map Bv)]):=Wyp e;have lk:ZU [VH (bn b ms ls (Qa2 S++[aE x.1]) (Qa9 S++[aQ (aF ms x.1)]) (cr b S x) S.out S.steps x.1++[.cells (BX b x),.cells ((aF ms x.1).map Bv)]) (.ptr 2 5)] (pO b (Qa2 S++[aE x.1]) (Qa9 S++[aQ (aF ms x.1)]) (sC (vG bm 1 ms) (.sl (Z ls) .no) (cr b S x) (gK (gB S.out)) S.steps) x.1++[.cells (BX b x),.cells ((aF ms x.1).map Bv)])=W (pO b (Qa2 S++[aE x.1]) (Qa9 S++[aQ (aF ms x.1)]) (sC (vG bm 1 ms) (.sl (Z ls) .no) (cr b S x) (kd (gB S.out)) S.steps) x.1++[.cells (BX b x),.cells ((aF ms x.1).map Bv)]):=by
   have:=sw (b:=b) (e1:=Qa2 S++[aE x.1]) (e2:=Qa9 S++[aQ (aF ms x.1)]) (ms:=vG bm 1 ms) (ls:=.sl (Z ls) .no) (st:=cr b S x) (n:=S.steps) (l:=x.1) (H:=[.cells (BX b x),.cells ((aF ms x.1).map Bv)]) (xs:=S.out.map aK) e;have G:VH (bn b ms ls (Qa2 S++[aE x.1]) (Qa9 S++[aQ (aF ms x.1)]) (cr b S x) S.out S.steps x.1++[.cells (BX b x),.cells ((aF ms x.1).map Bv)]) (.ptr 2 5)=if lq S.out=.fx then .same true 2 5 1 else .cE 2 5:=this
   rw[G];exact tX e
  have op:w_ [VH (bn b ms ls (Qa2 S++[aE x.1]) (Qa9 S++[aQ (aF ms x.1)]) (cr b S x) S.out S.steps x.1++[.cells (BX b x),.cells ((aF ms x.1).map Bv)]) (.ptr 2 5)] (pO b (Qa2 S++[aE x.1]) (Qa9 S++[aQ (aF ms x.1)]) (sC (vG bm 1 ms) (.sl (Z ls) .no) (cr b S x) (gK (gB S.out)) S.steps) x.1++[.cells (BX b x),.cells ((aF ms x.1).map Bv)]) (pO b (Qa2 S++[aE x.1]) (Qa9 S++[aQ (aF ms x.1)]) (sC (vG bm 1 ms) (.sl (Z ls) .no) (cr b S x) (kd (gB S.out)) S.steps) x.1++[.cells (BX b x),.cells ((aF ms x.1).map Bv)])=W (pO b (Qa2 S++[aE x.1]) (Qa9 S++[aQ (aF ms x.1)]) (sC (vG bm 1 ms) (.sl (Z ls) .no) (cr b S x) (gK (gB S.out)) S.steps) x.1++[.cells (BX b x),.cells ((aF ms x.1).map Bv)]):=by
   have:=sw (b:=b) (e1:=Qa2 S++[aE x.1]) (e2:=Qa9 S++[aQ (aF ms x.1)]) (ms:=vG bm 1 ms) (ls:=.sl (Z ls) .no) (st:=cr b S x) (n:=S.steps) (l:=x.1) (H:=[.cells (BX b x),.cells ((aF ms x.1).map Bv)]) (xs:=S.out.map aK) e;have G:VH (bn b ms ls (Qa2 S++[aE x.1]) (Qa9 S++[aQ (aF ms x.1)]) (cr b S x) S.out S.steps x.1++[.cells (BX b x),.cells ((aF ms x.1).map Bv)]) (.ptr 2 5)=if lq S.out=.fx then .same true 2 5 1 else .cE 2 5:=this
   rw[G];exact tY e
  have r k:V.rb k (kd (gB S.out)):=by unfold gB;rcases e with h|h<;>rw[h]<;>exact AM λv=>OM v
  have J:=Qnv b (Qa2 S++[aE x.1]) (Qa9 S++[aQ (aF ms x.1)]) (C:=sC (vG bm 1 ms) (.sl (Z ls) .no) (cr b S x) (kd (gB S.out)) S.steps) (Wm6 (XW ms) wB g (r _) Y) x (aF ms x.1);have s:E cx 131 [.ptr 2 0,iI ((S.aM.length+1:Nat)-1:Int)] (pO b (Qa2 S++[aE x.1]) (Qa9 S++[aQ (aF ms x.1)]) (sC (vG bm 1 ms) (.sl (Z ls) .no) (cr b S x) (kd (gB S.out)) S.steps) x.1++[.cells (BX b x),.cells ((aF ms x.1).map Bv)])=W (.str (cM ms S.aM x).value,pO b (Qa2 S++[aE x.1]) (Qa9 S++[aQ (aF ms x.1)]) (sC (vG bm 1 ms) (.sl (Z ls) .no) (cr b S x) (kd (gB S.out)) S.steps) x.1++[.cells (BX b x),.cells ((aF ms x.1).map Bv)]):=by
   have f:∀(i:Nat) (t:V×Int×Int),(S.aM.map lj++[(gA b x.1,x.2)])[i]?=W t->-1<=t.2.1/\t.2.1<i/\(0<=t.2.1->Qbn t.2.2):=λi t d=>by
    by_cases k:i<S.aM.length
    ·rw[AH (by simpa using k),ym]at d;cases B:S.aM[i]? with
     |none=>rw[B]at d;cases d
     |some y=>rw[B]at d;cases d;have K:=q.fr i y B;exact⟨K.1,K.2,q.ch i y B⟩
    ·have B:i=S.aM.length:=by refine Dx λM => ?_;rw[B0 yZ]at d;cases d
     subst B;rw[DQ u0]at d;simp only[wq,EU,Gs,vU]at d;subst d;exact⟨u.fr.1,u.fr.2,u.ch⟩
   have M:=q.ns;have h:=Wtp (sp:=2) (ts:=S.aM.map lj++[(gA b x.1,x.2)]) (cp:=.gr 3) J w1 (by unfold cr;rw[Qe];unfold dO;rw[yW,Ni];rfl) (λi t d=>⟨(f i t d).1,(f i t d).2.1⟩) (λi t d=>(f i t d).2.2) yZ S.aM.length u0 Y
   rw[show((S.aM.length+1:Nat)-1:Int)=S.aM.length by omega,h];unfold cM;rw[Us (us:=(S.aM++[x]).map lj) (by simp[lj])]
  have l2:eL (pO b (Qa2 S++[aE x.1]) (Qa9 S++[aQ (aF ms x.1)]) (sC (vG bm 1 ms) (.sl (Z ls) .no) (cr b S x) (gK (gB S.out)) S.steps) x.1++[.cells (BX b x),.cells ((aF ms x.1).map Bv)]) T 1 (.ptr 2 2)=W (.sl (dO S.aM++[gz (gA b x.1,x.2)]) .no):=by rw[Wid];unfold cr;rw[Qe];rfl
  have lS:Qai (.sl (dO S.aM++[gz (gA b x.1,x.2)]) .no)=W (iI (S.aM.length+1:Nat)):=by rw[Wfr,vW];unfold dO;rw[wq];rfl
  have i:((S.aM.length+1:Nat):Int)<=1000001/\1<=((S.aM.length+1:Nat):Int):=by have:=q.ns;omega
  have bv:mz [.ad,.str [],.bool T] [(0,1,.hs (bp b+1) 0 ms.length 1 T),(1,1,.str (cM ms S.aM x).value)]=W (.agg [.hs (bp b+1) 0 ms.length 1 T,.str (cM ms S.aM x).value,.bool T]):=rfl;have bf:wS true 3 1 (.agg [.ad,.str [],.bool T]) [(0,.agg [.hs (bp b+1) 0 ms.length 1 T,.str (cM ms S.aM x).value,.bool T])]=W (.sl [.agg [.hs (bp b+1) 0 ms.length 1 T,.str (cM ms S.aM x).value,.bool T]] .fx):=rfl;have ap I:aT T true 3 48 I (.sl (S.out.map aK) (lq S.out)) (.sl [.agg [.hs (bp b+1) 0 ms.length 1 T,.str (cM ms S.aM x).value,.bool T]] .no)=W (.sl (S.out.map aK++[.agg [.hs (bp b+1) 0 ms.length 1 T,.str (cM ms S.aM x).value,.bool T]]) (.gr 3)):=
   Wyg e (λy d=>by obtain⟨v,_,rfl⟩:=wa.1 d;rfl) rfl (by rw[wq];have:=q.no;unfold Qaq;omega)
  have w:=λv=>Wym (b:=b) (e1:=Qa2 S++[aE x.1]) (e2:=Qa9 S++[aQ (aF ms x.1)]) (ms:=vG bm 1 ms) (ls:=.sl (Z ls) .no) (st:=cr b S x) (ou:=gK (gB S.out)) (n:=S.steps) (l:=x.1) (H:=[.cells (BX b x),.cells ((aF ms x.1).map Bv)]) (v:=.sl (S.out.map aK++[.agg [.hs (bp b+1) 0 ms.length 1 T,.str v,.bool T]]) .no) (t:=.sl (S.out.map aK++[.agg [.hs (bp b+1) 0 ms.length 1 T,.str v,.bool T]]) (.gr 3)) rfl rfl (λN h=>by cases h) rfl;have L:=w (cM ms S.aM x).value;have M:gB (S.out++[cM ms S.aM x])=.sl (S.out.map aK++[.agg [.sl ((aF ms x.1).map Bv) .no,.str (cM ms S.aM x).value,.bool T]]) (.gr 3):=by
   unfold gB lq;have:¬(S.out++[cM ms S.aM x]).length=1:=by rw[vW];have:S.out.length≠0:=λh=>q.ne (CP.1 h);show ¬(S.out.length+1=1);omega
   rw[O3 this,yW];rfl
  have N:zP (S.out++[cM ms S.aM x])=Qa9 S++[aQ (aF ms x.1)]:=by unfold Qa9 zP;rw[yW];rfl
  have he:nK (bp b) (pO b (Qa2 S++[aE x.1]) (Qa9 S++[aQ (aF ms x.1)]) (sC (vG bm 1 ms) (.sl (Z ls) .no) (cr b S x) (.sl (S.out.map aK++[.agg [.hs (bp b+1) 0 ms.length 1 T,.str (cM ms S.aM x).value,.bool T]]) (.gr 3)) S.steps) x.1++[.cells (BX b x),.cells ((aF ms x.1).map Bv)]) (.aR [])=W (.aR [],bn b ms ls (Qa2 S++[aE x.1]) (zP (S.out++[cM ms S.aM x])) (cr b S x) (S.out++[cM ms S.aM x]) S.steps x.1):=by
   rw[N];refine VU (Wie (XW ms) wB g ?_) rfl;rw[M];unfold fzD;refine Qs2 (d:=39) (Qs3 (AM λv=>OM v) (Tm (d:=38) ?_));have f1:fz (bp b) (pO b (Qa2 S++[aE x.1]) (Qa9 S++[aQ (aF ms x.1)]) (sC (vG bm 1 ms) (.sl (Z ls) .no) (cr b S x) (.sl (S.out.map aK++[.agg [.hs (bp b+1) 0 ms.length 1 T,.str (cM ms S.aM x).value,.bool T]]) (.gr 3)) S.steps) x.1++[.cells (BX b x),.cells ((aF ms x.1).map Bv)]) 38 (.hs (bp b+1) 0 ms.length 1 T)=W (.sl ((aF ms x.1).map Bv) .no):=by rw[<-j];exact Wh0 (d:=37) (f:=Bv) (λ_=>rfl) (λ_ _=>rfl) (GX _) Qs4
   rw[xw,f1];rfl
  change E cx 100 _ (bn b ms ls (Qa2 S++[aE x.1]) (Qa9 S) (cr b S x) S.out S.steps x.1++[.cells (BX b x),.cells ((aF ms x.1).map Bv)])=W (_,bn b ms ls (Qa2 S++[aE x.1]) (Qa9 S) (cr b S x) S.out S.steps x.1++[.cells (BX b x),.cells ((aF ms x.1).map Bv)])at c;change ve (bp b+2) (bn b ms ls (Qa2 S++[aE x.1]) (Qa9 S) (cr b S x) S.out S.steps x.1++[.cells (BX b x),.cells ((aF ms x.1).map Bv)])=W (bn b ms ls (Qa2 S++[aE x.1]) (Qa9 S) (cr b S x) S.out S.steps x.1++[.cells (BX b x),.cells ((aF ms x.1).map Bv)])at a;have d:(V.hs (bp b+1) 0 ms.length 1 T).ng=.hs (bp b+1) 0 ms.length 1 T:=rfl;simp -implicitDefEqProofs(disch:=try exact wK)only[go_sem,AB,e1,P,d,a,c,U,A,F,tk,l2,lS,lk,s,op,bv,bf,ap,L,he]
end
def Wys(b:Bool)(x:fq):yd (BX b x):=by cases b<;>rfl
def Wtu(b:Bool)(x:fq):(BX b x).map V.ng=BX b x:=by cases b<;>rfl
def Xw(k:Nat)(m:Mc):(V.eQ k (bm m)).ng=.eQ k (bm m):=rfl
section
variable(b:Bool)(ms:y8)(ls:u_)(S:aY)(x:fq)(Q:tZ ms S)(u:t_ ms S x)
include Q u
theorem X_:∀(r q:y8) (h d:u_),ms=q++r->x.1=d++h->d.length=q.length->
  DA QaT (bp b) (bp b+2) [.ptr 2 0,.ptr (bp b) 0,.hs (bp b+1) 0 ms.length 1 T,ae bm (ak ms),iI ms.length,iI q.length] (bn b ms ls (Qa2 S++[aE x.1]) (Qa9 S) (cr b S x) S.out S.steps x.1++[.cells (BX b x),.cells ((aF q d++List.replicate r.length T).map Bv)])
  = W (.aR [],bn b ms ls (Qa2 S++[aE x.1]) (zP (ed ms S x)) (cr b S x) (ed ms S x) S.steps x.1)
 |[],q,h,d,e,a,f=>by
  have c:q=ms:=by rw[e];simp
  have g:d=x.1:=by have:=u.len;rw[a,vW,<-c,<-f]at this;have:h=[]:=CP.1 Y;rw[a,this,wt]
  subst c g;rw[IB,xJ,JJ,wt];exact Wtt b q ls S x Q u _
 |m::r,q,[],d,a,c,e=>by have:=u.len;rw[c,a]at this;simp at this;omega
 |m::r,q,f::h,d,w,J,v=>by
  have e:ms.length=q.length+r.length+1:=by rw[w];simp;omega
  have U:(q.length:Int)<ms.length:=by omega
  have X:3<=bp b:=by cases b<;>decide
  have fp I:fz (bp b+2) I fzD (.ptr 2 0)=W (.ptr 2 0):=vC (by simp[V.rb];omega);have fH I:fz (bp b+2) I fzD (.hs (bp b+1) 0 ms.length 1 T)=W (.hs (bp b+1) 0 ms.length 1 T):=vC (by simp[V.rb]);have fM I:fz (bp b+2) I fzD (ae bm (ak ms))=W (ae bm (ak ms)):=vC (vw λm _=>Up m);have nM:(ae bm (ak ms)).ng=ae bm (ak ms):=vz;have B:=Wph b S x;have K:=To b ms ls B S.out S.steps;have n:∀(L M:List u2) (C:uZ) (y z:O),(pO b L M C x.1++[y,z]).length=bp b+2:=λL M C y z=>by rw[vW,QR];rfl
  have o:∀g:List Bool,ve (bp b+2) (bn b ms ls (Qa2 S++[aE x.1]) (Qa9 S) (cr b S x) S.out S.steps x.1++[.cells (BX b x),.cells (g.map Bv)])=W (bn b ms ls (Qa2 S++[aE x.1]) (Qa9 S) (cr b S x) S.out S.steps x.1++[.cells (BX b x),.cells (g.map Bv)]):=λg=>by
   have:=Kk (Qnv b (Qa2 S++[aE x.1]) (Qa9 S) K x g)
   rwa[n]at this
  have i1:eI 1 (iI q.length) (ae bm (ak ms))=W (.ai [bm m] 0):=by
   have:=KZ (s:=ak ms) (k:=.i64) (i:=q.length) (sz:=1) (by rw[CL];exact w) rfl (by rw[SB];rfl)
   rwa[SB]at this
  have D I:eL I T 1 (.ai [bm m] 0)=W (bm m):=by show W (bm m).ng=_;rw[Qvd]
  have i E:eL (bn b ms ls (Qa2 S++[aE x.1]) (Qa9 S) (cr b S x) S.out S.steps x.1++[.cells (BX b x),.cells E]) T 1 (.ptr (bp b) 0)=W (gA b x.1):=by unfold bn;rw[yo,Qx4];show W (gA b x.1).ng=_;rw[Qvg]
  have e:=Wyi (H:=[O.cells (BX b x),.cells ((aF q d++List.replicate (m::r).length T).map Bv)]) (Qnv b (Qa2 S++[aE x.1]) (Qa9 S) K x (aF q d++List.replicate (m::r).length T));have⟨l,P,i3,j⟩:=e.rd d h f J;rw[v]at P;have j:=j [];rw[wt]at j;have j:eL (bn b ms ls (Qa2 S++[aE x.1]) (Qa9 S) (cr b S x) S.out S.steps x.1++[.cells (BX b x),.cells ((aF q d++List.replicate (m::r).length T).map Bv)]) T 1 l=W (iI f):=j;have ca:=λI=>sk m f I;have nm:=Qvd m;have m1:=λk=>Wx1 k m;have m2:=λk=>Wx5 k m;have m3:=λk=>Xw k m;have i5:eI 1 (iI q.length) (.hs (bp b+1) 0 ms.length 1 T)=W (.ptr (bp b+1) q.length):=yl Y;have p:(aF q d).length=q.length:=by unfold aF;rw[Uf,v,Nat.min_self]
  have t:((aF q d++List.replicate (m::r).length T).map Bv).set q.length (.bool (kC m f))=(aF (q++[m]) (d++[f])++List.replicate r.length T).map Bv:=by
   rw[vT,Gu,yW,xc];have e:q.length=((aF q d).map Bv).length:=by rw[wq,p]
   rw[e,Wh1];unfold aF;rw[List.zipWith_append v.symm];simp
  have s1:u5 (bn b ms ls (Qa2 S++[aE x.1]) (Qa9 S) (cr b S x) S.out S.steps x.1++[.cells (BX b x),.cells ((aF q d++List.replicate (m::r).length T).map Bv)]) 1 (.ptr (bp b+1) q.length) (.bool (kC m f)) (.bool (kC m f))=W (.undef,bn b ms ls (Qa2 S++[aE x.1]) (Qa9 S) (cr b S x) S.out S.steps x.1++[.cells (BX b x),.cells ((aF (q++[m]) (d++[f])++List.replicate r.length T).map Bv)]):=by rw[<-t];exact Wyr (by simp[p])
  have R:=X_ r (q++[m]) h (d++[f]) (by rw[w];simp) (by rw[J];simp) (by simp[v]);rw[show((q++[m]).length:Int)=q.length+1 by simp]at R;have F:=o (aF (q++[m]) (d++[f])++List.replicate r.length T);have G:=i ((aF q d++List.replicate (m::r).length T).map Bv);rw[IB];have e:=Q.nm;generalize bn b ms ls (Qa2 S++[aE x.1]) (zP (ed ms S x)) (cr b S x) (ed ms S x) S.steps x.1=c,bn b ms ls (Qa2 S++[aE x.1]) (Qa9 S) (cr b S x) S.out S.steps x.1++[.cells (BX b x),.cells ((aF q d++List.replicate (m::r).length T).map Bv)]=a,bn b ms ls (Qa2 S++[aE x.1]) (Qa9 S) (cr b S x) S.out S.steps x.1++[.cells (BX b x),.cells ((aF (q++[m]) (d++[f])++List.replicate r.length T).map Bv)]=Z2 at*;have nH:(V.hs (bp b+1) 0 ms.length 1 T).ng=.hs (bp b+1) 0 ms.length 1 T:=rfl;have nA:=Qvg (b:=b) (l:=x.1);generalize q.length=hS,kC m f=AC,gA b x.1=A,bm m=MM,ms.length=N,ae bm (ak ms)=MV,V.hs (bp b+1) 0 ms.length 1 T=g at*;simp -implicitDefEqProofs(disch:=try exact wK)only[go_sem,AB,U,i1,D,G,P,i3,j,ca,nm,m1,m2,m3,i5,s1,fp,fH,fM,nM,nH,nA,F,R]
def pR(b:Bool)(ms:y8)(ls:u_)(S:aY)(x:fq):hN:=
 if bu (Qa2 S) (aE x.1)then sO b ms ls S x.1 else bn b ms ls (Qa2 S++[aE x.1]) (zP (ed ms S x)) (cr b S x) (ed ms S x) S.steps x.1
theorem Wyt{e1 e2:List u2}{C:uZ}{H:hN}(a:Wf (pO b e1 e2 C x.1++H)):E cx 130 [gA b x.1] (pO b e1 e2 C x.1++H)=W (.str (aE x.1),pO b e1 e2 C x.1++H):=by
 have c:=u.len;have d:=Q.nm;cases b with
 |false=>exact sn x.1 Y u.sm _
 |true=>exact Wyc a rfl Y u.sm
theorem Wyu:E cx 116 [.ptr 2 0,.agg (BX b x)] (sO b ms ls S x.1)=W (.aR [],pR b ms ls S x):=by
 have P:3<=bp b:=by cases b<;>decide
 have c:V.rb (bp b) (rG 3 (dO S.aM)):=Wm8 (Qvh _);have j:=To b ms ls c S.out S.steps;have R:=Wif b ms ls (Qa2 S) (Qa9 S) c S.out S.steps x.1;have e:(sO b ms ls S x.1).length=bp b:=QR;have F:bK (sO b ms ls S x.1) (.agg (BX b x))=W (.ptr (bp b) 0,sO b ms ls S x.1++[.cells (BX b x)]):=by rw[Qos,RH,e];have:=Wys b x;rw[this,A9a rfl];have:=Wtu b x;rw[this]
 have k:=Wm9 b (Qa2 S) (Qa9 S) j x;have U:∀(G J:List u2) (C:uZ) (H:hN),eL (pO b G J C x.1 ++ .cells (BX b x)::H) T 1 (.ptr (bp b) 0)=W (gA b x.1):=λG J C H=>by rw[yo,Qx4];show W (gA b x.1).ng=_;rw[Qvg]
 have f:eL (sO b ms ls S x.1++[.cells (BX b x)]) T 1 (.ptr (bp b) 0)=W (gA b x.1):=U _ _ _ [];have d:E cx 130 [gA b x.1] (sO b ms ls S x.1++[.cells (BX b x)])=W (.str (aE x.1),sO b ms ls S x.1++[.cells (BX b x)]):=Wyt b ms S x Q u k;have L:eL (sO b ms ls S x.1++[.cells (BX b x)]) T 1 (.ptr 2 3)=W (.mp 0):=Wyj;have i:Mo .s (sO b ms ls S x.1++[.cells (BX b x)]) (.bool T) (.mp 0) (.str (aE x.1)) T=W (.bool (bu (Qa2 S) (aE x.1))):=Xo Xq;have n:(sO b ms ls S x.1).isEmpty=T:=by cases b<;>rfl
 rw[Cy _ _ _ rfl n];unfold pR;cases o:bu (Qa2 S) (aE x.1)with
 |true=>rw[o]at i;simp only[A9c];have a:nK (bp b) (sO b ms ls S x.1++[.cells (BX b x)]) (.aR [])=W (.aR [],sO b ms ls S x.1):=VU (Wie (XW ms) wB c (vC (Qvi _))) rfl;have g:=Qvg (b:=b) (l:=x.1);simp -implicitDefEqProofs(disch:=try exact wK)only[go_sem,Km,e,F,f,g,d,L,i,a]
 |false=>
  rw[o]at i;simp only[vD,A9d];have p:JW .s (sO b ms ls S x.1++[.cells (BX b x)]) (.mp 0) (.str (aE x.1)) (.bool true)=W (.undef,bn b ms ls (Qa2 S++[aE x.1]) (Qa9 S) (rG 3 (dO S.aM)) S.out S.steps x.1++[.cells (BX b x)]):=by have h:=Xp (K:=aE x.1) (Xq (b:=b) (e1:=Qa2 S) (e2:=Qa9 S) (C:=sC (vG bm 1 ms) (.sl (Z ls) .no) (rG 3 (dO S.aM)) (gB S.out) S.steps) (l:=x.1) (H:=[.cells (BX b x)])) o;rw[Wtq]at h;exact h
  have tk:Zy (bn b ms ls (Qa2 S++[aE x.1]) (Qa9 S) (rG 3 (dO S.aM)) S.out S.steps x.1++[.cells (BX b x)]) (.ptr 2 2)=W (rG 3 (dO S.aM),bn b ms ls (Qa2 S++[aE x.1]) (Qa9 S) (gK (rG 3 (dO S.aM))) S.out S.steps x.1++[.cells (BX b x)]):=Wyo;have l3:eL (bn b ms ls (Qa2 S++[aE x.1]) (Qa9 S) (gK (rG 3 (dO S.aM))) S.out S.steps x.1++[.cells (BX b x)]) true 3 (.ptr (bp b) 0)=W (.agg (BX b x)):=by unfold bn;rw[yo,Qx4];exact P5 rfl (Wtu b x)
  have q:yd (BX b x):=Wys b x;have c:(BX b x).map V.ng=BX b x:=Wtu b x;have bf:wS true 3 1 (.agg [.ad,iI 0,iI 0]) [(0,.agg (BX b x))]=W (.sl [.agg (BX b x)] .fx):=by cases b<;>rfl
  have m:ZS true 3 [.agg (BX b x)]:=by rw[zw,RH,q];rfl
  have ap I:aT T true 3 40 I (rG 3 (dO S.aM)) (.sl [.agg (BX b x)] .no)=W (cr b S x):=
   Wpe (λy h=>by obtain⟨v,_,rfl⟩:=wa.1 h;rfl) m (by unfold dO;rw[wq];have:=Q.ns;unfold Qaq;omega)
  have nN:(cr b S x).ng=.sl (dO S.aM++[gz (gA b x.1,x.2)]) .no:=by unfold cr;rw[Qe];rfl
  have r:u5 (bn b ms ls (Qa2 S++[aE x.1]) (Qa9 S) (gK (rG 3 (dO S.aM))) S.out S.steps x.1++[.cells (BX b x)]) 1 (.ptr 2 2) (.sl (dO S.aM++[gz (gA b x.1,x.2)]) .no) (cr b S x)=W (.undef,bn b ms ls (Qa2 S++[aE x.1]) (Qa9 S) (cr b S x) S.out S.steps x.1++[.cells (BX b x)]):=
   Wyl rfl rfl (λv h=>by cases h) (by unfold cr;rw[Qe];rfl)
  have M H:eL (bn b ms ls (Qa2 S++[aE x.1]) (Qa9 S) (cr b S x) S.out S.steps x.1++H) T 1 (.ptr 2 0)=W (ae bm (ak ms)):=by unfold bn;rw[Wpf,h7]
  have lM:Qai (ae bm (ak ms))=W (iI ms.length):=by rw[ON,CL]
  have nM:(ae bm (ak ms)).ng=ae bm (ak ms):=vz;have s:(bn b ms ls (Qa2 S++[aE x.1]) (Qa9 S) (cr b S x) S.out S.steps x.1++[O.cells (BX b x)]).length=bp b+1:=by unfold bn;rw[vW,QR];rfl
  have mk:ej T 1 1 (.bool T) (iI ms.length) (iI ms.length) (bn b ms ls (Qa2 S++[aE x.1]) (Qa9 S) (cr b S x) S.out S.steps x.1++[.cells (BX b x)])=W (.hs (bp b+1) 0 ms.length 1 T,bn b ms ls (Qa2 S++[aE x.1]) (Qa9 S) (cr b S x) S.out S.steps x.1++[.cells (BX b x),.cells ((List.replicate ms.length T).map Bv)]):=by have h:=Q.nm;rw[OB rfl rfl rfl (by unfold Qaq;omega),s,wL,KV];rfl
  have t:(bn b ms ls (Qa2 S++[aE x.1]) (Qa9 S) (cr b S x) S.out S.steps x.1++[O.cells (BX b x),O.cells ((List.replicate ms.length T).map Bv)]).length=bp b+2:=by unfold bn;rw[vW,QR];rfl
  have w:=X_ b ms ls S x Q u ms [] x.1 [] rfl rfl rfl;have g:DA QaT (bp b) (bp b+2) [.ptr 2 0,.ptr (bp b) 0,.hs (bp b+1) 0 ms.length 1 T,ae bm (ak ms),iI ms.length,iI 0] (bn b ms ls (Qa2 S++[aE x.1]) (Qa9 S) (cr b S x) S.out S.steps x.1++[.cells (BX b x),.cells ((List.replicate ms.length T).map Bv)])
   = W (.aR [],bn b ms ls (Qa2 S++[aE x.1]) (zP (ed ms S x)) (cr b S x) (ed ms S x) S.steps x.1):=w
  have z:=M [.cells (BX b x)];have D:=M [.cells (BX b x),.cells ((List.replicate ms.length T).map Bv)];have fp I:fz (bp b+2) I fzD (.ptr 2 0)=W (.ptr 2 0):=vC (by simp[V.rb];omega);have fH I:fz (bp b+2) I fzD (.hs (bp b+1) 0 ms.length 1 T)=W (.hs (bp b+1) 0 ms.length 1 T):=vC (by simp[V.rb]);have fM I:fz (bp b+2) I fzD (ae bm (ak ms))=W (ae bm (ak ms)):=vC (vw λm _=>Up m);have X:=Qvg (b:=b) (l:=x.1);have nF:(V.sl [V.agg (BX b x)] .fx).ng=.sl [.agg (BX b x)] .no:=rfl;generalize ms.length=N,BX b x=B,gA b x.1=A,ae bm (ak ms)=MV,V.hs (bp b+1) 0 ms.length 1 T=a1,V.sl [V.agg (BX b x)] .no=BN,V.sl [V.agg (BX b x)] .fx=BF,rG 3 (dO S.aM)=SR,cr b S x=ST,V.sl (dO S.aM++[gz (gA b x.1,x.2)]) .no=SN,bn b ms ls (Qa2 S++[aE x.1]) (Qa9 S) (rG 3 (dO S.aM)) S.out S.steps x.1++[.cells (BX b x)]=Z1,bn b ms ls (Qa2 S++[aE x.1]) (Qa9 S) (gK (rG 3 (dO S.aM))) S.out S.steps x.1++[.cells (BX b x)]=Z2,bn b ms ls (Qa2 S++[aE x.1]) (Qa9 S) (cr b S x) S.out S.steps x.1++[.cells (BX b x)]=Z3,bn b ms ls (Qa2 S++[aE x.1]) (Qa9 S) (cr b S x) S.out S.steps x.1++[.cells (BX b x),.cells ((List.replicate ms.length T).map Bv)]=Z4,bn b ms ls (Qa2 S++[aE x.1]) (zP (ed ms S x)) (cr b S x) (ed ms S x) S.steps x.1=a,sO b ms ls S x.1=a0,sO b ms ls S x.1++[.cells (BX b x)]=Z0 at*;simp -implicitDefEqProofs(disch:=try exact wK)only[go_sem,Km,e,F,f,X,d,L,i,p,tk,l3,bf,nF,ap,nN,r,z,D,lM,nM,mk,t,fp,fH,fM,g]
end
def Mj(ms:y8)(l:u_)(c:Int):u_:=List.zipWith (λm a=>KI m a c) ms l
def b_(S:aY)(n:Nat):u_:=match S.aM[n]? with|some x=>x.1|none=>[]
def tick(S:aY):aY:=⟨S.aM,S.out,S.steps+1⟩
def dA(ms:y8)(bud:Int)(n:Nat):u_->aY->Bool×aY
 |[],S=>(true,S)
 |c::r,S=>if bud<=S.steps then(false,S)else dA ms bud n r (bS ms (tick S) (Mj ms (b_ S n) c,n,c))
def eJ(ms:y8)(ls:u_)(bud:Int):Nat->Nat->aY->Option (Bool×aY)
 |0,_,_=>none
 |f+1,n,S=>
  if n<S.aM.length then
   match dA ms bud n ls S with
   |(false,a)=>some (false,a)
   |(true,a)=>eJ ms ls bud f (n+1) a
  else some (true,S)
def Cp:y8->List u_
 |[]=>[[]]
 |m::r=>(List.range (m.pt.text.length+3)).flatMap λ(k:Nat)=>(Cp r).map λl=>((k:Int)-1)::l
def Qcc:y8->Nat
 |[]=>1
 |m::r=>(m.pt.text.length+3)*Qcc r
theorem Qvj:∀ms:y8,(Cp ms).length=Qcc ms
 |[]=>rfl
 |m::r=>by have a:=Qvj r;unfold Cp Qcc;rw[Qu];simp only[wq,a,Nc];rw[List.length_range,M9]
def Qh1:y8->u_->Prop
 |[],[]=>True
 |m::r,a::l=>gw m a/\Qh1 r l
 |_,_=>False
theorem Qhd:∀ {ms:y8} {l:u_},Qh1 ms l->l.length=ms.length
 |[],[],_=>rfl
 |m::r,a::l,h=>by rw[vT,vT,Qhd h.2]
 |[],_::_,h=>absurd h (by simp[Qh1])
 |_::_,[],h=>absurd h (by simp[Qh1])
theorem Qvk:∀ {ms:y8} {l:u_},Qh1 ms l->l∈Cp ms
 |[],[],_=>by simp[Cp]
 |m::r,a::l,h=>by have b:=IG h.1;unfold Cp;refine Fc.2 ⟨(a+1).toNat,KX.2 Y,wa.2 ⟨l,Qvk h.2,?_⟩⟩;congr 1;omega
 |[],_::_,h=>absurd h (by simp[Qh1])
 |_::_,[],h=>absurd h (by simp[Qh1])
theorem Uy:∀ {ms:y8} {l:u_} (c:Int),Qh1 ms l->Qh1 ms (Mj ms l c)
 |[],[],c,_=>trivial
 |m::r,a::l,c,h=>⟨Whz h.1 c,Uy c h.2⟩
 |[],_::_,_,h=>absurd h (by simp[Qh1])
 |_::_,[],_,h=>absurd h (by simp[Qh1])
theorem Wih:∀ms:y8,Qh1 ms (List.replicate ms.length 0)
 |[]=>trivial
 |m::r=>⟨Wx0 m,Wih r⟩
theorem Wba:∀ {ms:y8} {l:u_},(∀m∈ms,m.pt.text.length<=8)->Qh1 ms l->∀st∈l,-1<=st/\st<10
 |[],[],_,_,st,a=>by cases a
 |m::r,s::l,c,h,st,a=>by
  have d:=IG h.1;have e:=c m (wA ..);rcases vZ.1 a with rfl|a
  ·omega
  ·exact Wba (λm b=>c m (wh _ b)) h.2 st a
 |[],_::_,_,h,_,_=>absurd h (by simp[Qh1])
 |_::_,[],_,h,_,_=>absurd h (by simp[Qh1])
structure Invq9 (ms:List Mc) (S:aY):Prop where
 nd:(Qa2 S).Nodup
 ok:∀x∈S.aM,Qh1 ms x.1
 fr:∀(i:Nat) (x:fq),S.aM[i]?=some x->-1<=x.2.1/\x.2.1<i
 ch:∀(i:Nat) (x:fq),S.aM[i]?=some x->0<=x.2.1->Qbn x.2.2=true
 ne:S.out≠[]
 no:S.out.length<=S.aM.length+1
def SE{t:u2}:bu r t=true↔t∈r:=by
 unfold bu;rw[OV];constructor
 ·rintro⟨x,a,e⟩;rw[pM e];exact a
 ·intro h;exact⟨t,h,u0⟩
variable{A:aY}{P:y8}
def Invq9.len(h:Invq9 P A):A.aM.length<=Qcc P:=by
 have:=EN (Qa2 A) ((Cp P).map aE) h.nd (λk a=>by obtain⟨x,b,rfl⟩:=wa.1 a;exact wa.2 ⟨x.1,Qvk (h.ok x b),rfl⟩)
 rw[wq,Qvj]at this;unfold Qa2 at this
 rwa[wq]at this
structure sx (ms:List Mc) (S:aY) (x:fq):Prop where
 ok:Qh1 ms x.1
 fr:-1<=x.2.1/\x.2.1<S.aM.length
 ch:0<=x.2.1->Qbn x.2.2=true
def Invq9.put(h:Invq9 P A){x:fq}(e:sx P A x):Invq9 P (bS P A x):=by
 unfold bS;cases f:bu (Qa2 A) (aE x.1)with
 |true=>rw[A9a rfl];exact h
 |false=>
  simp only[vD,A9d];have d:∀(i:Nat) (y:fq),(A.aM++[x])[i]?=W y->A.aM[i]?=W y\/(i=A.aM.length/\y=x):=λi y c=>by
   by_cases b:i<A.aM.length
   ·rw[AH b]at c;exact .inl c
   ·have a:i=A.aM.length:=by refine Dx λg => ?_;rw[B0 yZ]at c;cases c
    subst a;rw[DQ (vE _),EU]at c;simp only[Gs,vU]at c;exact .inr ⟨rfl,c.symm⟩
  refine⟨?_,?_,?_,?_,?_,?_⟩
  ·unfold Qa2;rw[yW];refine Ui.2 ⟨h.nd,u0,λa g b j => ?_⟩;obtain rfl:=vR.1 j;rintro rfl;have:bu (Qa2 A) (aE x.1):=SE.2 g;rw[f]at this;cases this
  ·intro y c;rcases xf.1 c with c|c
   ·exact h.ok y c
   ·obtain rfl:=vR.1 c;exact e.ok
  ·intro i y c;rcases d i y c with c|⟨rfl,rfl⟩
   ·exact h.fr i y c
   ·exact e.fr
  ·intro i y c;rcases d i y c with c|⟨rfl,rfl⟩
   ·exact h.ch i y c
   ·exact e.ch
  ·unfold ed;split
   ·exact h.ne
   ·simp
  ·have:=h.no;unfold ed;split
   ·simp;omega
   ·simp;omega
def Invq9.tick{ms:y8}(h:Invq9 ms A):Invq9 ms (tick A):=⟨h.nd,h.ok,h.fr,h.ch,h.ne,h.no⟩
def Qs6(ms:y8)(S:aY)(x:fq):S.aM.length<=(bS ms S x).aM.length:=by
 unfold bS;split
 ·exact vE _
 ·simp
def Qcy(ms:y8)(S:aY)(x:fq):(bS ms S x).steps=S.steps:=by unfold bS;split<;>rfl
def IK(h:Invq9 P A)(ms:a<A.aM.length):Qh1 P (b_ A a):=by unfold b_;rw[vO ms];exact h.ok _ (Na ms)
def XN(h:Invq9 P A){n:Nat}(a:n<A.aM.length){c:Int}(b:Qbn c):sx P A (Mj P (b_ A n) c,n,c):=
 ⟨Uy c (IK h a),⟨by show -1<=(n:Int);omega,by show(n:Int)<A.aM.length;omega⟩,λ_=>b⟩
theorem SM{ms:y8}{bud:Int}{n:Nat}:∀(ls:u_) (S:aY),Invq9 ms S->n<S.aM.length->(∀c∈ls,Qbn c)->Invq9 ms (dA ms bud n ls S).2/\S.aM.length<=(dA ms bud n ls S).2.aM.length
 |[],S,h,f,e=>⟨h,vE _⟩
 |c::r,S,h,f,e=>by
  unfold dA;split
  ·exact⟨h,vE _⟩
  ·have g:=h.tick.put (XN h.tick f (e c (wA ..)));have i:=Qs6 ms (tick S) (Mj ms (b_ S n) c,(n:Int),c);have j:S.aM.length<=(bS ms (tick S) (Mj ms (b_ S n) c,n,c)).aM.length:=i;obtain⟨a,b⟩:=SM (n:=n) r (bS ms (tick S) (Mj ms (b_ S n) c,(n:Int),c)) g Y (λd k=>e d (wh _ k));exact⟨a,by omega⟩
theorem JR{ms:y8}{ls:u_}{bud:Int}(d:∀c∈ls,Qbn c):∀(f n:Nat) (S:aY),Invq9 ms S->Qcc ms+1<=n+f->0<f->∃r,eJ ms ls bud f n S=some r
 |0,n,S,h,g,i=>by omega
 |f+1,n,S,h,g,i=>by
  have o:=h.len;unfold eJ;by_cases a:n<S.aM.length
  ·rw[A9a a];obtain⟨e,j⟩:=SM ls S h a d;cases k:dA ms bud n ls S with
   |mk l m=>
    rw[k]at e j;cases l with
    |false=>exact⟨_,rfl⟩
    |true=>have b:=e;exact JR d f (n+1) m b Y Y
  ·rw[O3 a];exact⟨_,rfl⟩
def Wii{b:Bool}{st c ou:V}(f:V.rb 3 e)(g:V.rb 3 M)(n:V.rb 3 ou)(e2:fz 3 (pO b r L (sC e M st ou j) i) fzD st=W c):
  ve 3 (pO b r L (sC e M st ou j) i)=W (pO T r L (sC e M c ou j) []):=by
 have k a j l:fb j a (.mp (cU l))=W (.mp (cU l)):=Td (Qvf l);have f1 a d:fz 3 a d e=some e:=vC f;have f2 a d:fz 3 a d M=some M:=vC g;have f4 a d:fz 3 a d ou=some ou:=vC n;have f5 a d:fz 3 a d (.mp 0)=W (.mp 0):=vC rfl;have f6 a d:fz 3 a d (.mp 1)=W (.mp 1):=vC rfl;have f7 a d x:fz 3 a d (iI x)=W (iI x):=vC rfl;have m:fb 3 (pO b r L (sC e M st ou j) i) (.cells (sC e M st ou j))=W (.cells (sC e M c ou j)):=by
  refine Wpg ?_;have:∀a,fz 3 a fzD st=W c->(sC e M st ou j).mapM (fz 3 a fzD)=W (sC e M c ou j):=λa h=>by unfold sC;simp only[xw,Fe,f1,f2,f4,f5,f6,f7,h,u7,va,AK]
  exact this _ e2
 have o:(pO b r L (sC e M st ou j) i).take 3=[.mp (cU r),.mp (cU L),.cells (sC e M st ou j)]:=by cases b<;>rfl
 unfold ve;rw[o];generalize pO b r L (sC e M st ou j) i=a at*;simp only[xw,Fe,k,m,u7,va,AK];rfl
def sy{l:u_}{i:Nat}{x:Int}(a:i<l.length):u5 (pO true r L g l) 1 (.ptr 3 i) (iI x) (iI x)=W (.undef,pO true r L g (l.set i x)):=by
 have:u5 (pO true r L g l) 1 (.ptr 3 i) (iI x) (iI x)=if(1:Nat)=1/\i+1<=(Z l).length/\yd [V.int .i64 x]=true then W (.undef,((pO true r L g l).set 3 (O.cells ((Z l).set i (iI x))):hN))else none:=rfl
 rw[this,A9a ⟨rfl,by rw[BB];omega,rfl⟩,XM];rfl
section
variable(ms:y8)(ls:u_)
def Wij(l:List fq)(x:fq):dO (l++[x])=dO l++[gz (lj x)]:=by unfold dO;rw[yW];rfl
def Ur(S:aY)(x:fq)(h:bu (Qa2 S) (aE x.1)=T):Qa2 (bS ms S x)=Qa2 S++[aE x.1]:=by unfold bS;rw[h];simp only[vD,A9d];unfold Qa2;rw[yW];rfl
def Wyv(S:aY)(x:fq):ve 3 (pR true ms ls S x)=W (sO T ms ls (bS ms S x) []):=by
 unfold pR;cases a:bu (Qa2 S) (aE x.1)with
 |true=>
  simp only[A9c];have:bS ms S x=S:=by unfold bS;rw[a];rfl
  rw[this];show ve 3 (pO true _ _ (sC (vG bm 1 ms) (.sl (Z ls) .no) (rG 3 (dO S.aM)) (gB S.out) S.steps) x.1)=W (pO T _ _ (sC (vG bm 1 ms) (.sl (Z ls) .no) (rG 3 (dO S.aM)) (gB S.out) S.steps) []);exact Wii (XW ms) wB (Qvi _) (vC (Wm8 (Qvh _)))
 |false=>
  simp only[vD,A9d];have e:=Ur ms S x a;have g:bS ms S x=⟨S.aM++[x],ed ms S x,S.steps⟩:=by unfold bS;rw[a];rfl
  unfold sO;rw[e,g];refine Wii (XW ms) wB (Qvi _) ?_;rw[Wij];unfold cr fzD;rw[Qe,Qe];refine Qs2 (Qs3 (Qvh _) (Tm ?_));have f1:∀(b c:List u2) (C:uZ),fz 3 (pO true b c C x.1) 38 (gA true x.1)=W (.sl (Z x.1) .no):=λb c C=>Wh0 (d:=37) (f:=Iv) (o:=3) (A:=x.1) (λ_=>rfl) (λ_ _=>rfl) (vE _) rfl;rw[xw,f1];rfl
def Wnb(S:aY)(x:fq):pR T ms ls S x=sO T ms ls (bS ms S x) []:=by
 unfold pR;cases a:bu (Qa2 S) (aE x.1)with
 |true=>
  simp only[A9c];have:bS ms S x=S:=by unfold bS;rw[a];rfl
  rw[this];rfl
 |false=>
  simp only[vD,A9d];have b:=Ur ms S x a;have c:bS ms S x=⟨S.aM++[x],ed ms S x,S.steps⟩:=by unfold bS;rw[a];rfl
  unfold sO;rw[b,c,Wij];rfl
structure lr (ms:List Mc) (ls:List Int):Prop where
 pt:∀m∈ms,jj m.pt
 nm:ms.length<=1000
 sz:∀m∈ms,m.pt.text.length<=8
 ns:Qcc ms<=900000
 ch:∀c∈ls,Qbn c=true
 nl:ls.length<=1000000
variable(u:lr ms ls)
include u
theorem lr.S(h:Invq9 ms A):tZ ms A:=by have a:=h.len;have b:=h.no;have c:=u.ns;exact⟨u.pt,u.nm,h.ne,h.fr,h.ch,by omega,by omega⟩
theorem lr.X{x:fq}(h:sx ms A x):t_ ms A x:=⟨Qhd h.ok,Wba u.sz h.ok,h.fr,h.ch⟩
theorem Wnc(b:Bool)(S:aY)(l:u_):Wf (sO b ms ls S l):=Wif b ms ls _ _ (Wm8 (Qvh _)) _ _ _
theorem Wyw(b:Bool)(S:aY)(l:u_){n:Nat}(a:n<S.aM.length):eL (sO b ms ls S l) T 1 (.ptr 2 2)=W (.sl (dO S.aM) .no):=by
 have h:=Wid (b:=b) (e1:=Qa2 S) (e2:=Qa9 S) (ms:=vG bm 1 ms) (ls:=.sl (Z ls) .no) (st:=rG 3 (dO S.aM)) (ou:=gB S.out) (n:=S.steps) (l:=l) (H:=[]);rw[wt]at h;refine h.trans ?_;cases c:S.aM with
 |nil=>rw[c]at a;simp at a
 |cons y r=>rfl
theorem Wyx(S:aY)(h:Invq9 ms S)(n:Nat)(g:n<S.aM.length)(c:Int)(F:Qbn c)(bud:Int)(i:Nat)(R:i<=ls.length)(P C:Rk):∀(r q:y8) (t b:u_),ms=q++r->b_ S n=b++t->b.length=q.length->
  Du QaT 3 3 P 3 C 4 [.ptr 2 0,iI bud,iI n,iI c,.hs 3 0 ms.length 1 T,.sl (Z ls) .no,iI ls.length,iI i,ae bm (ak ms),iI ms.length,iI q.length] (sO true ms ls S (Mj q b c++List.replicate r.length 0))
  = C [.ptr 2 0,iI bud,iI n,.sl (Z ls) .no,iI ls.length,iI (i+1:Nat)] (sO T ms ls (bS ms S (Mj ms (b_ S n) c,n,c)) [])
 |[],q,t,b,s,l,v=>by
  have m:q=ms:=by rw[s];simp
  have e:=IK h g;have w:b=b_ S n:=by have:=Qhd e;rw[l,vW,<-m,<-v]at this;have:t=[]:=CP.1 Y;rw[l,this,wt]
  subst m w;rw[xJ,JJ,wt];have o:=XN h g F;have d:(Mj q (b_ S n) c).length=q.length:=Qhd o.ok;have x:¬(q.length:Int)<q.length:=by omega
  have a:ve 4 (sO true q ls S (Mj q (b_ S n) c))=W (sO true q ls S (Mj q (b_ S n) c)):=Kk (I:=sO true q ls S (Mj q (b_ S n) c)) (Wnc q ls u true S _);have p:=Wyu true q ls S (Mj q (b_ S n) c,(n:Int),c) (lr.S q ls u h) (lr.X q ls u o);have f:=Wyv q ls S (Mj q (b_ S n) c,(n:Int),c);have y:mz [.ad,iI 0,iI 0] [(0,1,.hs 3 0 q.length 1 T),(1,1,iI n),(2,1,iI c)]=W (.agg (BX true (Mj q (b_ S n) c,(n:Int),c))):=by rw[<-d];rfl
  have j I:fz 4 I fzD (.ptr 2 0)=W (.ptr 2 0):=vC rfl;have z I:fz 4 I fzD (.hs 3 0 q.length 1 T)=W (.hs 3 0 q.length 1 T):=vC rfl;have A k I:fz k I fzD (.sl (Z ls) .no)=W (.sl (Z ls) .no):=vC wB;have B:(V.hs 3 0 q.length 1 T).ng=.hs 3 0 q.length 1 T:=rfl;have D:=u.nl;change E cx 116 [.ptr 2 0,.agg (BX true (Mj q (b_ S n) c,(n:Int),c))] (sO true q ls S (Mj q (b_ S n) c))=_ at p;rw[Iz,Hm];generalize q.length=N at*;simp -implicitDefEqProofs(disch:=try exact wK)only[go_sem,Dt,x,a,j,z,A,B,y,p,f]
 |m::r,q,[],b,a,d,e=>by have:=Qhd (IK h g);rw[d,a]at this;simp at this;omega
 |m::r,q,d::t,b,v,w,e=>by
  have y:ms.length=q.length+r.length+1:=by rw[v];simp;omega
  have U:(q.length:Int)<ms.length:=by omega
  have A:(Mj q b c).length=q.length:=by unfold Mj;rw[Uf,e,Nat.min_self]
  have j l:ve 4 (sO true ms ls S l)=W (sO true ms ls S l):=Kk (I:=sO true ms ls S l) (Wnc ms ls u true S l);have i1:eI 1 (iI q.length) (ae bm (ak ms))=W (.ai [bm m] 0):=by
   have:=KZ (f:=bm) (s:=ak ms) (p:=q) (r:=r) (x:=m) (k:=.i64) (i:=q.length) (sz:=1) (by rw[CL];exact v) rfl (by rw[SB];rfl)
   rwa[SB]at this
  have H I:eL I T 1 (.ai [bm m] 0)=W (bm m):=by show W (bm m).ng=_;rw[Qvd]
  have l2:=Wyw ms ls u true S (Mj q b c++List.replicate (m::r).length 0) g;have B:S.aM[n]?=W S.aM[n]:=vO g;have o:b_ S n=S.aM[n].1:=by unfold b_;rw[B]
  rw[o]at w;have i2:eI 3 (iI n) (.sl (dO S.aM) .no)=W (.ai [.sl (Z S.aM[n].1) .no,iI S.aM[n].2.1,iI S.aM[n].2.2] 0):=by have:=Fj (f:=λx=>gz (lj x)) (l:=S.aM) (c:=.no) (λ_=>rfl) S.aM[n] (k:=.i64) (i:=n) (sz:=3) Y;refine this.trans ?_;rw[zi,y9,B];rfl
  have J I:eL I T 1 (.ai [.sl (Z S.aM[n].1) .no,iI S.aM[n].2.1,iI S.aM[n].2.2] 0)=W (.sl (Z S.aM[n].1) .no):=rfl;have i3:eI 1 (iI q.length) (.sl (Z S.aM[n].1) .no)=W (.ai [iI d] 0):=by rw[Pj (by rw[w,<-e];simp;omega),zi,w,<-e,O7]
  have K I:eL I T 1 (.ai [iI d] 0)=W (iI d):=rfl;have L:gw m d:=by
   have p:=IK h g;rw[o,w,v]at p;have s:∀(q:y8) (b:u_),b.length=q.length->Qh1 (q++m::r) (b++d::t)->gw m d:=λq=>by
    induction q with
    |nil=>intro b e h;obtain rfl:b=[]:=CP.1 e;exact h.1
    |cons z q D=>
     intro b e h;cases b with
     |nil=>simp at e
     |cons y b=>exact D b (by simpa using e) h.2
   exact s q b e p
  have M:jj m.pt:=u.pt m (by rw[v];simp);have cs:=λI=>Wx6 m M d c L (by have:=La F;exact⟨by omega,this.2⟩) I;have nm:=Qvd m;have m1:=λk=>Wx1 k m;have m2:=λk=>Wx4 k m;have m3:=λk=>Xw k m;have i5:eI 1 (iI q.length) (.hs 3 0 ms.length 1 T)=W (.ptr 3 q.length):=yl Y;have s1:u5 (sO true ms ls S (Mj q b c++List.replicate (m::r).length 0)) 1 (.ptr 3 q.length) (iI (KI m d c)) (iI (KI m d c))=W (.undef,sO true ms ls S (Mj (q++[m]) (b++[d]) c++List.replicate r.length 0)):=by
   have p:(Mj q b c++List.replicate (m::r).length 0).set q.length (KI m d c)=Mj (q++[m]) (b++[d]) c++List.replicate r.length 0:=by rw[vT,Gu,<-A];rw[Hh _ _ (vE _),EU,List.set_cons_zero];unfold Mj;rw[List.zipWith_append e.symm];simp
   rw[<-p];exact sy (by simp[A])
  have D:=Wyx S h n g c F bud i R P C r (q++[m]) t (b++[d]) (by rw[v];simp) (by rw[o,w];simp) (by simp[e]);rw[show((q++[m]).length:Int)=q.length+1 by simp]at D;have O:=j (Mj (q++[m]) (b++[d]) c++List.replicate r.length 0);have G I:fz 4 I fzD (.ptr 2 0)=W (.ptr 2 0):=vC rfl;have X I:fz 4 I fzD (.hs 3 0 ms.length 1 T)=W (.hs 3 0 ms.length 1 T):=vC rfl;have fL k I:fz k I fzD (.sl (Z ls) .no)=W (.sl (Z ls) .no):=vC wB;have fM k I:fz k I fzD (ae bm (ak ms))=W (ae bm (ak ms)):=vC (vw λm _=>Up m);have nM:(ae bm (ak ms)).ng=ae bm (ak ms):=vz;have nH:(V.hs 3 0 ms.length 1 T).ng=.hs 3 0 ms.length 1 T:=rfl;have nT:(V.sl (dO S.aM) .no).ng=.sl (dO S.aM) .no:=rfl;have nA:(V.sl (Z S.aM[n].1) .no).ng=.sl (Z S.aM[n].1) .no:=rfl;have e:=u.nm;rw[Iz];generalize a1:[V.sl (Z S.aM[n].1) .no,iI S.aM[n].2.1,iI S.aM[n].2.2]=EC,sO true ms ls S (Mj q b c++List.replicate (m::r).length 0)=a,sO true ms ls S (Mj (q++[m]) (b++[d]) c++List.replicate r.length 0)=Z2,C _ _=a0 at*;generalize q.length=Q,KI m d c=SC,bm m=MM,ms.length=N,ls.length=LL,V.sl (Z ls) .no=LV,ae bm (ak ms)=MV,V.hs 3 0 ms.length 1 T=a2,V.sl (dO S.aM) .no=TV,V.sl (Z S.aM[n].1) .no=AV at*;simp -implicitDefEqProofs(disch:=try exact wK)only[go_sem,Dt,U,i1,H,l2,i2,J,i3,K,nm,m1,m2,m3,cs,i5,s1,G,X,fL,fM,nM,nH,nT,nA,O,D]
end
def YA(b:e.cells.length=1)(c:yd e.cells)(d:eg T e)(h:a*G<=Qaq):gH T 1 G e (iI a) (iI a)=W (.sl (List.replicate a e) .fx):=by unfold gH;simp only[Et,u7,va,zi];rw[A9a ⟨by omega,by omega,by rw[<-Qy];exact Int.ofNat_le.2 h,b,c,d⟩,A9a trivial]
def Wnd(n:Nat):List.replicate n (V.int .i64 0)=Z (List.replicate n 0):=by unfold Z;rw[KV]
section
variable(ms:y8)(ls:u_)(u:lr ms ls)
def Wpi(b:Bool)(S:aY)(l:u_):eL (sO b ms ls S l) T 1 (.ptr 2 6)=W (iI S.steps):=by cases b<;>rfl
def Wyy(b:Bool)(S:aY)(l:u_):eL (sO b ms ls S l) T 1 (.ptr 2 1)=W (.sl (Z ls) .no):=by cases b<;>rfl
def Wyz(b:Bool)(S:aY)(l:u_):eL (sO b ms ls S l) T 1 (.ptr 2 5)=W (.sl (S.out.map aK) .no):=by cases b<;>rfl
def Wik(b:Bool)(S:aY)(l:u_):eL (sO b ms ls S l) T 1 (.ptr 2 0)=W (ae bm (ak ms)):=by have h:=Wpf (b:=b) (e1:=Qa2 S) (e2:=Qa9 S) (ms:=vG bm 1 ms) (ls:=.sl (Z ls) .no) (st:=rG 3 (dO S.aM)) (ou:=gB S.out) (n:=S.steps) (l:=l) (H:=[]);rw[wt,h7]at h;exact h
def Wy0(b:Bool)(S:aY)(l:u_):eL (sO b ms ls S l) T 1 (.ptr 2 2)=W (rG 3 (dO S.aM)).ng:=by have h:=Wid (b:=b) (e1:=Qa2 S) (e2:=Qa9 S) (ms:=vG bm 1 ms) (ls:=.sl (Z ls) .no) (st:=rG 3 (dO S.aM)) (ou:=gB S.out) (n:=S.steps) (l:=l) (H:=[]);rw[wt]at h;exact h
def Wtv(l:List fq):Qai (rG 3 (dO l)).ng=W (iI l.length):=by
 cases l with
 |nil=>rfl
 |cons x r=>show W (V.int .i64 ((dO (x::r)).length:Nat))=_;unfold dO;rw[wq]
def Wy1(l:uZ):(rG 3 l).ng.ng=(rG 3 l).ng:=by cases l<;>rfl
def Wtw(S:aY):u5 (sO T ms ls S []) 1 (.ptr 2 6) (iI (S.steps+1)) (iI (S.steps+1))=W (.undef,sO T ms ls (tick S) []):=by have h:=Wyn (b:=T) (e1:=Qa2 S) (e2:=Qa9 S) (ms:=vG bm 1 ms) (ls:=.sl (Z ls) .no) (st:=rG 3 (dO S.aM)) (ou:=gB S.out) (n:=S.steps) (l:=[]) (H:=[]) (x:=S.steps+1);rw[wt,wt]at h;exact h
include u
theorem Wil(S:aY):ve 3 (sO T ms ls S [])=W (sO T ms ls S []):=Kk (Wnc ms ls u T S [])
theorem Wpj(S:aY)(x:Bool):nK 3 (sO T ms ls S []) (.bool x)=W (.bool x,sO T ms ls S []):=yg (Wnc ms ls u T S []) rfl
def SO(a:Rk)(bud:Int)(n:Nat)(p:Bool×aY):Ro:=if p.1 then a [.ptr 2 0,.int .i64 bud,.int .i64 (n+1:Nat)] (sO false ms ls p.2 [])else some (.bool false,sO false ms ls p.2 [])
theorem Wy2(bud:Int)(n:Nat)(o:n<=1000000)(b:Rk):∀(r q:u_) (S:aY),ls=q++r->Invq9 ms S->n<S.aM.length->0<=S.steps->S.steps+r.length<=1000000000000000->
  zn QaT 3 3 b 3 [.ptr 2 0,iI bud,iI n,.sl (Z ls) .no,iI ls.length,iI q.length] (sO T ms ls S [])=SO ms ls b bud n (dA ms bud n r S)
 |[],q,S,d,h,g,i,e=>by
  have f:¬(q.length:Int)<ls.length:=by rw[d];simp
  have a:=Wil ms ls u S;have c I:fz 3 I fzD (.ptr 2 0)=W (.ptr 2 0):=vC rfl;unfold dA SO;rw[E_,A9a rfl,Hm];simp -implicitDefEqProofs(disch:=try exact wK)only[go_sem,Ci,f,a,c]
 |c::r,q,S,e,h,p,X,f=>by
  have y:ls.length=q.length+r.length+1:=by rw[e];simp;omega
  have x:(q.length:Int)<ls.length:=by omega
  have g:=Wil ms ls u S;have s I:fz 3 I fzD (.ptr 2 0)=W (.ptr 2 0):=vC rfl;have z:eI 1 (iI q.length) (.sl (Z ls) .no)=W (.ai [iI c] 0):=by rw[Pj Y,zi,e,O7]
  have i I:eL I T 1 (.ai [iI c] 0)=W (iI c):=rfl;have A:=Wpi ms ls T S [];unfold dA;by_cases l:bud<=S.steps
  ·rw[A9a l];unfold SO;have a:=Wpj ms ls u S T;rw[E_];simp only[vD,A9d];have d:(V.sl (Z ls) .no).ng=.sl (Z ls) .no:=rfl;simp only[go_sem,Ci,x,z,i,A,l,s,g,a,d]
  ·rw[O3 l];have D:=Wtw ms ls S;have E:=Wik ms ls T (tick S) [];have t:eL (sO true ms ls (tick S) (List.replicate ms.length 0)) T 1 (.ptr 2 0)=W (ae bm (ak ms)):=Wik ms ls true (tick S) _;have F:Qai (ae bm (ak ms))=W (iI ms.length):=by rw[ON,CL]
   have G:(ae bm (ak ms)).ng=ae bm (ak ms):=vz;have mk:ej T 1 8 (iI 0) (iI ms.length) (iI ms.length) (sO T ms ls (tick S) [])=W (.hs 3 0 ms.length 1 T,sO true ms ls (tick S) (List.replicate ms.length 0)):=by have p:=u.nm;rw[Waw Y];rfl
   have v:(sO true ms ls (tick S) (List.replicate ms.length 0)).length=4:=rfl;have H:=XN h.tick p (u.ch c (by rw[e];simp));have d:Du QaT 3 3 b 3 (zn QaT 3 3 b 3) 4 [.ptr 2 0,iI bud,iI n,iI c,.hs 3 0 ms.length 1 T,.sl (Z ls) .no,iI ls.length,iI q.length,ae bm (ak ms),iI ms.length,iI 0] (sO true ms ls (tick S) (List.replicate ms.length 0))
     = zn QaT 3 3 b 3 [.ptr 2 0,iI bud,iI n,.sl (Z ls) .no,iI ls.length,iI (q.length+1:Nat)] (sO T ms ls (bS ms (tick S) (Mj ms (b_ (tick S) n) c,n,c)) []):=
    Wyx ms ls u (tick S) h.tick n p c (u.ch c (by rw[e];simp)) bud q.length Y b (zn QaT 3 3 b 3) ms [] (b_ (tick S) n) [] rfl rfl rfl
   have J:=h.tick.put H;have K:=Qs6 ms (tick S) (Mj ms (b_ (tick S) n) c,(n:Int),c);have j:(bS ms (tick S) (Mj ms (b_ (tick S) n) c,(n:Int),c)).steps=S.steps+1:=Qcy ms (tick S) _;have B:=Wy2 bud n o b r (q++[c]) (bS ms (tick S) (Mj ms (b_ (tick S) n) c,(n:Int),c)) (by rw[e];simp) J (by have:(tick S).aM.length=S.aM.length:=rfl;omega) (by rw[j];omega) (by rw[j];simp at f;omega);rw[show(q++[c]).length=q.length+1 by simp]at B;rw[B]at d;have w:b_ (tick S) n=b_ S n:=rfl;rw[w]at d;have L I:fz 4 I fzD (.hs 3 0 ms.length 1 T)=W (.hs 3 0 ms.length 1 T):=vC rfl;have M k I:fz k I fzD (.sl (Z ls) .no)=W (.sl (Z ls) .no):=vC wB;have O k I:fz k I fzD (ae bm (ak ms))=W (ae bm (ak ms)):=vC (vw λm _=>Up m);have C:(V.sl (Z ls) .no).ng=.sl (Z ls) .no:=rfl;rw[E_];have P:=u.nm;have Q:S.steps<=1000000000000000:=by simp at f;omega
   generalize ms.length=N,S.steps=ST,V.sl (Z ls) .no=LV,ae bm (ak ms)=MV,V.hs 3 0 ms.length 1 T=U,sO T ms ls S []=a,sO T ms ls (tick S) []=Z3,sO true ms ls (tick S) (List.replicate ms.length 0)=Z4,SO ms ls b bud n _=R at*;simp -implicitDefEqProofs(disch:=try exact wK)only[go_sem,Ci,x,z,i,A,l,D,E,F,G,mk,t,v,L,M,O,C,d]
theorem Uz{bud:Int}{n:Nat}:∀(r:u_) (S:aY),(dA ms bud n r S).2.steps<=S.steps+r.length/\S.steps<=(dA ms bud n r S).2.steps
 |[],S=>⟨by simp[dA],GY _⟩
 |c::r,S=>by
  unfold dA;split
  ·exact⟨yZ,GY _⟩
  ·have⟨a,b⟩:=Uz (bud:=bud) (n:=n) r (bS ms (tick S) (Mj ms (b_ S n) c,(n:Int),c));rw[Qcy]at a b;have:(tick S).steps=S.steps+1:=rfl;rw[this]at a b;simp only[vT];omega
theorem Wy3(bud:Int):∀(f n:Nat) (S:aY) (r:Bool×aY),Invq9 ms S->n<=S.aM.length->0<=S.steps->S.steps<=n*ls.length->eJ ms ls bud f n S=W r->
  yw QaT 3 3 [.ptr 2 0,iI bud,iI n] (sO T ms ls S [])=W (.bool r.1,sO T ms ls r.2 [])
 |0,n,S,r,h,c,d,a,b=>by cases b
 |f+1,n,S,r,h,A,p,q,a=>by
  have B:=h.len;have s:=u.ns;have t:=u.nl;have k:=Wy0 ms ls T S [];have l:=Wtv S.aM;have m:=Wy1 (dO S.aM);have b:=Wil ms ls u S;have i:(sO T ms ls S []).length=3:=rfl;unfold eJ at a;by_cases g:n<S.aM.length
  ·rw[A9a g]at a;have v:(n:Int)<S.aM.length:=by omega
   have w:=Wyy ms ls T S [];have x:Qai (.sl (Z ls) .no)=W (iI ls.length):=by rw[Wfr,BB]
   have C:(n:Int)*ls.length<=900000*1000000:=by have o:(n:Int)*ls.length<=900000*ls.length:=T4 Y Y;have y:=OQ Y Y;omega
   have c:zn QaT 3 3 (yw QaT 3 3) 3 [.ptr 2 0,iI bud,iI n,.sl (Z ls) .no,iI ls.length,iI 0] (sO T ms ls S [])=SO ms ls (yw QaT 3 3) bud n (dA ms bud n ls S):=
    Wy2 ms ls u bud n Y (yw QaT 3 3) ls [] S rfl h g p Y
   have j:=SM (bud:=bud) ls S h g u.ch;have d:=Uz ms ls u (bud:=bud) (n:=n) ls S;have e:SO ms ls (yw QaT 3 3) bud n (dA ms bud n ls S)=W (.bool r.1,sO T ms ls r.2 []):=by
    cases y:dA ms bud n ls S with
    |mk z o=>
     rw[y]at a j d;cases z with
     |false=>simp only[vU]at a;subst a;rfl
     |true=>
      simp only at a j d;have:o.steps<=(n+1:Nat)*ls.length:=by rw[Hm,Int.add_mul];omega
      exact Wy3 bud f (n+1) o r j.1 Y Y this a
   rw[e]at c;rw[IA];simp only[go_sem,Dv,k,m,l,v,w,x,i,c]
  ·rw[O3 g]at a;simp only[vU]at a;subst a;have c:¬(n:Int)<S.aM.length:=by omega
   have d:=Wpj ms ls u S true;rw[IA];simp only[go_sem,Dv,k,m,l,c,b,d]
def eK(ms:y8):fq:=(List.replicate ms.length 0,-1,0)
theorem Wim(S:aY):sx ms S (eK ms):=⟨Wih ms,⟨by show(-1:Int)<=-1;omega,by show(-1:Int)<_;omega⟩,λh=>absurd h (by show ¬(0:Int)<=-1;omega)⟩
theorem sA(bud:Int)(S:aY)(h:Invq9 ms S)(m:S.steps=0)(f:Nat)(r:Bool×aY)(g:eJ ms ls bud f 0 (bS ms S (eK ms))=W r):E cx 101 [.ptr 2 0,iI bud] (sO T ms ls S [])=W (.bool r.1,sO T ms ls r.2 []):=by
 have e:=Wim ms ls u S;have i:E cx 116 [.ptr 2 0,.agg (BX T (eK ms))] (sO T ms ls S [])=W (.aR [],sO T ms ls (bS ms S (eK ms)) []):=by have:=Wyu T ms ls S (eK ms) (lr.S ms ls u h) (lr.X ms ls u e);rw[Wnb]at this;exact this
 have c:=Wy3 ms ls u bud f 0 (bS ms S (eK ms)) r (h.put e) (wV _) (by rw[Qcy];omega) (by rw[Qcy];omega) g;have a:yw QaT 3 3 [.ptr 2 0,iI bud,iI 0] (sO T ms ls (bS ms S (eK ms)) [])=W (.bool r.1,sO T ms ls r.2 []):=c;have j:=Wik ms ls T S [];have k:Qai (ae bm (ak ms))=W (iI ms.length):=by rw[ON,CL]
 have mk:gH T 1 8 (iI 0) (iI ms.length) (iI ms.length)=W (.sl (Z (List.replicate ms.length 0)) .fx):=by have:=u.nm;rw[YA rfl rfl rfl (by unfold Qaq;omega),Wnd]
 have l:mz [.ad,iI 0,iI 0] [(0,1,.sl (Z (List.replicate ms.length 0)) .no),(1,1,iI (-1))]=W (.agg (BX T (eK ms))):=rfl;have d:(sO T ms ls S []).length=3:=rfl;have b:(sO T ms ls (bS ms S (eK ms)) []).length=3:=rfl;rw[TW _ _ _ rfl rfl];simp -implicitDefEqProofs only[go_sem,Oa,j,k,mk,l,i,d,b,a]
end
def fG(a:Int):u_->Int->Int
 |[],m=>m
 |x::r,m=>if a<x then(if m<0 then fG a r x else if x<m then fG a r x else fG a r m)else fG a r m
def fI:Nat->u_->Int->u_
 |0,_,_=>[]
 |f+1,L,a=>if fG a L (-1)<0 then[]else fG a L (-1)::fI f L (fG a L (-1))
theorem Lc(c:Int)(k:-1<=c):∀(L:u_) (m:Int),(∀x∈L,0<=x)->(m<0\/c<m)->
  (fG c L m<0->m<0/\∀x∈L,x<=c)/\(0<=fG c L m->c<fG c L m/\(fG c L m=m\/fG c L m∈L)/\(0<=m->fG c L m<=m)/\∀x∈L,c<x->fG c L m<=x)
 |[],m,a,b=>by unfold fG;refine⟨λh=>⟨h,u0⟩,λh=>⟨by omega,.inl rfl,λ_=>by omega,u0⟩⟩
 |x::r,m,q,s=>by
  have t:=q x (wA ..);have l:=λy d=>q y (wh _ d);unfold fG;by_cases i:c<x
  ·rw[A9a i];have f:∀(P:Prop),(m<0\/x<m)->((fG c r x<0->m<0/\∀y∈x::r,y<=c)/\(0<=fG c r x->c<fG c r x/\(fG c r x=m\/fG c r x∈x::r)/\(0<=m->fG c r x<=m)/\∀y∈x::r,c<y->fG c r x<=y)):=λ_ v=>by
    have⟨a,b⟩:=Lc c k r x l (.inr i);refine⟨λh=>absurd (a h).1 Y,λh => ?_⟩;have⟨n,b2,g,o⟩:=b h;refine⟨n,.inr ?_,λu=>by have:=g t;omega,λy d p => ?_⟩
    ·rcases b2 with e|e
     ·rw[e];exact wA ..
     ·exact wh _ e
    ·rcases vZ.1 d with rfl|d
     ·exact g t
     ·exact o y d p
   by_cases j:m<0
   ·rw[A9a j];exact f True (.inl j)
   ·rw[O3 j];by_cases e:x<m
    ·rw[A9a e];exact f True (.inr e)
    ·rw[O3 e];have⟨a,b⟩:=Lc c k r m l s;refine⟨λh=>absurd (a h).1 j,λh => ?_⟩;have⟨n,b2,g,o⟩:=b h;refine⟨n,b2.imp id (wh _),g,λy d p => ?_⟩;rcases vZ.1 d with rfl|d
     ·have:=g Y;omega
     ·exact o y d p
  ·rw[O3 i];have⟨a,b⟩:=Lc c k r m l s;refine⟨λh=>⟨(a h).1,λy d => ?_⟩,λh => ?_⟩
   ·rcases vZ.1 d with rfl|d
    ·omega
    ·exact(a h).2 y d
   ·have⟨f,b2,g,j⟩:=b h;refine⟨f,b2.imp id (wh _),g,λy d e => ?_⟩;rcases vZ.1 d with rfl|d
    ·exact absurd e i
    ·exact j y d e
def kE(L:u_)(a:Int):Nat:=(L.filter λx=>decide (a<x)).length
theorem Win:∀(L:u_) (a m:Int),a<m->m∈L->kE L m<kE L a
 |[],a,m,h,hm=>by cases hm
 |x::r,a,m,h,hm=>by
  have d:∀r:u_,kE r m<=kE r a:=λr=>by
   induction r with
   |nil=>simp[kE]
   |cons y r b=>
    unfold kE at b ⊢;rw[Gw,Gw];by_cases c:m<y
    ·rw[A9a (xG c),A9a (xG Y)];simpa using b
    ·rw[O3 (by simpa using c)];split
     ·simp;omega
     ·exact b
  have e:=d r;unfold kE at e ⊢;rw[Gw,Gw];rcases vZ.1 hm with rfl|hm
  ·rw[O3 u0,A9a (xG h)];simp;omega
  ·have b:=Win r a m h hm;unfold kE at b;by_cases c:m<x
   ·rw[A9a (xG c),A9a (xG Y)];simpa using b
   ·rw[O3 (by simpa using c)];split
    ·simp;omega
    ·exact b
theorem Xv(L:u_)(g:∀x∈L,0<=x):∀(f:Nat) (c:Int),-1<=c->kE L c<f->
  (∀x∈fI f L c,x∈L/\c<x)/\(∀x∈L,c<x->x∈fI f L c)/\(fI f L c).Nodup
 |0,c,a,b=>by omega
 |f+1,c,l,t=>by
  have⟨a,b⟩:=Lc c l L (-1) g (.inl Y);unfold fI;by_cases h:fG c L (-1)<0
  ·rw[A9a h];refine⟨u0,λx d e => ?_,u0⟩;have:=(a h).2 x d;omega
  ·rw[O3 h];have⟨i,b2,u,o⟩:=b Y;have j:fG c L (-1)∈L:=by rcases b2 with e|e;omega;exact e
   generalize fG c L (-1)=m at*;have p:=Win L c m i j;have⟨k,q,r⟩:=Xv L g f m Y Y;refine⟨λx d => ?_,λx d n => ?_,Nb.2 ⟨λs => ?_,r⟩⟩
   ·rcases vZ.1 d with rfl|d
    ·exact⟨j,i⟩
    ·have:=k x d;exact⟨this.1,by omega⟩
   ·by_cases e:x=m
    ·rw[e];exact wA ..
    ·exact wh _ (q x d (by have:=o x d n;omega))
   ·have:=(k m s).2;omega
theorem YD:∀(r:u_) (x:Int),(∀y∈r,x<=y)->r.Pairwise (· <= ·)->(∀y,y∈x::fD x r↔y∈x::r)/\(x::fD x r).Nodup/\∀y∈fD x r,x<y
 |[],x,_,_=>⟨λy=>Iff.rfl,by simp[fD],by simp[fD]⟩
 |y::r,x,g,h=>by
  have i:=g y (wA ..);have⟨j,k⟩:=List.pairwise_cons.1 h;have⟨a,b,c⟩:=YD r y j k;unfold fD;by_cases e:y=x
  ·subst e;rw[A9a rfl];refine⟨λz => ?_,b,c⟩;rw[a];simp
  ·rw[O3 e];refine⟨λz => ?_,Nb.2 ⟨λd => ?_,b⟩,λz f => ?_⟩
   ·rw[vZ,a z,vZ (b:=x)]
   ·rcases vZ.1 d with l|d
    ·exact e l.symm
    ·have:=c x d;omega
   ·rcases vZ.1 f with rfl|f
    ·omega
    ·have:=c z f;omega
def Wio:(vg w).Pairwise (· <= ·):=by have:=List.pairwise_mergeSort (le:=λx y:Int=>decide (x<=y)) (λa b c d e=>by simp only[A9f]at*; omega) (λa b=>by simp only[zH,A9f];omega) w;exact this.imp λh=>by simpa using h
def OF:(∀y,y∈fh (vg w)↔y∈w)/\(fh (vg w)).Nodup:=by
 have e:=Wio w;have d y:y∈vg w↔y∈w:=List.mem_mergeSort;cases f:vg w with
 |nil=>rw[f]at d;exact⟨λy=>by rw[<-d];rfl,by simp[fh]⟩
 |cons x r=>rw[f]at e d;have⟨g,h⟩:=List.pairwise_cons.1 e;have⟨a,b,c⟩:=YD r x g h;exact⟨λy=>(a y).trans (d y),b⟩
def Wtx(h:∀x∈w,0<=x)(f:Nat)(i:kE w (-1)<f):(fI f w (-1)).length=(fh (vg w)).length:=by have⟨a,b,c⟩:=Xv w h f (-1) Y i;have⟨d,e⟩:=OF w;refine Nat.le_antisymm (EN _ _ c λx g=>(d x).2 (a x g).1) (EN _ _ e λx g => ?_);have:=(d x).1 g;exact b x this (by have:=h x this;omega)
section
variable{b:Bool}{e1 e2:List u2}{ms ls st ou:V}{n:Int}{l:u_}{H:hN}
def Wy4{t:V}(a:e.cells=[e])(c:V.one e)(d:∀cs,e≠.agg cs)(f:t.dg=T):u5 (pO b e1 e2 (sC ms ls st ou n) l++H) 1 (.ptr 2 0) e t=W (.undef,pO b e1 e2 (sC t ls st ou n) l++H):=by
 have v:u5 (pO b e1 e2 (sC ms ls st ou n) l++H) 1 (.ptr 2 0) e t=(hN.get (pO b e1 e2 (sC ms ls st ou n) l++H) 2).bind λcs=>if e.cells.length=1/\0+1<=cs.length/\yd e.cells=true then(match e with | .agg _=>W (.undef,(pO b e1 e2 (sC ms ls st ou n) l++H).set 2 (.cells (RK cs 0 (e.cells.map V.ng))))|_=>if t.dg then none else W (.undef,(pO b e1 e2 (sC ms ls st ou n) l++H).set 2 (.cells (cs.set 0 t))))else none:=rfl
 rw[v,w1,va,A9a ⟨by rw[a];rfl,by simp[sC],by rw[a,CY,c];rfl⟩];cases e with
 |agg cs=>exact absurd rfl (d cs)
 |_=>simp only[f,vD,A9d,RX];rfl
def Wy5:Zy (pO b e1 e2 (sC (rG 1 g) ls st ou n) l++H) (.ptr 2 0)=W (rG 1 g,pO b e1 e2 (sC (gK (rG 1 g)) ls st ou n) l++H):=by
 have e ms:Zy (pO b e1 e2 (sC ms ls st ou n) l++H) (.ptr 2 0)=(match ms with | .sl g (.gr s)=>W (.sl g (.gr s),(pO b e1 e2 (sC ms ls st ou n) l++H).set 2 (.cells ((sC ms ls st ou n).set 0 (.sl g .no)))) | .sl _ .lk=>none|v=>W (v,pO b e1 e2 (sC ms ls st ou n) l++H):Ro):=by show((hN.get (pO b e1 e2 (sC ms ls st ou n) l++H) 2).bind λa=>(a[0]?).bind _)=_;rw[w1];rfl
 rw[e];cases g with
 |nil=>rfl
 |cons x r=>simp only[rG,RX];rfl
def sB:VH (pO b e1 e2 (sC (rG 1 g) ls st ou n) l++H) (.ptr 2 0)=if g=[]then .same true 2 0 1 else .cE 2 0:=by unfold VH;simp only[w1];cases g<;>rfl
def ua:ZU [if g=[]then .same true 2 0 1 else .cE 2 0] (pO b e1 e2 (sC (gK (rG 1 g)) ls st ou n) l++H)=W (pO b e1 e2 (sC (kd (rG 1 g)) ls st ou n) l++H):=by
 cases g with
 |nil=>rfl
 |cons x r=>show Hs (pO b e1 e2 (sC (.sl (x::r) .no) ls st ou n) l++H) [(2,0)]=_;unfold Hs;rw[w1];show Hs ((pO b e1 e2 (sC (.sl (x::r) .no) ls st ou n) l++H).set 2 (.cells ((sC (.sl (x::r) .no) ls st ou n).set 0 (.sl (x::r) .lk)))) []=_;rw[RX];rfl
def ub:w_ [if g=[]then .same true 2 0 1 else .cE 2 0] (pO b e1 e2 (sC (gK (rG 1 g)) ls st ou n) l++H) (pO b e1 e2 (sC (kd (rG 1 g)) ls st ou n) l++H)=W (pO b e1 e2 (sC (gK (rG 1 g)) ls st ou n) l++H):=by
 cases g with
 |nil=>
  show(if(bt (pO b e1 e2 (sC .ad ls st ou n) l++H) (pO b e1 e2 (sC .ad ls st ou n) l++H) (.same true 2 0 1)&&true)=true then W (pO b e1 e2 (sC .ad ls st ou n) l++H)else none)=_;have:bt (pO b e1 e2 (sC .ad ls st ou n) l++H) (pO b e1 e2 (sC .ad ls st ou n) l++H) (.same true 2 0 1):=by simp only[bt,w1,decide_true,Ab,A9c,V.bG]
  rw[this];rfl
 |cons x r=>show(TS (pO b e1 e2 (sC (.sl (x::r) .lk) ls st ou n) l++H) [(2,0)]).bind (λa=>if(true&&true)=true then W a else none)=_;unfold TS;rw[w1];show(TS ((pO b e1 e2 (sC (.sl (x::r) .lk) ls st ou n) l++H).set 2 (.cells ((sC (.sl (x::r) .lk) ls st ou n).set 0 (.sl (x::r) .no)))) []).bind (λa=>if(true&&true)=true then W a else none)=_;rw[RX];rfl
def Oo{f:b3->V}(l:List b3):vG f a l=rG a (l.map f):=by cases l<;>rfl
end
theorem YE:∀(f:Nat) (r:u2),∀c∈ji f r,Qbn c
 |0,r,c,a=>by simp[ji]at a
 |f+1,r,c,a=>by
  unfold ji at a;split at a
  ·cases a
  ·cases b:dD r with
   |none=>rw[b]at a;cases a
   |some k=>
    rw[b]at a;simp only at a;rcases vZ.1 a with h|h
    ·have d:=zN b;have e:=(EJ r k d.1 d.2.1 d.2.2).2 b;unfold D0 at e;rw[vc]at e;rw[h];exact e.1
    ·exact YE f _ c h
def Qvo(s:u2):∀c∈bP s,Qbn c:=YE _ s
def Ld(a:0<=j)(b:j<55296):Qbn j:=by unfold Qbn;simp only[vc,zH,A9f];exact⟨⟨a,by omega⟩,.inl b⟩
def Wdi(h:Qbn j):Qbn (VW j):=by
 unfold VW;split
 ·exact Ld Y Y
 ·split
  ·exact Ld Y Y
  ·exact h
def Tn(l:wZ):∀c∈JV l,Qbn c:=by
 intro c a;unfold JV at a;rcases xf.1 a with a|a
 ·obtain rfl:=vR.1 a;exact Ld Y Y
 ·have⟨x,e,a⟩:=Fc.1 a;unfold dV at a;have⟨y,d,a⟩:=Fc.1 a;have b:=Qvo _ y d;split at a
  ·simp only[vZ,AS,R7]at a;rcases a with rfl|rfl
   ·exact b
   ·exact Wdi b
  ·obtain rfl:=vR.1 a;exact b
def YF:∀c∈dc w,c=32\/c=9\/c=10\/c=12\/c=13:=by
 have d:∀r:u2,∀c∈IH w r,∃b∈r,c=(b.toNat:Int):=λr=>by
  induction r with
  |nil=>intro c a;cases a
  |cons b r g=>
   intro c a;unfold IH at a;split at a
   ·have⟨x,h,e⟩:=g c a;exact⟨x,wh _ h,e⟩
   ·obtain rfl:=vR.1 a;exact⟨b,wA ..,rfl⟩
 intro c a;obtain⟨b,f,rfl⟩:=d _ c a;simp only[vZ,AS,R7]at f;rcases f with rfl|rfl|rfl|rfl|rfl<;>decide
def Wip:48<=fP w/\fP w<=257+w.length:=by
 have a:∀(f:Nat) (c:Int),c<=fU w f c/\fU w f c<=c+f:=λf=>by
  induction f with
  |zero=>intro c;exact⟨GY _,by simp[fU]⟩
  |succ f d=>
   intro c;unfold fU;split
   ·omega
   ·have:=d (c+1);omega
 have e:∀r:u2,(∀b∈r,48<=b.toNat/\b.toNat<=122)->48<=gJ w r/\gJ w r<=257+w.length:=λr=>by
  induction r with
  |nil=>intro _;have:=a (w.length+1) 256;unfold gJ;omega
  |cons b r d=>
   intro h;unfold gJ;split
   ·have:=h b (wA ..);omega
   ·exact d λx c=>h x (wh _ c)
 exact e xO (by decide)
def Wne(l:wZ)(c:Int):c∈cJ l↔c∈JV l\/c∈dc (JV l)\/c=fP (JV l++dc (JV l)):=by unfold cJ kB;rw[(OF _).1 c,xf,xf,vR,or_assoc]
def XC(l:wZ)(k:Nat)(h:∀c∈l,(bP c.text).length<=k):(JV l).length<=1+2*k*l.length:=by
 unfold JV;have a(b:Bool)(r:wZ):(∀c∈r,(bP c.text).length<=k)->(r.flatMap λc=>dV b (bP c.text)).length<=2*k*r.length:=by
  induction r with
  |nil=>intro _;simp
  |cons x r d=>intro h;rw[AR,vW,vT];have f:=W8 b (bP x.text);have g:=h x (wA ..);have i:=d λc e=>h c (wh _ e);rw[Nat.mul_succ];omega
 rw[vW,Gt];have:=a (l.any (·.fold)) l h;omega
theorem Qx6:∀(r:u_) (x:Int),(fD x r).length<=r.length
 |[],x=>vE _
 |y::r,x=>by
  unfold fD;split
  ·have:=Qx6 r y;rw[vT];omega
  ·rw[vT,vT];have:=Qx6 r y;omega
def Wnf(l:wZ):(cJ l).length<=(JV l).length+2:=by
 unfold cJ kB;have a:∀m:u_,(fh m).length<=m.length:=λm=>by
  cases m with
  |nil=>exact vE _
  |cons x r=>show(x::fD x r).length<=(x::r).length;rw[vT,vT];have:=Qx6 r x;omega
 have b:=a (vg (JV l++dc (JV l)++[fP (JV l++dc (JV l))]));rw[fV,vW,vW,Gt]at b;have c:=XH (JV l);omega
def Wdj(l:wZ)(h:(JV l).length<=50000):∀c∈cJ l,Qbn c:=by
 intro c a;rcases(Wne l c).1 a with a|a|rfl
 ·exact Tn l c a
 ·rcases YF _ c a with rfl|rfl|rfl|rfl|rfl<;>decide
 ·have b:=Wip (JV l++dc (JV l));have d:=XH (JV l);rw[vW]at b;exact Ld Y Y
def ff(n:Nat):fF:=⟨List.replicate n false,[],true⟩
def iY(n:Nat):aY:=⟨[],[ff n],0⟩
def Wdk(ms:y8)(n:Nat):Invq9 ms (iY n):=⟨Qz,λx a=>(by cases a),λi x h=>(by cases h),λi x h=>(by cases h),(by simp[iY]),(by simp[iY])⟩
def zO(ms:y8)(a:V):hN:=pO false [] [] (sC (vG bm 1 ms) a .ad .ad 0) []
def k9(p:Bool×aY):V:=.aR [if p.1 then .sl (p.2.out.map aK) .no else .ad,.int .i64 p.2.steps,if p.1 then .bc else cR 21]
section
variable(s:Sl dQ)(ls:u_)(u:lr (s.l.map bg) ls)(Q:s.l.length<=1000)(N:∀c∈s.l,fE c)(bud:Int)(f:Nat)(p:Bool×aY)(z:eJ (s.l.map bg) ls bud f 0 (bS (s.l.map bg) (iY s.l.length) (eK (s.l.map bg)))=some p)
include u Q z
theorem Wty(J:Rk):nb QaT 0 3 J (iI bud) (.ptr 2 0) (.sl (List.replicate s.l.length (.bool T)) .fx) (ae eS s) (iI s.l.length) (iI s.l.length) (zO (s.l.map bg) (.sl (Z ls) .no))=W (k9 p,[]):=by
 have w:¬(s.l.length:Int)<s.l.length:=by omega
 have d:(List.replicate s.l.length T).map Bv=List.replicate s.l.length (V.bool T):=by rw[KV]
 have x I:fz 3 I fzD (.sl (List.replicate s.l.length (.bool T)) .fx)=W (.sl (List.replicate s.l.length (.bool T)) .fx):=vC (by rw[<-d];exact AM λ_=>rfl);have y:(V.sl (List.replicate s.l.length (.bool T)) .fx).ng=.sl (List.replicate s.l.length (.bool T)) .no:=rfl;have k:(V.sl (List.replicate s.l.length (.bool T)) .no).ng=.sl (List.replicate s.l.length (.bool T)) .no:=rfl;have o:Wf (zO (s.l.map bg) (.sl (Z ls) .no)):=Wic (Wm6 (XW _) wB rfl rfl (by decide));have g:ve 3 (zO (s.l.map bg) (.sl (Z ls) .no))=W (zO (s.l.map bg) (.sl (Z ls) .no)):=Kk (I:=zO (s.l.map bg) (.sl (Z ls) .no)) o;have A:eL (zO (s.l.map bg) (.sl (Z ls) .no)) T 1 (.ptr 2 4)=W (.mp 1):=rfl;have i:E cx 100 [.sl (List.replicate s.l.length (.bool T)) .no] (zO (s.l.map bg) (.sl (Z ls) .no))=W (.str (aQ (List.replicate s.l.length T)),zO (s.l.map bg) (.sl (Z ls) .no)):=by
  have:=so (List.replicate s.l.length T) yZ (zO (s.l.map bg) (.sl (Z ls) .no))
  rwa[d]at this
 have B:w_ [xN T 1 (.ptr 2 4)] (zO (s.l.map bg) (.sl (Z ls) .no)) (zO (s.l.map bg) (.sl (Z ls) .no))=W (zO (s.l.map bg) (.sl (Z ls) .no)):=Qst rfl;have l:JW .s (zO (s.l.map bg) (.sl (Z ls) .no)) (.mp 1) (.str (aQ (List.replicate s.l.length T))) (.bool true)=W (.undef,pO T [] [aQ (List.replicate s.l.length T)] (sC (vG bm 1 (s.l.map bg)) (.sl (Z ls) .no) .ad .ad 0) []):=rfl;have C:mz [.ad,.str [],.bool T] [(0,1,.sl (List.replicate s.l.length (.bool T)) .no),(2,1,.bool true)]=W (aK (ff s.l.length)):=by show W (V.agg [.sl (List.replicate s.l.length (.bool T)) .no,.str [],.bool true])=W (V.agg [.sl ((List.replicate s.l.length T).map Bv) .no,.str [],.bool true]);rw[d]
 have D:(aK (ff s.l.length)).ng=aK (ff s.l.length):=rfl;have F:wS true 3 1 (.agg [.ad,.str [],.bool T]) [(0,aK (ff s.l.length))]=W (.sl [aK (ff s.l.length)] .fx):=rfl;have G:(V.sl [aK (ff s.l.length)] .fx).ng=.sl [aK (ff s.l.length)] .no:=rfl;have m:u5 (pO T [] [aQ (List.replicate s.l.length T)] (sC (vG bm 1 (s.l.map bg)) (.sl (Z ls) .no) .ad .ad 0) []) 1 (.ptr 2 5) (.sl [aK (ff s.l.length)] .no) (.sl [aK (ff s.l.length)] .fx)=W (.undef,sO T (s.l.map bg) ls (iY s.l.length) []):=rfl;have e:=sA (s.l.map bg) ls u bud (iY s.l.length) (Wdk _ _) rfl f p z;have H:=Wpi (s.l.map bg) ls T p.2 [];have K:=Wyz (s.l.map bg) ls T p.2 [];have L:∀r I,V.rb 0 r->nK 0 I r=W (r,[]):=λr I h=>Wru h;have c:=L (k9 p) (sO T (s.l.map bg) ls p.2 []) (by
  unfold k9;cases p.1
  ·rfl
  ·simp only[A9c,Wom,Qae,Dg,AM λv=>OM v];rfl)
 have q:w_ [xN T 1 (.ptr 2 6)] (sO T (s.l.map bg) ls p.2 []) (sO T (s.l.map bg) ls p.2 [])=W (sO T (s.l.map bg) ls p.2 []):=Qst rfl;have j:=λI=>Wgm 21 0 I;cases n:p.1 with
 |true=>unfold k9 at c ⊢;rw[n]at c e;simp only[n,A9c]at c ⊢;have v:(V.sl (p.2.out.map aK) .no).ng=.sl (p.2.out.map aK) .no:=rfl;have t:(V.sl (p.2.out.map aK) .no).aI=.sl (p.2.out.map aK) .no:=rfl;generalize V.sl (p.2.out.map aK) .no=U,V.sl (List.replicate s.l.length (.bool T)) .no=S,V.sl (List.replicate s.l.length (.bool T)) .fx=R,aK (ff s.l.length)=b,V.sl [aK (ff s.l.length)] .no=Q,V.sl [aK (ff s.l.length)] .fx=P,sO T (s.l.map bg) ls p.2 []=O,sO T (s.l.map bg) ls (iY s.l.length) []=N,pO T [] [aQ (List.replicate s.l.length T)] (sC (vG bm 1 (s.l.map bg)) (.sl (Z ls) .no) .ad .ad 0) []=M,zO (s.l.map bg) (.sl (Z ls) .no)=a at*;simp -implicitDefEqProofs(disch:=try exact wK)only[go_sem,nb,w,x,y,k,g,A,i,B,l,C,D,F,G,m,e,K,H,v,t,c]
 |false=>unfold k9 at c ⊢;rw[n]at c e;simp only[n,vD,A9d]at c ⊢;unfold cR at c ⊢;generalize V.sl (List.replicate s.l.length (.bool T)) .no=Q,V.sl (List.replicate s.l.length (.bool T)) .fx=P,aK (ff s.l.length)=b,V.sl [aK (ff s.l.length)] .no=O,V.sl [aK (ff s.l.length)] .fx=N,sO T (s.l.map bg) ls p.2 []=M,sO T (s.l.map bg) ls (iY s.l.length) []=v,pO T [] [aQ (List.replicate s.l.length T)] (sC (vG bm 1 (s.l.map bg)) (.sl (Z ls) .no) .ad .ad 0) []=t,zO (s.l.map bg) (.sl (Z ls) .no)=a at*;simp -implicitDefEqProofs(disch:=try exact wK)only[go_sem,nb,w,x,y,k,g,A,i,B,l,C,D,F,G,m,e,H,j,q,c]
include N
theorem YG:∀(r q:wZ),s.l=q++r->ph QaT 0 3 [iI bud,.ptr 2 0,.sl (List.replicate s.l.length (.bool T)) .fx,ae eS s,iI s.l.length,iI q.length] (zO (q.map bg) (.sl (Z ls) .no))=W (k9 p,[])
 |[],q,a=>by
  have b:q=s.l:=by rw[a];simp
  subst b;rw[yO];exact Wty s ls u Q bud f p z _
 |c::r,q,i=>by
  have w:s.l.length=q.length+r.length+1:=by rw[i];simp;omega
  have y:(q.length:Int)<s.l.length:=by omega
  have j:=N c (by rw[i];simp);have b:(List.replicate s.l.length T).map Bv=List.replicate s.l.length (V.bool T):=by rw[KV]
  have A I:fz 3 I fzD (.sl (List.replicate s.l.length (.bool T)) .fx)=W (.sl (List.replicate s.l.length (.bool T)) .fx):=vC (by rw[<-b];exact AM λ_=>rfl);have B k I:fz k I fzD (ae eS s)=W (ae eS s):=qe λ_ _=>rfl;have C:(ae eS s).ng=ae eS s:=vz;have D:eI 3 (iI q.length) (ae eS s)=W (.ai (cq c) 0):=KZ i rfl rfl;have F I:eL I true 3 (.ai (cq c) 0)=W (.agg (cq c)):=xg rfl Ws7;have l:u5 (zO (q.map bg) (.sl (Z ls) .no)++[O.cells [iI 0,.str [],.bool T]]) 3 (.ptr 3 0) (.agg (cq c)) (.agg (cq c))=W (.undef,zO (q.map bg) (.sl (Z ls) .no)++[.cells (cq c)]):=rfl;have H:eL (zO (q.map bg) (.sl (Z ls) .no)++[.cells (cq c)]) T 1 (.ptr 3 1)=W (.str c.text):=rfl;have e:=λI=>Qqt c.text (by have:=j.2;omega) I;rw[j.1]at e;have n:(zO (q.map bg) (.sl (Z ls) .no)).length=3:=rfl;have J:Zy (zO (q.map bg) (.sl (Z ls) .no)++[.cells (cq c)]) (.ptr 2 0)=W (vG bm 1 (q.map bg),pO T [] [] (sC (gK (vG bm 1 (q.map bg))) (.sl (Z ls) .no) .ad .ad 0) []++[.cells (cq c)]):=by unfold zO;rw[Oo];exact Wy5
  have o m:eL (pO T [] [] (sC m (.sl (Z ls) .no) .ad .ad 0) []++[.cells (cq c)]) true 3 (.ptr 3 0)=W (.agg (cq c)):=rfl;have o:=o (gK (vG bm 1 (q.map bg)));have K:ZU [VH (zO (q.map bg) (.sl (Z ls) .no)++[.cells (cq c)]) (.ptr 2 0)] (pO T [] [] (sC (gK (vG bm 1 (q.map bg))) (.sl (Z ls) .no) .ad .ad 0) []++[.cells (cq c)])=W (pO T [] [] (sC (kd (vG bm 1 (q.map bg))) (.sl (Z ls) .no) .ad .ad 0) []++[.cells (cq c)]):=by unfold zO;rw[Oo,sB];exact ua
  have L:w_ [VH (zO (q.map bg) (.sl (Z ls) .no)++[.cells (cq c)]) (.ptr 2 0)] (pO T [] [] (sC (gK (vG bm 1 (q.map bg))) (.sl (Z ls) .no) .ad .ad 0) []++[.cells (cq c)]) (pO T [] [] (sC (kd (vG bm 1 (q.map bg))) (.sl (Z ls) .no) .ad .ad 0) []++[.cells (cq c)])=W (pO T [] [] (sC (gK (vG bm 1 (q.map bg))) (.sl (Z ls) .no) .ad .ad 0) []++[.cells (cq c)]):=by unfold zO;rw[Oo,sB];exact ub
  have d I:E cx 99 [.agg (cq c)] I=W (bm (bg c),I):=Wx8 c j I;have M:=Qvd (bg c);have P:wS T 1 1 .bc [(0,bm (bg c))]=W (.sl [bm (bg c)] .fx):=by cases bg c<;>rfl
  have R:(V.sl [bm (bg c)] .fx).ng=.sl [bm (bg c)] .no:=rfl;have S I:aT T T 1 16 I (vG bm 1 (q.map bg)) (.sl [bm (bg c)] .no)=W (vG bm 1 (q.map bg++[bg c])):=
   UM (λm=>by rw[SB];rfl) (λm=>by rw[SB,CY,Wtf];rfl) (λm=>by cases m<;>rfl) (by simp;unfold Qaq;omega)
  have U:(vG bm 1 (q.map bg++[bg c])).ng=.sl ((q.map bg++[bg c]).map bm) .no:=by rw[Oo,yW,Xk,Qe];rfl
  have t:u5 (pO T [] [] (sC (gK (vG bm 1 (q.map bg))) (.sl (Z ls) .no) .ad .ad 0) []++[.cells (cq c)]) 1 (.ptr 2 0) (.sl ((q.map bg++[bg c]).map bm) .no) (vG bm 1 (q.map bg++[bg c]))=W (.undef,zO (q.map bg++[bg c]) (.sl (Z ls) .no)++[.cells (cq c)]):=
   Wy4 rfl rfl (λv h=>by cases h) (by rw[Oo,yW,Xk,Qe];rfl)
  have v:Wf (zO (q.map bg++[bg c]) (.sl (Z ls) .no)):=Wic (Wm6 (XW _) wB rfl rfl (by decide));have g:ve 3 (zO (q.map bg++[bg c]) (.sl (Z ls) .no)++[.cells (cq c)])=W (zO (q.map bg++[bg c]) (.sl (Z ls) .no)):=xd v;have x:=YG r (q++[c]) (by rw[i];simp);rw[show((q++[c]).length:Int)=q.length+1 by simp,yW,Xk]at x;rw[yO];generalize cq c=CC,ae eS s=SV,V.sl (List.replicate s.l.length (.bool T)) .fx=N1,bm (bg c)=MM,V.sl [bm (bg c)] .no=F2,V.sl [bm (bg c)] .fx=F1,vG bm 1 (q.map bg)=G,vG bm 1 (q.map bg++[bg c])=G1,V.sl ((q.map bg++[bg c]).map bm) .no=G2,zO (q.map bg) (.sl (Z ls) .no)=a,zO (q.map bg) (.sl (Z ls) .no)++[.cells (cq c)]=Z1,pO T [] [] (sC (gK (vG bm 1 (q.map bg))) (.sl (Z ls) .no) .ad .ad 0) []++[.cells (cq c)]=Z2,pO T [] [] (sC (kd (vG bm 1 (q.map bg))) (.sl (Z ls) .no) .ad .ad 0) []++[.cells (cq c)]=Z3,zO (q.map bg++[bg c]) (.sl (Z ls) .no)=Z5,zO (q.map bg++[bg c]) (.sl (Z ls) .no)++[.cells (cq c)]=Z4,k9 p=X at*;simp -implicitDefEqProofs(disch:=try exact wK)only[go_sem,nb,y,D,F,n,l,H,e,J,o,K,d,M,L,P,R,S,U,t,A,B,C,g,x]
end
structure fW (l:List dQ):Prop where
 n:l.length<=200
 p9:∀c∈l,fE c
 sz:∀c∈l,c.text.length<=8
 ns:Qcc (l.map bg)<=900000
def fW.m{l:wZ}(h:fW l):lr (l.map bg) (cJ l):=by
 have d:=XC l 8 (λc a=>by have:=Hu c.text;have:=h.sz c a;omega);have e:=h.n;have f:=Wnf l;refine⟨λm b => ?_,by rw[wq];omega,λm b => ?_,h.ns,Wdj l Y,by omega⟩
 ·obtain⟨c,a,rfl⟩:=wa.1 b;exact Wx7 (h.p9 c a)
 ·obtain⟨c,a,rfl⟩:=wa.1 b;have g:=Wo8 c;have i:=Hu c.text;have j:=h.sz c a;omega
def Wy6(l:wZ)(h:fW l)(bud:Int):∃p,eJ (l.map bg) (cJ l) bud (Qcc (l.map bg)+1) 0 (bS (l.map bg) (iY l.length) (eK (l.map bg)))=some p:=
 JR h.m.ch _ 0 _ ((Wdk _ _).put (Wim _ _ h.m _)) Y Y
noncomputable def iw(l:List dQ)(bud:Int):Bool×aY:=(eJ (l.map bg) (cJ l) bud (Qcc (l.map bg)+1) 0 (bS (l.map bg) (iY l.length) (eK (l.map bg)))).getD (true,iY 0)
def KL(l:wZ)(h:fW l)(bud:Int):eJ (l.map bg) (cJ l) bud (Qcc (l.map bg)+1) 0 (bS (l.map bg) (iY l.length) (eK (l.map bg)))=W (iw l bud):=by have⟨p,a⟩:=Wy6 l h bud;unfold iw;rw[a];rfl
def Wtz(s:Sl dQ)(h:fW s.l)(bud:Int)(I:hN):E cx 84 [ae eS s,iI bud] I=W (k9 (iw s.l bud),I):=by
 refine v_ X0K X0K ?_ (by rw[Qae,vw λ_ _=>rfl];rfl) I;have n:=h.n;have a:=λI=>Wdf s h.n h.p9 I;have c:=YG s (cJ s.l) h.m Y h.p9 bud _ _ (KL s.l h bud) s.l [] rfl;have b:ph QaT 0 3 [iI bud,.ptr 2 0,.sl (List.replicate s.l.length (.bool T)) .fx,ae eS s,iI s.l.length,iI 0] [.mp [],.mp [],.cells [.ad,.sl (Z (cJ s.l)) .no,.ad,.mp 0,.mp 1,.ad,iI 0]]=W (k9 (iw s.l bud),[]):=c;have d:mz [.ad,.ad,.ad,.cg,.cg,.ad,iI 0] [(1,1,.sl (Z (cJ s.l)) .no),(3,1,.mp 0),(4,1,.mp 1)]=W (.agg [.ad,.sl (Z (cJ s.l)) .no,.ad,.mp 0,.mp 1,.ad,iI 0]):=rfl;have e:bK [.mp [],.mp []] (.agg [.ad,.sl (Z (cJ s.l)) .no,.ad,.mp 0,.mp 1,.ad,iI 0])=W (.ptr 2 0,[.mp [],.mp [],.cells [.ad,.sl (Z (cJ s.l)) .no,.ad,.mp 0,.mp 1,.ad,iI 0]]):=rfl;have mk:gH T 1 1 (.bool T) (iI s.l.length) (iI s.l.length)=W (.sl (List.replicate s.l.length (.bool T)) .fx):=YA rfl rfl rfl (by unfold Qaq;omega);have f:(V.sl (Z (cJ s.l)) .no).ng=.sl (Z (cJ s.l)) .no:=rfl;have g I:fz 3 I fzD (.sl (List.replicate s.l.length (.bool T)) .fx)=W (.sl (List.replicate s.l.length (.bool T)) .fx):=vC (by rw[show List.replicate s.l.length (V.bool T)=(List.replicate s.l.length T).map Bv by rw[KV]];exact AM λ_=>rfl)
 have i k I:fz k I fzD (ae eS s)=W (ae eS s):=qe λ_ _=>rfl;have j:(ae eS s).ng=ae eS s:=vz;have l:Qai (ae eS s)=W (iI s.l.length):=ON;rw[QeG];generalize o:[V.ad,.sl (Z (cJ s.l)) .no,.ad,.mp 0,.mp 1,.ad,iI 0]=p at*;generalize V.sl (Z (cJ s.l)) .no=t,ae eS s=r,V.sl (List.replicate s.l.length (.bool T)) .fx=q,k9 (iw s.l bud)=m at*;simp -implicitDefEqProofs(disch:=try exact wK)only[go_sem,L8,a,f,d,e,l,j,mk,g,i,b]
theorem VL{n:Nat}{kp ks:wi}{I:hN}:∀ {ps qs:XB},mB n I kp ks (ps++qs)=(mB n I kp ks ps).bind λxs=>(mB n I kp ks qs).bind λa=>W (xs++a)
 |[],qs=>by simp only[xQ,mB,va];cases mB n I kp ks qs<;>rfl
 |p::ps,qs=>by
  have b:=VL (n:=n) (kp:=kp) (ks:=ks) (I:=I) (ps:=ps) (qs:=qs);simp only[AJ,mB,b];cases(if kp.contains p.1=true then OA n ks I p.2 else fz n I fzD p.2)with
  |none=>rfl
  |some y=>
   simp only[va];cases mB n I kp ks ps with
   |none=>rfl
   |some xs=>simp only[va];cases mB n I kp ks qs<;>rfl
theorem yE{n:Nat}{kp ks:wi}{I:hN}:∀ {ps:XB},(∀p∈ps,kp.contains p.1=T/\V.rb n p.2)->mB n I kp ks ps=W (ps.map Prod.snd)
 |[],_=>rfl
 |p::ps,h=>by have a:=h p (wA ..);have b:=yE (ks:=ks) (I:=I) λq c=>h q (wh _ c);unfold mB;rw[b,a.1,vC a.2];rfl
theorem R3{n:Nat}:∀ {C:uZ},V.aL 0 C->C.filterMap (js n)=[]
 |[],_=>rfl
 |x::C,h=>by
  rw[Qae,vc]at h;have a:=R3 (n:=n) h.2;have:js n x=none:=by
   cases x with
   |mp o=>simp[V.rb]at h
   |_=>rfl
  rw[KT,this,a]
theorem YO{n:Nat}{ks:wi}{I:hN}:∀ {C:uZ},V.aL 0 C->C.mapM (OA n ks I)=W C
 |[],_=>by simp
 |x::C,h=>by rw[Qae,vc]at h;rw[xw,Ha h.1,YO h.2];rfl
def yk(h:hN.get d a=W g):d[a]?=W (.cells g):=by
 unfold hN.get at h;cases I:d[a]? with
 |none=>rw[I]at h;cases h
 |some x=>
  rw[I]at h;cases x with
  |cells b=>simp only[vU]at h;rw[h]
  |mp b=>cases h
  |si r p=>cases h
  |gone=>cases h
abbrev RD:=Option (List V×Nat×Nat×Bool)
def bD(n:Nat):RD->V
 |none=>.ad
 |some (_,a,b,c)=>.hg n a b c
def ax:RD->hN
 |none=>[]
 |some (C,_)=>[.cells C]
def Ot(I:hN)(n:Nat)(v:V):RD->Prop
 |none=>v=.ad
 |some (C,a,b,c)=>∃o,n<=o/\v=.hg o a b c/\hN.get I o=some C/\V.aL 0 C=true
def eT:V->wi
 | .hg o _ _ _=>[o]
 |_=>[]
def Nn(h:d.length<=a)(x:O):(d++a8).set a x=d++a8.set (a-d.length) x:=Hh _ _ h
def ZP{ks:wi}(h:V.aL 0 g):AO a ks d (.cells g)=W (.cells g):=by show(g.mapM (OA a ks d)).map O.cells=_;rw[YO h];rfl
def K_{t:Nat}{v:V}{pre post:XB}(h:∀p∈pre,p.1≠t):mV t (pre++(t,v)::post)=v:=Pk h
section
variable{I0 H:hN}(u:Wf I0){t:Nat}{v:V}{R:RD}{pre post:XB}
include u
theorem Wng(j:Ot (I0++H) I0.length v R)(g:∀p∈pre,p.1≠t/\V.rb I0.length p.2)(k:∀p∈post,p.1≠t/\V.rb I0.length p.2):
  VJ I0.length [t] (pre++(t,v)::post) (I0++H)=W (pre.map Prod.snd++bD I0.length R::post.map Prod.snd,I0++ax R):=by
 have l:=K_ (v:=v) (post:=post) λp a=>(g p a).1;have c:∀p∈pre,[t].contains p.1=T/\V.rb I0.length p.2:=λp a=>⟨by simpa using(g p a).1,(g p a).2⟩
 have d:∀p∈post,[t].contains p.1=T/\V.rb I0.length p.2:=λp a=>⟨by simpa using(k p a).1,(k p a).2⟩
 have m:[t].contains t:=u0;unfold VJ;cases R with
 |none=>
  have b:=j;subst b;have f:([t].filterMap λh=>AG I0.length (mV h (pre++(t,V.ad)::post)))=[]:=by simp[l,AG]
  rw[f];have i:yn I0.length (I0++H) []=[]:=rfl;have e:VP [] (I0++H)=I0++H:=rfl;have n:mB I0.length (I0++H) [t] [] ((t,V.ad)::post)=W (.ad::post.map Prod.snd):=by unfold mB;rw[yE d];simp only[m,A9c];rfl
  rw[i,e,VL,yE c,n];have o:xx I0.length (I0++H) []=some I0:=by unfold xx;rw[e];rw[xd u];simp
  rw[o];simp[bD,ax]
 |some q=>
  obtain⟨C,b,e,f⟩:=q;obtain⟨o,h,rfl,r,s⟩:=j;have w:([t].filterMap λx=>AG I0.length (mV x (pre++(t,V.hg o b e f)::post)))=[o]:=by simp[l,AG,h]
  rw[w];have y:yn I0.length (I0++H) [o]=[o]:=by unfold yn;simp[r,R3 s,dI]
  have n:VP [o] (I0++H)=I0++H.set (o-I0.length) .gone:=Nn h _;rw[y,n];have B:OA I0.length [o] (I0++H.set (o-I0.length) .gone) (.hg o b e f)=W (.hg I0.length b e f):=by simp only[OA];have:[o].contains o:=u0;rw[this,C5,A9a rfl];simp[ez,AT.2 h]
  have z:mB I0.length (I0++H.set (o-I0.length) .gone) [t] [o] ((t,V.hg o b e f)::post)=W (.hg I0.length b e f::post.map Prod.snd):=by unfold mB;rw[yE d];simp only[m,A9c,B,va]
  rw[VL,yE c,z];have A:xx I0.length (I0++H) [o]=W (I0++[.cells C]):=by
   unfold xx;rw[n];have D:([o].mapM λi=>((I0++H)[i]?).bind (AO I0.length [o] (I0++H.set (o-I0.length) .gone)))=W [.cells C]:=by rw[xw,yk r,va,ZP s];rfl
   rw[D,xd u];rfl
  rw[A];rfl
theorem Wy7{t2:Nat}{v2:V}{R2:RD}(G:t≠t2)(M:Ot (I0++H) I0.length v R)(g:Ot (I0++H) I0.length v2 R2)(Q:∀o,o∈eT v->o∉eT v2)(B:∀p∈pre,(p.1≠t/\p.1≠t2)/\V.rb I0.length p.2)(N:∀p∈post,(p.1≠t/\p.1≠t2)/\V.rb I0.length p.2):
  VJ I0.length [t,t2] (pre++(t,v)::(t2,v2)::post) (I0++H)=W (pre.map Prod.snd++bD I0.length R::bD (I0.length+(ax R).length) R2::post.map Prod.snd,I0++ax R++ax R2):=by
 have D:=K_ (v:=v) (post:=(t2,v2)::post) λp c=>(B p c).1.1;have i:mV t2 (pre++(t,v)::(t2,v2)::post)=v2:=by
  have:=K_ (v:=v2) (post:=post) (pre:=pre++[(t,v)]) λp c=>by
   rcases xf.1 c with h|h
   ·exact(B p h).1.2
   ·obtain rfl:=vR.1 h;exact G
  simpa using this
 have I:∀p∈pre,[t,t2].contains p.1=T/\V.rb I0.length p.2:=λp c=>⟨by have:=(B p c).1;simp[this.1,this.2],(B p c).2⟩
 have J:∀p∈post,[t,t2].contains p.1=T/\V.rb I0.length p.2:=λp c=>⟨by have:=(N p c).1;simp[this.1,this.2],(N p c).2⟩
 have S:[t,t2].contains t:=u0;have K:[t,t2].contains t2:=u0;have j:∀(k:wi) (a:hN) (w b:V),OA I0.length k a v=W w->OA I0.length k a v2=W b->mB I0.length a [t,t2] k (pre++(t,v)::(t2,v2)::post)=W (pre.map Prod.snd++w::b::post.map Prod.snd):=λk a w b l m=>by
  rw[VL,yE I];have:mB I0.length a [t,t2] k ((t,v)::(t2,v2)::post)=W (w::b::post.map Prod.snd):=by unfold mB;rw[S,A9a rfl,l];unfold mB;rw[K,A9a rfl,m,yE J];rfl
  rw[this];rfl
 unfold VJ;cases R with
 |none=>
  have b:=M;subst b;have e k a:OA I0.length k a .ad=W .ad:=Ha rfl;cases R2 with
  |none=>
   have b:=g;subst b;have l:([t,t2].filterMap λf=>AG I0.length (mV f (pre++(t,V.ad)::(t2,V.ad)::post)))=[]:=by simp[D,i,AG]
   rw[l];have m:yn I0.length (I0++H) []=[]:=rfl;have d:VP [] (I0++H)=I0++H:=rfl;rw[m,d,j [] _ _ _ (e _ _) (e _ _)];have h:xx I0.length (I0++H) []=some I0:=by unfold xx;rw[d];rw[xd u];simp
   rw[h];simp[bD,ax]
  |some q=>
   obtain⟨C,d,f,h⟩:=q;obtain⟨o,n,rfl,w,x⟩:=g;have l:([t,t2].filterMap λy=>AG I0.length (mV y (pre++(t,V.ad)::(t2,V.hg o d f h)::post)))=[o]:=by simp[D,i,AG,n]
   rw[l];have m:yn I0.length (I0++H) [o]=[o]:=by unfold yn;simp[w,R3 x,dI]
   have s:VP [o] (I0++H)=I0++H.set (o-I0.length) .gone:=Nn n _;rw[m,s];have A:OA I0.length [o] (I0++H.set (o-I0.length) .gone) (.hg o d f h)=W (.hg I0.length d f h):=by simp only[OA];have:[o].contains o:=u0;rw[this,C5,A9a rfl];simp[ez,AT.2 n]
   rw[j [o] _ _ _ (e _ _) A];have z:xx I0.length (I0++H) [o]=W (I0++[.cells C]):=by
    unfold xx;rw[s];have E:([o].mapM λr=>((I0++H)[r]?).bind (AO I0.length [o] (I0++H.set (o-I0.length) .gone)))=W [.cells C]:=by rw[xw,yk w,va,ZP x];rfl
    rw[E,xd u];rfl
   rw[z];simp[bD,ax]
 |some q=>
  obtain⟨C,d,s,w⟩:=q;obtain⟨o,x,rfl,E,F⟩:=M;cases R2 with
  |none=>
   have b:=g;subst b;have h k a:OA I0.length k a .ad=W .ad:=Ha rfl;have l:([t,t2].filterMap λn=>AG I0.length (mV n (pre++(t,V.hg o d s w)::(t2,V.ad)::post)))=[o]:=by simp[D,i,AG,x]
   rw[l];have m:yn I0.length (I0++H) [o]=[o]:=by unfold yn;simp[E,R3 F,dI]
   have f:VP [o] (I0++H)=I0++H.set (o-I0.length) .gone:=Nn x _;rw[m,f];have y:OA I0.length [o] (I0++H.set (o-I0.length) .gone) (.hg o d s w)=W (.hg I0.length d s w):=by simp only[OA];have:[o].contains o:=u0;rw[this,C5,A9a rfl];simp[ez,AT.2 x]
   rw[j [o] _ _ _ y (h _ _)];have r:xx I0.length (I0++H) [o]=W (I0++[.cells C]):=by
    unfold xx;rw[f];have z:([o].mapM λe=>((I0++H)[e]?).bind (AO I0.length [o] (I0++H.set (o-I0.length) .gone)))=W [.cells C]:=by rw[xw,yk E,va,ZP F];rfl
    rw[z,xd u];rfl
   rw[r];simp[bD,ax]
  |some c=>
   obtain⟨P,f,h,n⟩:=c;obtain⟨b,r,rfl,y,z⟩:=g;have A:o≠b:=λe=>Q o (vR.2 rfl) (vR.2 e);have l:([t,t2].filterMap λU=>AG I0.length (mV U (pre++(t,V.hg o d s w)::(t2,V.hg b f h n)::post)))=[o,b]:=by simp[D,i,AG,x,r]
   rw[l];have m:yn I0.length (I0++H) [o,b]=[o,b]:=by unfold yn;simp[E,y,R3 F,R3 z,dI,A]
   have O:VP [o,b] (I0++H)=I0++(H.set (o-I0.length) .gone).set (b-I0.length) .gone:=by show((I0++H).set o .gone).set b .gone=_;rw[Nn x,Nn r]
   rw[m,O];have c a:OA I0.length [o,b] a (.hg o d s w)=W (.hg I0.length d s w):=by simp only[OA];have:[o,b].contains o:=u0;rw[this,C5,A9a rfl];simp[ez,AT.2 x]
   have d a:OA I0.length [o,b] a (.hg b f h n)=W (.hg (I0.length+1) f h n):=by
    simp only[OA];have:[o,b].contains b:=u0;rw[this,C5,A9a rfl];have L:[o,b].idxOf b=1:=by
     have a:(o==b)=T:=by simpa using A
     simp[List.idxOf_cons,a]
    simp[ez,AT.2 r,L]
   rw[j [o,b] _ _ _ (c _) (d _)];have X:xx I0.length (I0++H) [o,b]=W (I0++[.cells C,.cells P]):=by
    unfold xx;rw[O];have a:([o,b].mapM λL=>((I0++H)[L]?).bind (AO I0.length [o,b] (I0++(H.set (o-I0.length) .gone).set (b-I0.length) .gone)))=W [.cells C,.cells P]:=by rw[xw,yk E,va,ZP F,xw,yk y,va,ZP z];rfl
    rw[a,xd u];rfl
   rw[X];simp[bD,ax]
end
def Wiq:eU true a d e=(gF a (yn a d (qb a e)) (VP (yn a d (qb a e)) d) e).bind λr=>(xx a d (yn a d (qb a e))).map λs=>(r,s):=rfl
section
variable{I0 H:hN}(u:Wf I0){v v2:V}{R R2:RD}{k:Int}
include u
theorem uc(z:Ot (I0++H) I0.length v R)(f:Ot (I0++H) I0.length v2 R2)(E:∀o,o∈eT v->o∉eT v2):
  eU true I0.length (I0++H) (.aR [v,v2,iI k])=W (.aR [bD I0.length R,bD (I0.length+(ax R).length) R2,iI k],I0++ax R++ax R2):=by
 have r c a:OA I0.length c a .ad=W .ad:=Ha rfl;have F c a:OA I0.length c a (iI k)=W (iI k):=Ha rfl;have g:∀(c:wi) (w b:V) (a s:hN),qb I0.length (.aR [v,v2,iI k])=c->yn I0.length (I0++H) c=c->VP c (I0++H)=a->OA I0.length c a v=W w->OA I0.length c a v2=W b->xx I0.length (I0++H) c=W s->
   eU true I0.length (I0++H) (.aR [v,v2,iI k])=W (.aR [w,b,iI k],s):=λc w b a s e h d i j l=>by
  rw[Wiq,e,h,d,l];unfold gF;simp only[xw,Fe,i,j,F,u7,va,AK];rfl
 cases R with
 |none=>
  have e:=z;subst e;cases R2 with
  |none=>have e:=f;subst e;refine(g [] .ad .ad _ I0 rfl rfl rfl (r _ _) (r _ _) ?_).trans (by simp[bD,ax]);unfold xx;show(W []).bind (λh:List O=>(ve I0.length (I0++H)).bind λb=>W (b++h))=_;rw[xd u];simp
  |some q=>
   obtain⟨C,b,m,n⟩:=q;obtain⟨o,h,rfl,j,l⟩:=f;have d:VP [o] (I0++H)=I0++H.set (o-I0.length) .gone:=Nn h _;refine(g [o] .ad (.hg I0.length b m n) _ (I0++[.cells C]) (by simp[qb,AG,h,KT]) ?_ d (r _ _) ?_ ?_).trans (by simp[bD,ax])
   ·unfold yn;simp[j,R3 l,dI]
   ·simp only[OA];have:[o].contains o:=u0;rw[this,C5,A9a rfl];simp[ez,AT.2 h]
   ·unfold xx;rw[d];have p:([o].mapM λi=>((I0++H)[i]?).bind (AO I0.length [o] (I0++H.set (o-I0.length) .gone)))=W [.cells C]:=by rw[xw,yk j,va,ZP l];rfl
    rw[p,xd u];rfl
 |some q=>
  obtain⟨C,j,A,B⟩:=q;obtain⟨o,i,rfl,s,t⟩:=z;cases R2 with
  |none=>
   have b:=f;subst b;have d:VP [o] (I0++H)=I0++H.set (o-I0.length) .gone:=Nn i _;refine(g [o] (.hg I0.length j A B) .ad _ (I0++[.cells C]) (by simp[qb,AG,i,KT]) ?_ d ?_ (r _ _) ?_).trans (by simp[bD,ax])
   ·unfold yn;simp[s,R3 t,dI]
   ·simp only[OA];have:[o].contains o:=u0;rw[this,C5,A9a rfl];simp[ez,AT.2 i]
   ·unfold xx;rw[d];have h:([o].mapM λe=>((I0++H)[e]?).bind (AO I0.length [o] (I0++H.set (o-I0.length) .gone)))=W [.cells C]:=by rw[xw,yk s,va,ZP t];rfl
    rw[h,xd u];rfl
  |some I=>
   obtain⟨D,l,x,y⟩:=I;obtain⟨b,h,rfl,m,n⟩:=f;have p:o≠b:=λe=>E o (vR.2 rfl) (vR.2 e);have d:VP [o,b] (I0++H)=I0++(H.set (o-I0.length) .gone).set (b-I0.length) .gone:=by show((I0++H).set o .gone).set b .gone=_;rw[Nn i,Nn h]
   refine(g [o,b] (.hg I0.length j A B) (.hg (I0.length+1) l x y) _ (I0++[.cells C,.cells D]) (by simp[qb,AG,i,h,KT]) ?_ d ?_ ?_ ?_).trans (by simp[bD,ax])
   ·unfold yn;simp[s,m,R3 t,R3 n,dI,p]
   ·simp only[OA];have:[o,b].contains o:=u0;rw[this,C5,A9a rfl];simp[ez,AT.2 i]
   ·simp only[OA];have:[o,b].contains b:=u0;rw[this,C5,A9a rfl];have w:[o,b].idxOf b=1:=by
     have G:(o==b)=T:=by simpa using p
     simp[List.idxOf_cons,G]
    simp[ez,AT.2 h,w]
   ·unfold xx;rw[d];have G:([o,b].mapM λw=>((I0++H)[w]?).bind (AO I0.length [o,b] (I0++(H.set (o-I0.length) .gone).set (b-I0.length) .gone)))=W [.cells C,.cells D]:=by rw[xw,yk s,va,ZP t,xw,yk m,va,ZP n];rfl
    rw[G,xd u];rfl
end
def RS:List u2->RD
 |[]=>none
 |x::r=>some ((x::r).map V.str,(x::r).length,1,false)
def VM(l:List u2):V.aL a (l.map V.str):=AM λ_=>rfl
inductive Tv (I:hN):V->List (List UInt8)->Prop where
 |nil:Tv I .ad []
 |cl (l:List (List UInt8)):Tv I (.sl (l.map V.str) .no) l
 |hs (o:Nat) (l:List (List UInt8)) (h:hN.get I o=some (l.map V.str)):Tv I (.hs o 0 l.length 1 false) l
inductive Gv (I:hN):V->List (List UInt8)->Prop where
 |nil:Gv I .ad []
 |hg (o:Nat) (l:List (List UInt8)) (h:hN.get I o=some (l.map V.str)) (hl:l≠[]):Gv I (.hg o l.length 1 false) l
def Gv.tv{I:hN}{l:List u2}(h:Gv I e l):Tv I e.ng l:=by
 cases h with
 |nil=>exact .nil
 |hg o l h _=>exact .hs o l h
def Tv.rd{I:hN}{l:List u2}(h:Tv I e l)(a:Wf I):jO V.str I e l:=by
 cases h with
 |nil=>exact⟨a,rfl,rfl,rfl,λq r x h=>by cases q<;>cases h⟩
 |cl l=>exact Qve (λ_=>rfl) (λ_=>rfl) (λ_ _=>rfl) a
 |hs o l h=>exact KJ (λ_=>rfl) a h
def Gv.at{I:hN}{v:V}{l:List u2}(h:Gv I v l){n:Nat}(a:∀o∈eT v,n<=o):Ot I n v (RS l):=by
 cases h with
 |nil=>rfl
 |hg o l h b=>
  cases l with
  |nil=>exact absurd rfl b
  |cons x r=>exact⟨o,a o (vR.2 rfl),rfl,h,VM _⟩
def Rq{I0 H:hN}(l:List u2):Gv (I0++ax (RS l)++H) (bD I0.length (RS l)) l:=by
 cases l with
 |nil=>exact .nil
 |cons x r=>
  refine .hg I0.length (x::r) ?_ u0;have:I0++ax (RS (x::r))++H=I0 ++ .cells ((x::r).map V.str)::H:=by simp[ax,RS]
  rw[this];simp[hN.get]
def jI{n:Nat}:∀o∈eT (bD n (RS K)),o=n:=by
 cases K with
 |nil=>intro o a;cases a
 |cons x r=>intro o a;exact vR.1 a
def XD{I0:hN}(b:Wf I0)(l:List u2):Wf (I0++ax (RS l)):=by
 refine MS b λx a => ?_;cases l with
 |nil=>cases a
 |cons y r=>obtain rfl:=vR.1 a;exact VM (y::r)
def Qvr{t:u2}:G' T T 1 16 d .ad (.sl [.str t] y)=W (.hg d.length 1 1 T,d++[.cells [.str t]]):=by unfold G';simp only[Nv,vD,A9d,Nq,u7,va];rw[A9a ⟨rfl,by simp[Qaq]⟩];rfl
def Tr{I:hN}{l:List u2}{t:u2}(o:hN.get I a=W (l.map V.str))(b:(l.length+1)*16<=Qaq):
  G' T T 1 16 I (.hg a l.length 1 T) (.sl [.str t] y)=W (.hg I.length (l++[t]).length 1 T,I.set a .gone++[.cells ((l++[t]).map V.str)]):=by
 unfold G';simp only[Nv,vD,A9d,Nq,u7,va,o];rw[A9a ⟨trivial,rfl,by rw[wq];omega,by simpa using b⟩];simp[V.cells,V.ng]
def Nz(h:hN.get d G=W g)(b:G≠a):hN.get (d.set a .gone) G=some g:=by unfold hN.get at h ⊢;rw[CQ (λe=>b e.symm)];exact h
section
variable{I:hN}{v:V}{l:List u2}
theorem Qvs(b:jO V.str I v l)(t:u2)(o:l.length<=1000000000):∀(r q:List u2),l=q++r->
  ∃k:Int,decide (0<=k)=bu r t/\A7 QaT I.length I.length [v,.str t,iI l.length,iI q.length] I=W (iI k,I)
 |[],q,c=>by
  have d:¬(q.length:Int)<l.length:=by rw[c];simp
  have e:=b.wf;have a:=Kk e;refine⟨-1,rfl,?_⟩;rw[FN];simp -implicitDefEqProofs(disch:=try exact wK)only[go_sem,A6,d,a]
 |x::r,q,e=>by
  have g:l.length=q.length+r.length+1:=by rw[e];simp;omega
  have f:(q.length:Int)<l.length:=by omega
  have p:=b.wf;have a:=Kk p;have⟨w,h,i,c⟩:=b.rd q r x e;have c:=c [];rw[wt]at c;have j:=b.no;have s u:fz I.length u fzD v=some v:=vC b.rb;by_cases d:t=x
  ·refine⟨q.length,?_,?_⟩
   ·unfold bu;rw[Ng,xG d,CR];exact xG Y
   ·rw[FN];simp -implicitDefEqProofs(disch:=try exact wK)only[go_sem,A6,f,h,i,c,j,d,a]
  ·have⟨k,m,n⟩:=Qvs b t o r (q++[x]) (by rw[e];simp);rw[show((q++[x]).length:Int)=q.length+1 by simp]at n;refine⟨k,?_,?_⟩
   ·unfold bu at m ⊢;rw[Ng,A9i d,C3];exact m
   ·rw[FN];simp -implicitDefEqProofs(disch:=try exact wK)only[go_sem,A6,f,h,i,c,j,s,d,a,n]
def Gp(h:Tv I v l)(g:Wf I)(t:u2)(hs:l.length<=1000000000):E cx 44 [v,.str t] I=W (.bool (bu l t),I):=by
 cases h with
 |nil=>exact Lb .nil t (by show(0:Nat)<=_;omega) I
 |cl l=>exact Lb (.row l) t hs I
 |hs o l c=>
  have e:=KJ (λ_=>rfl) g c;have⟨k,i,d⟩:=Qvs e t hs l [] rfl;have a:A7 QaT I.length I.length [.hs o 0 l.length 1 T,.str t,iI l.length,iI 0] I=W (iI k,I):=d;have j m:fz I.length m fzD (.hs o 0 l.length 1 T)=W (.hs o 0 l.length 1 T):=vC e.rb;have f:(V.hs o 0 l.length 1 T).ng=.hs o 0 l.length 1 T:=rfl;have n:Qai (.hs o 0 l.length 1 T)=W (iI l.length):=rfl;have b:V.aL 0 [.hs o 0 l.length 1 T,.str t]=T:=by simp[V.aL,V.rb]
  have p:E cx 71 [.hs o 0 l.length 1 T,.str t] I=W (iI k,I):=by refine((cQ X0K X0K b (JA c)).trans (Gj ..)).trans ?_;simp only[go_sem,LA,j,f,n,a]
  refine((cQ X0K X0K b (JA c)).trans (F9 ..)).trans ?_;rw[<-i];simp -implicitDefEqProofs(disch:=try exact wK)only[go_sem,L5,f,p]
def kF(l:List u2):Nat->u2->u2
 |0,s=>s
 |f+1,s=>if bu l s then kF l f (s++[111])else s
def PQ(l:List u2):u2:=kF l (l.length+1) [111]
def VY:∃j:Nat,j<K.length+1/\bu K ([111]++List.replicate j 111)=T:=by
 refine Dx λd => ?_;have c:∀j:Nat,j<K.length+1->([111]++List.replicate j (111:UInt8))∈K:=λj e=>by
  refine Dx λa=>d ⟨j,e,?_⟩;cases b:bu K ([111]++List.replicate j 111)with
  |false=>rfl
  |true=>exact absurd (SE.1 b) a
 have f:((List.range (K.length+1)).map λj:Nat=>([111]++List.replicate j (111:UInt8))).Nodup:=by refine List.Pairwise.map _ (λa b (g:a≠b) => ?_) List.nodup_range;intro h;have:=A9e List.length h;simp at this;exact g this
 have:=EN _ K f (λx a=>by obtain⟨j,e,rfl⟩:=wa.1 a;exact c j (KX.1 e))
 simp at this;omega
theorem Wbi(h:Tv I v l)(c:Wf I)(m:l.length<=100000):∀(f:Nat) (s:u2),(∃j:Nat,j<f/\bu l (s++List.replicate j 111)=T)->s.length+f<=1000000->
  zT QaT I.length I.length [v,.str s] I=W (.str (kF l f s),I)
 |0,s,⟨j,a,_⟩,_=>by omega
 |f+1,s,⟨j,q,a⟩,r=>by
  have g:=h.rd c;have i:=g.no;have k n:fz I.length n fzD v=some v:=vC g.rb;have b:=Kk c;have d:=Gp h c s Y;rw[Gc];unfold kF;cases e:bu l s with
  |true=>
   rw[e]at d;have o:=Wbi h c m f (s++[111]) (by
    cases j with
    |zero=>rw[JJ,wt]at a;rw[e]at a;cases a
    |succ j=>exact⟨j,by omega,by rw[wL];exact a⟩) yZ
   have p:eB .add .no (.str s) (.str [111])=W (.str (s++[111])):=Pn (by simp[EY];omega);simp only[A9c];simp only[go_sem,vd,i,k,b,d,p,o]
  |false=>rw[e]at d;simp only[vD,A9d];simp -implicitDefEqProofs(disch:=try exact wK)only[go_sem,vd,i,k,b,d]
def Qya(h:Tv I v l)(b:Wf I)(c:l.length<=100000):Mk QaT v I=W (.str (PQ l),I):=by have d:=h.rd b;have e f:fz I.length f fzD v=some v:=vC d.rb;have a:=Wbi h b c (l.length+1) [111] (VY l) yZ;unfold PQ;simp only[go_sem,Mk,e,a]
def Qyb(h:Tv I v l)(b:Wf I)(hs:l.length<=100000):E cx 58 [v] I=W (.str (PQ l),I):=by
 cases h with
 |nil=>refine v_ X0K X0K ?_ rfl I;rw[SZ];exact(A9e (Option.bind · (u1 [])) (Qya .nil zM u0)).trans yB
 |cl l=>refine v_ X0K X0K ?_ (by rw[Qae,Dg,VM];rfl) I;rw[SZ];exact(A9e (Option.bind · (u1 [])) (Qya (.cl l) zM hs)).trans yB
 |hs o l a=>exact((cQ X0K X0K Wh2 (JA a)).trans (Gh ..)).trans (Qya (.hs o l a) b hs)
end
def bN(l:List u2)(t:u2):List u2:=if bu l t then l else l++[t]
def SS(t:u2):(bN K t).length<=K.length+1:=by unfold bN;split<;>simp
def Wy8{I0 H:hN}(f:Wf (I0++H)){v:V}(h:Gv (I0++H) v r)(s:∀o∈eT v,I0.length<=o)(t:u2)(A:r.length<=100000):
  ∃k a,E cx 82 [v,.str t] (I0++H)=W (k,I0++a)/\Wf (I0++a)/\Gv (I0++a) k (bN r t)/\(∀o∈eT k,o∈eT v\/(I0++H).length<=o)/\
   (∀o cs,o∉eT v->hN.get (I0++H) o=W cs->hN.get (I0++a) o=W cs):=by
 have g:=Gp h.tv f t Y;have u:v.ng.ng=v.ng:=by cases v<;>rfl
 have i:oK true v=some v:=by cases h<;>rfl
 rw[S3];unfold bN;cases q:bu r t with
 |true=>
  rw[q]at g;simp only[A9c];have d:eU true (I0++H).length (I0++H) v=W (v,I0++H):=by
   have e:qb (I0++H).length v=[]:=by
    cases h with
    |nil=>rfl
    |hg o r hg j=>have:=Ct hg;simp[qb,AG];simp at this;omega
   have m:gF (I0++H).length [] (I0++H) v=some v:=by
    cases h with
    |nil=>rfl
    |hg o r hg j=>
     have:=Ct hg;simp only[gF,OA];rw[A9a (by simp;simp at this;omega)];have:ez (I0++H).length [] o=o:=by simp only[ez];rw[A9a this]
     rw[this]
   rw[Wiq,e];have n:yn (I0++H).length (I0++H) []=[]:=rfl;rw[n];have c:VP [] (I0++H)=I0++H:=rfl;rw[c,m];unfold xx;rw[c];have:(([]:wi).mapM λo=>((I0++H)[o]?).bind (AO (I0++H).length [] (I0++H)))=W []:=rfl;rw[this,Kk f];simp
  refine⟨v,H,?_,f,h,λo p=>.inl p,λo cs _ hg=>hg⟩;generalize b:v.ng=k,I0++H=a at*;simp only[go_sem,Mq,b,u,g,i,d]
 |false=>
  rw[q]at g;simp only[vD,A9d];have j:∀(b:hN) (L:List u2),L≠[]->Wf b->b.length=(I0++H).length->eU true (I0++H).length (b++[.cells (L.map V.str)]) (.hg (I0++H).length L.length 1 T)=W (.hg (I0++H).length L.length 1 T,b++[.cells (L.map V.str)]):=λb L C p a=>by
   have hg:hN.get (b++[O.cells (L.map V.str)]) b.length=W (L.map V.str):=wJ;rw[<-a,Wiq];have e:qb b.length (.hg b.length L.length 1 T)=[b.length]:=by simp[qb,AG]
   rw[e];have n:yn b.length (b++[O.cells (L.map V.str)]) [b.length]=[b.length]:=by unfold yn;simp[hg,R3 (VM L),dI]
   rw[n];have d:VP [b.length] (b++[O.cells (L.map V.str)])=b++[.gone]:=by show(b++[O.cells (L.map V.str)]).set b.length .gone=_;simp
   rw[d];have m:gF b.length [b.length] (b++[O.gone]) (.hg b.length L.length 1 T)=W (.hg b.length L.length 1 T):=by simp only[gF,OA];rw[A9a u0];simp[ez]
   rw[m];have l:xx b.length (b++[O.cells (L.map V.str)]) [b.length]=W (b++[.cells (L.map V.str)]):=by
    unfold xx;rw[d];have w:([b.length].mapM λc=>((b++[O.cells (L.map V.str)])[c]?).bind (AO b.length [b.length] (b++[O.gone])))=W [.cells (L.map V.str)]:=by rw[xw,yk hg,va,ZP (VM L)];rfl
    rw[w,xd p];rfl
   rw[l];rfl
  cases h with
  |nil=>
   have l c:G' T T 1 16 (I0++H) .ad (.sl [.str t] c)=W (.hg (I0++H).length 1 1 T,(I0++H)++[.cells [.str t]]):=Qvr;have n:=j (I0++H) [t] u0 f rfl;have e:eU true (I0++H).length ((I0++H)++[.cells [.str t]]) (.hg (I0++H).length 1 1 T)=W (.hg (I0++H).length 1 1 T,(I0++H)++[.cells [.str t]]):=n;have m:E cx 44 [.ad,.str t] (I0++H)=W (.bool T,I0++H):=g;refine⟨.hg (I0++H).length 1 1 T,H++[.cells [.str t]],?_,?_,?_,λo p=>.inr (by rw[vR.1 p];exact vE _),λo cs _ hg => ?_⟩
   ·rw[<-wL];have d:oK true (.hg (I0++H).length 1 1 T)=W (.hg (I0++H).length 1 1 T):=rfl;generalize I0++H=a at*;simp only[go_sem,Mq,m,l,d,e]
   ·rw[<-wL];exact VS f rfl
   ·rw[<-wL];exact .hg _ [t] wJ u0
   ·rw[<-wL];exact hN.cd hg
  |hg o r hg B=>
   have m:=s o (vR.2 rfl);have x c:G' T T 1 16 (I0++H) (.hg o r.length 1 T) (.sl [.str t] c)=W (.hg (I0++H).length (r++[t]).length 1 T,(I0++H).set o .gone++[.cells ((r++[t]).map V.str)]):=Tr hg (by unfold Qaq;omega);have w:=j ((I0++H).set o .gone) (r++[t]) u0 (Tf f) u0;have d:(I0++H).set o .gone=I0++H.set (o-I0.length) .gone:=Nn m _;refine⟨.hg (I0++H).length (r++[t]).length 1 T,H.set (o-I0.length) .gone++[.cells ((r++[t]).map V.str)],?_,?_,?_,λo m=>.inr (by rw[vR.1 m];exact vE _),λD cs y n => ?_⟩
   ·rw[<-wL,<-d];have e:oK true (.hg (I0++H).length (r++[t]).length 1 T)=W (.hg (I0++H).length (r++[t]).length 1 T):=rfl;have l:(V.hg o r.length 1 T).ng=.hs o 0 r.length 1 T:=rfl;have p:(V.hs o 0 r.length 1 T).ng=.hs o 0 r.length 1 T:=rfl;rw[l]at g;generalize I0++H=a,V.hs o 0 r.length 1 T=z,V.hg o r.length 1 T=G,V.hg (I0++H).length (r++[t]).length 1 T=F,(I0++H).set o .gone++[O.cells ((r++[t]).map V.str)]=b at*;simp only[go_sem,Mq,l,p,g,x,e,w]
   ·rw[<-wL,<-d];exact VS (Tf f) (VM _)
   ·rw[<-wL,<-d];have:(I0++H).length=((I0++H).set o .gone).length:=u0;rw[this];exact .hg _ (r++[t]) wJ u0
   ·rw[<-wL,<-d];exact hN.cd (Nz n λe=>y (vR.2 e))
end Go.Ev
