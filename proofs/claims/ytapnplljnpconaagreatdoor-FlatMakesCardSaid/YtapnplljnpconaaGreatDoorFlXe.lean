/- Part of a proof: the small language, and functions of the program on it. -/
import Derived.Test.YtapnplljnpconaaGreatDoorFlXd
set_option linter.unusedSimpArgs false
set_option linter.unusedVariables false
set_option linter.unusedSectionVars false
set_option maxHeartbeats 4000000
set_option maxRecDepth 100000
namespace Go.Ev
section
variable {O1:O} {cs:List V} {H:Objs} {off:Nat}
theorem Wlu {k:IntKind} {x:Int} (h2:off+1≤cs.length):stV (O1 :: .cells cs::H) 1 (.ptr 1 off) (.int k x) (.int k x)=some (.undef,O1 :: .cells (cs.set off (.int k x))::H):=by
 show (if (V.int k x).cells.length=1∧off+1≤cs.length∧Qan (V.int k x).cells=true then _ else _)=_
 rw [if_pos ⟨rfl,h2,rfl⟩];rfl
theorem Wlv {x:List UInt8} (h2:off+1≤cs.length):stV (O1 :: .cells cs::H) 1 (.ptr 1 off) (.str x) (.str x)=some (.undef,O1 :: .cells (cs.set off (.str x))::H):=by
 show (if (V.str x).cells.length=1∧off+1≤cs.length∧Qan (V.str x).cells=true then _ else _)=_
 rw [if_pos ⟨rfl,h2,rfl⟩];rfl
theorem Wlw {x:Bool} (h2:off+1≤cs.length):stV (O1 :: .cells cs::H) 1 (.ptr 1 off) (.bool x) (.bool x)=some (.undef,O1 :: .cells (cs.set off (.bool x))::H):=by
 show (if (V.bool x).cells.length=1∧off+1≤cs.length∧Qan (V.bool x).cells=true then _ else _)=_
 rw [if_pos ⟨rfl,h2,rfl⟩];rfl
theorem Wh4 {ag:Bool} {sz:Nat} {H':Objs} : Qei [Qcn ag sz (.ptr 0 off)] (.cells cs::H) (.cells cs::H')=some (.cells cs::H'):=by
 have e:stable (.cells cs::H) (.cells cs::H') (.same false 0 off (if ag then sz else 1))=true:=by
  simp only [stable,Objs.get,Xb9,decide_true,Xa0]
  rw [if_neg (by decide)]
  exact V.beqs_refl _
 show (if (stable (.cells cs::H) (.cells cs::H') (.same false 0 off (if ag then sz else 1))&&true)=true then some (O.cells cs::H') else none)=_
 rw [e];rfl
end
attribute [go_sem] Wlu Wlv Wlw Wh4
end Go.Ev
namespace Go.Proofs.YtapnplljnpconaaGreatDoor
open Go.Ev
def spT (n:Nms) (pre:List UInt8):List UInt8:=if 0≤idxS n.pres.l pre then n.spaces.l.getD (idxS n.pres.l pre).toNat [] else []
section
variable {n:Nms} (hn:NmB n)
include hn
theorem Wh5 (pre:List UInt8) (U:Objs) (hσ:Wf U):∃b,E cx 146 [.agg (Qaa n),.str pre] U=some (.tup [.str (spT n pre),.bool b],U):=by
 have key:∃b,E cx 146 [.agg (Qaa n),.str pre] []=some (.tup [.str (spT n pre),.bool b],[]):=by
  have h1:boxV [] (.agg (Qaa n))=some (.ptr 0 0,[.cells (Qaa n)]):=Qau ok_n no_n
  have hw:Wf [.cells (Qaa n)]:=by rw [Qeo];exact Qak
  have h2:eL [.cells (Qaa n)] false 1 (.ptr 0 2)=some (Qbx n.pres):=by
   show Option.map V.ng (some (Qbx n.pres))=_
   rw [Qal,Qaf]
  have h3:eL [.cells (Qaa n)] false 1 (.ptr 0 3)=some (Qbx n.spaces):=by
   show Option.map V.ng (some (Qbx n.spaces))=_
   rw [Qal,Qaf]
  have k1:=Qzu n.pres pre (by have:=hn.2.1;omega) _ hw
  unfold spT
  rw [e_Z1l]
  generalize hi:idxS n.pres.l pre=i at *
  by_cases c1:i<0
  ·refine ⟨false,?_⟩
   have c1':¬ 0≤i:=by omega
   rw [if_neg c1']
   generalize Qaa n=N at *
   simp +contextual -implicitDefEqProofs (disch:=try exact X0d) only [↓reduceIte,go_sem,s_Z1l,h1,h2,k1,c1]
  ·have c1':0≤i:=by omega
   rw [if_pos c1']
   refine ⟨true,?_⟩
   by_cases c2:(n.spaces.l.length:Int)≤i
   ·have e1:n.spaces.l.getD i.toNat []=[]:=by rw [Xav,Xa3 X0o];rfl
    rw [e1]
    generalize Qaa n=N at *
    simp +contextual -implicitDefEqProofs (disch:=try exact X0d) only [↓reduceIte,go_sem,s_Z1l,h1,h2,h3,k1,c1,c2,Qaf]
   ·have hx:=Qcv (f:=V.str) (s:=n.spaces) (k:=.i64) (i:=i) (Qex X0o []) X0o (sz:=1) rfl
    generalize Qaa n=N at *
    simp +contextual -implicitDefEqProofs (disch:=try exact X0d) only [↓reduceIte,go_sem,s_Z1l,h1,h2,h3,k1,c1,c2,Qaf,hx]
 obtain ⟨b,h⟩:=key
 exact ⟨b,Qbe Qbb h (by simp only [Qag,Qa0,Qak];rfl) rfl U hσ⟩
end
section
variable {α:Type} {v:α→V} (hv:∀n x,V.rb n (v x)=true) {n:Nms} (hn:NmB n) {p:Pln} {X:V} (hX:V.rb 0 X=true)
include hX
theorem Wlx (a:Atm) (hp:p.atoms.length≤1000000) (H:Objs) (hτ:Cl0 H):E cx 101 [.ptr 0 0,.agg (atC a)] (.cells (mkC n p X)::H)=some (vT (Qa1 p a).1,.cells (mkC n (Qa1 p a).2 X)::H):=
 E_on (Wh3 hX a hp) (by simp only [Qag,Qa0,Qdo];rfl) (Qay hX) (Qay hX) (Qhz _) H hτ
include hv hn
theorem Waa (a:Atm) (s:Sm α):E cx 102 [.ptr 0 0,.agg (atC a),.agg (smC v s)] [.cells (mkC n p X)]=some (.agg (atC (Qj1 n a s.ns s.pre)),[.cells (mkC n p X)]):=by
 have h1:boxV [.cells (mkC n p X)] (.agg (atC a))=some (.ptr 1 0,[.cells (mkC n p X),.cells (atC a)]):=Qau Qv8 Qjg
 have h2:boxV [.cells (mkC n p X),.cells (atC a)] (.agg (smC v s))=some (.ptr 2 0,[.cells (mkC n p X),.cells (atC a),.cells (smC v s)]):=Qau Qf2 Qc6
 have l1:∀H:Objs,eL (.cells (mkC n p X)::H) false 1 (.ptr 0 0)=some (.bool n.has):=fun H=>rfl
 have l2:∀H:Objs,eL (.cells (mkC n p X)::H) false 1 (.ptr 0 1)=some (.str n.dflt):=fun H=>rfl
 have l3:∀H:Objs,eL (.cells (mkC n p X)::H) true 4 (.ptr 0 0)=some (.agg (Qaa n)):=fun H=>by
  show Ev.part true 4 (Qaa n++_) 0=_
  unfold Ev.part
  rw [if_pos rfl,if_pos (by simp [Qaa]),Xb0]
  show some (V.agg ((Qaa n).map V.ng))=_
  rw [no_n]
 have l4:∀(O1:O) (H:Objs),eL (.cells (mkC n p X)::O1 :: .cells (smC v s)::H) false 1 (.ptr 2 1)=some (.int .i64 s.ns):=fun O1 H=>rfl
 have l5:∀(O1:O) (H:Objs),eL (.cells (mkC n p X)::O1 :: .cells (smC v s)::H) false 1 (.ptr 2 2)=some (.str s.pre):=fun O1 H=>rfl
 have hM:V.rbs 1 (mkC n p X)=true:=rbs0 (Qay hX)
 have hw:∀cs,V.rbs 0 cs=true→Wf [.cells (mkC n p X),.cells cs,.cells (smC v s),.cells [.int .i64 0,.bool false,.str [],.str [],.int .i64 0,.str [],.bool false]]:=fun cs hc=>
  Qa9 (Qab (Qay hX) (Qab hc (Qab (Qbd hv) (Qab rfl Qaq))))
 obtain ⟨b,k1⟩:=Wh5 hn s.pre _ (hw (atC { a with has:=true }) Qdo)
 rw [e_Z8]
 unfold Qj1
 have hsp:(if 0≤idxS n.pres.l s.pre then n.spaces.l.getD (idxS n.pres.l s.pre).toNat [] else [])=spT n s.pre:=rfl
 rw [hsp]
 generalize mkC n p X=M at *
 generalize hS:smC v s=S at *
 generalize Qaa n=N at *
 clear hS
 obtain ⟨a1,a2,a3,a4,a5,a6,a7⟩:=a
 unfold atC at *
 simp only at *
 by_cases c1:s.ns=0
 ·rw [c1] at l4
  rw [if_pos c1]
  cases c4:n.has <;> rw [c4] at l1 <;> simp +contextual -implicitDefEqProofs (disch:=try exact X0d) only [↓reduceIte,go_sem,s_Z8,j_Z8_0,j_Z8_1,h1,h2,l1,l2,l4]
 rw [if_neg c1]
 by_cases c2:s.ns=2
 ·rw [c2] at l4
  rw [if_pos c2]
  simp +contextual -implicitDefEqProofs (disch:=try exact X0d) only [↓reduceIte,go_sem,s_Z8,j_Z8_0,j_Z8_1,h1,h2,l4]
 rw [if_neg c2]
 by_cases c3:s.ns=3
 ·rw [c3] at l4
  rw [if_pos c3]
  simp +contextual -implicitDefEqProofs (disch:=try exact X0d) only [↓reduceIte,go_sem,s_Z8,j_Z8_0,j_Z8_1,h1,h2,l3,l4,l5,k1]
 rw [if_neg c3]
 generalize s.ns=ns at *
 cases a2 <;> simp +contextual -implicitDefEqProofs (disch:=try exact X0d) only [↓reduceIte,go_sem,s_Z8,j_Z8_0,j_Z8_1,h1,h2,l4,c1,c2,c3]
end
theorem Qhi {cs:List V} {z:V} {sz:Nat} (h:cs.length=sz) (ok:Qan cs=true):Qam true sz 1 z [(0,.agg cs)]=some (.sl [.agg cs] .fx):=by
 have e:Qdj true sz [.agg cs]=true:=by
  unfold Qdj
  simp [Qbv,h,ok,agOk]
 unfold Qam Qdr
 rw [if_pos ⟨h,by simp,ok⟩]
 show (if Qdj true sz [.agg cs]=true then some (V.sl [.agg cs] .fx) else none)=_
 rw [e,if_pos rfl]
theorem We9 {cs ds:List V} {z:V} {sz:Nat} (h:cs.length=sz) (ok:Qan cs=true) (h':ds.length=sz) (ok':Qan ds=true):Qam true sz 2 z [(0,.agg cs),(1,.agg ds)]=some (.sl [.agg cs,.agg ds] .fx):=by
 have e:Qdj true sz [.agg cs,.agg ds]=true:=by
  unfold Qdj
  simp [Qbv,h,ok,h',ok',agOk]
 unfold Qam Qdr
 rw [if_pos ⟨h,by simp,ok⟩]
 unfold Qdr
 rw [if_pos ⟨h',by simp,ok'⟩]
 show (if Qdj true sz [.agg cs,.agg ds]=true then some (V.sl [.agg cs,.agg ds] .fx) else none)=_
 rw [e,if_pos rfl]
theorem Qoe {t:Trm} : List.map V.ng (List.take 3 (tmC t))=tmC t:=by rw [Xbl (by rw [Qbz];decide),Qd4]
theorem Qfp {n:Nat} {t:Trm} : V.rb n (.agg (tmC t))=true:=by rw [Qa0];exact Qeg
def notT (t:Trm):Trm:=.mk 3 0 [t]
def anyT (l:List Trm):Trm:=.mk 4 0 l
theorem Wds (t:Trm) (U:Objs) (hσ:Wf U):E cx 104 [.agg (tmC t)] U=some (.agg (tmC (notT t)),U):=by
 refine Qbe Qbb ?_ (by simp only [Qag,Qa0,Qeg];rfl) (by rw [Qa0];exact Qeg) U hσ
 have h1:boxV [] (.agg (tmC t))=some (.ptr 0 0,[.cells (tmC t)]):=Qau Qd3 Qd4
 have h2:∀H:Objs,eL (.cells (tmC t)::H) true 3 (.ptr 0 0)=some (.agg (tmC t)):=fun H=>Qbf rfl Qbz Qd4
 have h3:Qam true 3 1 (.agg [.int .i64 0,.int .i64 0,.nils]) [(0,.agg (tmC t))]=some (.sl [.agg (tmC t)] .fx):=Qhi Qbz Qd3
 have h4:tmC (notT t)=[.int .i64 3,.int .i64 0,.sl [.agg (tmC t)] .no]:=by
  show [V.int .i64 3,.int .i64 0,V.sl [vT t] .no]=_
  rw [Qhy]
 have h5:=Qfp (n:=0) (t:=notT t)
 rw [h4] at h5
 rw [e_Z1c,h4]
 generalize tmC t=T at *
 simp +contextual -implicitDefEqProofs (disch:=try exact X0d) only [↓reduceIte,go_sem,s_Z1c,h1,h2,h3]
theorem Qry (l:List Trm) (U:Objs) (hσ:Wf U):E cx 147 [vSl vT (slo l)] U=some (.agg (tmC (anyT l)),U):=by
 have hr:∀n,V.rb n (vSl vT (slo l))=true:=fun n=>Qaj fun n x=>Qhz x
 refine Qbe Qbb ?_ (by simp only [Qag,hr];rfl) (by rw [Qa0];exact Qeg) U hσ
 have h4:tmC (anyT l)=[.int .i64 4,.int .i64 0,vSl vT (slo l)]:=rfl
 have h5:=Qfp (n:=0) (t:=anyT l)
 rw [h4] at h5
 rw [e_Z1b,h4]
 simp +contextual -implicitDefEqProofs (disch:=try exact X0d) only [↓reduceIte,go_sem,s_Z1b,Qaf]
def elA (n:Nms) (ns:Int) (pre name:List UInt8):Atm:=Qj1 n ⟨1,false,[],name,0,[],false⟩ ns pre
def Qa7 (n:Nms) (p:Pln) (ns:Int) (pre name:List UInt8):Trm×Pln:=
 if (elA n ns pre name).name=[]∧(elA n ns pre name).has=false then (.mk 7 0 [],p) else Qa1 p (elA n ns pre name)
def atA (name:List UInt8) (op:Int) (text:List UInt8):Atm:=⟨2,true,[],name,op,text,false⟩
def Qh0 (p:Pln) (name:List UInt8) (op:Int) (text:List UInt8):Trm×Pln:=Qa1 p (atA name op text)
def Ql7 (n:Nms) (p:Pln):Trm×Pln:=
 let a:=Qa7 n p 0 [] [97]
 let b:=Qa7 n a.2 0 [] [97,114,101,97]
 let c:=Qh0 b.2 [104,114,101,102] 1 []
 (notT (anyT [notT (anyT [a.1,b.1]),notT c.1]),c.2)
theorem Qt0 {p:Pln} {a:Atm} : (Qa1 p a).2.atoms.length≤p.atoms.length+1:=by
 unfold Qa1
 split
 ·show p.atoms.length≤_;omega
 ·show (p.atoms++[a]).length≤_;simp
theorem Qfq {n:Nms} {p:Pln} {ns:Int} {pre name:List UInt8} : (Qa7 n p ns pre name).2.atoms.length≤p.atoms.length+1:=by
 unfold Qa7
 split
 ·show p.atoms.length≤_;omega
 ·exact Qt0
section
variable {α:Type} {v:α→V} (hv:∀n x,V.rb n (v x)=true) {n:Nms} (hn:NmB n) {p:Pln} {X:V} (hX:V.rb 0 X=true)
include hX
theorem Qof (a:Atm) (hp:p.atoms.length≤1000000) (H:Objs) (hτ:Cl0 H):E cx 101 [.ptr 0 0,.agg (atC a)] (.cells (mkC n p X)::H)=some (.agg (tmC (Qa1 p a).1),.cells (mkC n (Qa1 p a).2 X)::H):=by
 rw [←Qhy]
 exact Wlx hX a hp H hτ
theorem Qh1 (name:List UInt8) (op:Int) (text:List UInt8) (hp:p.atoms.length≤1000000) (H:Objs) (hτ:Cl0 H):
  E cx 100 [.ptr 0 0,.str name,.int .i64 op,.str text] (.cells (mkC n p X)::H)=some (.agg (tmC (Qh0 p name op text).1),.cells (mkC n (Qh0 p name op text).2 X)::H):=by
 refine E_on ?_ rfl (Qay hX) (Qay hX) (by rw [Qa0];exact Qeg) H hτ
 unfold Qh0
 have k1:=Qof (n:=n) hX (atA name op text) hp [.cells [.int .i64 0,.int .i64 0,.nils]] (Qab rfl Qaq)
 have k1':E cx 101 [.ptr 0 0,.agg [.int .i64 2,.bool true,.str [],.str name,.int .i64 op,.str text,.bool false]] [.cells (mkC n p X),.cells [.int .i64 0,.int .i64 0,.nils]]=_:=k1
 clear k1
 have hM':V.rbs 1 (mkC n (Qa1 p (atA name op text)).2 X)=true:=rbs0 (Qay hX)
 have t1:(tmC (Qa1 p (atA name op text)).1).length=3:=Qbz
 have t2:Qan (tmC (Qa1 p (atA name op text)).1)=true:=Qd3
 have t3:(tmC (Qa1 p (atA name op text)).1).map V.ng=tmC (Qa1 p (atA name op text)).1:=Qd4
 have t4:V.rb 1 (.agg (tmC (Qa1 p (atA name op text)).1))=true:=Qfp
 have t5:=Qoe (t:=(Qa1 p (atA name op text)).1)
 rw [e_Z1]
 generalize tmC (Qa1 p (atA name op text)).1=T at *
 generalize mkC n p X=M at *
 generalize mkC n (Qa1 p (atA name op text)).2 X=M' at *
 simp +contextual -implicitDefEqProofs (disch:=try exact X0d) only [↓reduceIte,go_sem,s_Z1,k1',t5]
include hv hn
theorem Qt1 (a:Atm) (s:Sm α) (H:Objs) (hτ:Cl0 H):E cx 102 [.ptr 0 0,.agg (atC a),.agg (smC v s)] (.cells (mkC n p X)::H)=some (.agg (atC (Qj1 n a s.ns s.pre)),.cells (mkC n p X)::H):=
 E_on (Waa hv hn hX a s) (by simp only [Qag,Qa0,Qdo,Qbd hv];rfl) (Qay hX) (Qay hX) (by rw [Qa0];exact Qdo) H hτ
theorem Qln (s:Sm α) (hp:p.atoms.length≤1000000) (H:Objs) (hτ:Cl0 H):
  E cx 99 [.ptr 0 0,.agg (smC v s)] (.cells (mkC n p X)::H)=some (.agg (tmC (Qa7 n p s.ns s.pre s.name).1),.cells (mkC n (Qa7 n p s.ns s.pre s.name).2 X)::H):=by
 refine E_on ?_ (by simp only [Qag,Qa0,Qbd hv];rfl) (Qay hX) (Qay hX) (by rw [Qa0];exact Qeg) H hτ
 have h1:boxV [.cells (mkC n p X)] (.agg (smC v s))=some (.ptr 1 0,[.cells (mkC n p X),.cells (smC v s)]):=Qau Qf2 Qc6
 have l1:∀(O1:O) (H:Objs),eL (O1 :: .cells (smC v s)::H) false 1 (.ptr 1 3)=some (.str s.name):=fun O1 H=>rfl
 have l2:∀(O1:O) (H:Objs),eL (O1 :: .cells (smC v s)::H) true 11 (.ptr 1 0)=some (.agg (smC v s)):=fun O1 H=>Qbf rfl rfl Qc6
 have k1:=Qt1 hv hn (p:=p) hX ⟨1,false,[],s.name,0,[],false⟩ s [.cells (smC v s),.cells [.int .i64 0,.int .i64 0,.nils]] (Qab (Qbd hv) (Qab rfl Qaq))
 have k1':E cx 102 [.ptr 0 0,.agg [.int .i64 1,.bool false,.str [],.str s.name,.int .i64 0,.str [],.bool false],.agg (smC v s)] [.cells (mkC n p X),.cells (smC v s),.cells [.int .i64 0,.int .i64 0,.nils]]=some (.agg (atC (elA n s.ns s.pre s.name)),[.cells (mkC n p X),.cells (smC v s),.cells [.int .i64 0,.int .i64 0,.nils]]):=k1
 clear k1
 have hM:V.rbs 1 (mkC n p X)=true:=rbs0 (Qay hX)
 rw [e_Z3]
 unfold Qa7
 generalize hA:elA n s.ns s.pre s.name=A at *
 have a1:(atC A).length=7:=rfl
 have a2:Qan (atC A)=true:=Qv8
 have a3:(atC A).map V.ng=atC A:=Qjg
 have a4:∀n,V.rbs n (atC A)=true:=fun n=>Qdo
 have l3:∀(O1 O2 O3:O) (H:Objs),eL (O1::O2::O3 :: .cells (atC A)::H) false 1 (.ptr 3 3)=some (.str A.name):=fun O1 O2 O3 H=>rfl
 have l4:∀(O1 O2 O3:O) (H:Objs),eL (O1::O2::O3 :: .cells (atC A)::H) false 1 (.ptr 3 1)=some (.bool A.has):=fun O1 O2 O3 H=>rfl
 have l5:∀(O1 O2 O3:O) (H:Objs),eL (O1::O2::O3 :: .cells (atC A)::H) true 7 (.ptr 3 0)=some (.agg (atC A)):=fun O1 O2 O3 H=>Qbf rfl rfl Qjg
 have k2:=Qof (n:=n) hX A hp [.cells (smC v s),.cells [.int .i64 0,.int .i64 0,.nils],.cells (atC A)] (Qab (Qbd hv) (Qab rfl (Qab Qdo Qaq)))
 have hM':V.rbs 1 (mkC n (Qa1 p A).2 X)=true:=rbs0 (Qay hX)
 have t1:(tmC (Qa1 p A).1).length=3:=Qbz
 have t2:Qan (tmC (Qa1 p A).1)=true:=Qd3
 have t3:(tmC (Qa1 p A).1).map V.ng=tmC (Qa1 p A).1:=Qd4
 have t4:V.rb 1 (.agg (tmC (Qa1 p A).1))=true:=Qfp
 have t5:=Qoe (t:=(Qa1 p A).1)
 generalize smC v s=S at *
 generalize A.name=an at *
 generalize A.has=ah at *
 by_cases c1:an=[]
 ·subst c1
  cases ah with
  |false=>
   rw [if_pos ⟨rfl,rfl⟩]
   have e1:tmC (.mk 7 0 [])=[.int .i64 7,.int .i64 0,.nils]:=rfl
   rw [e1]
   clear k2
   generalize mkC n p X=M at *
   generalize atC A=AC at *
   simp +contextual -implicitDefEqProofs (disch:=try exact X0d) only [↓reduceIte,go_sem,s_Z3,h1,l1,l2,l3,l4,l5,k1']
  |true=>
   rw [if_neg (by simp)]
   generalize tmC (Qa1 p A).1=T at *
   generalize mkC n p X=M at *
   generalize mkC n (Qa1 p A).2 X=M' at *
   generalize atC A=AC at *
   simp +contextual -implicitDefEqProofs (disch:=try exact X0d) only [↓reduceIte,go_sem,s_Z3,h1,l1,l2,l3,l4,l5,k1',k2,t5]
 ·rw [if_neg (by simp [c1])]
  generalize tmC (Qa1 p A).1=T at *
  generalize mkC n p X=M at *
  generalize mkC n (Qa1 p A).2 X=M' at *
  generalize atC A=AC at *
  simp +contextual -implicitDefEqProofs (disch:=try exact X0d) only [↓reduceIte,go_sem,s_Z3,h1,l1,l2,l3,l4,l5,k1',k2,t5,c1]
omit hv in
theorem Wly (hp:p.atoms.length≤999990) (H:Objs) (hτ:Cl0 H):
  E cx 106 [.ptr 0 0] (.cells (mkC n p X)::H)=some (.agg (tmC (Ql7 n p).1),.cells (mkC n (Ql7 n p).2 X)::H):=by
 refine E_on ?_ rfl (Qay hX) (Qay hX) (by rw [Qa0];exact Qeg) H hτ
 have hv0:∀n x,V.rb n (vCx 0 x)=true:=Qed 0
 have z:V.rbs 0 [.int .i64 0,.int .i64 0,.nils]=true:=rfl
 have zt:∀ {t:Trm},V.rbs 0 (tmC t)=true:=fun {t} => Qeg
 have k1:E cx 99 [.ptr 0 0,.agg [.int .i64 0,.int .i64 0,.str [],.str [97],.int .i64 0,.str [],.bool false,.int .i64 0,.int .i64 0,.int .i64 0,.nils]] [.cells (mkC n p X),.cells [.int .i64 0,.int .i64 0,.nils]]=some (.agg (tmC (Qa7 n p 0 [] [97]).1),[.cells (mkC n (Qa7 n p 0 [] [97]).2 X),.cells [.int .i64 0,.int .i64 0,.nils]]):=
  Qln hv0 hn hX ⟨0,0,[],[97],0,[],false,0,0,0,.nil⟩ X0o _ (Qab z Qaq)
 have q1:=Qfq (n:=n) (p:=p) (ns:=0) (pre:=[]) (name:=[97])
 unfold Ql7
 simp only
 generalize Qa7 n p 0 [] [97]=a at *
 have k2:E cx 99 [.ptr 0 0,.agg [.int .i64 0,.int .i64 0,.str [],.str [97,114,101,97],.int .i64 0,.str [],.bool false,.int .i64 0,.int .i64 0,.int .i64 0,.nils]] [.cells (mkC n a.2 X),.cells [.int .i64 0,.int .i64 0,.nils]]=some (.agg (tmC (Qa7 n a.2 0 [] [97,114,101,97]).1),[.cells (mkC n (Qa7 n a.2 0 [] [97,114,101,97]).2 X),.cells [.int .i64 0,.int .i64 0,.nils]]):=
  Qln hv0 hn hX ⟨0,0,[],[97,114,101,97],0,[],false,0,0,0,.nil⟩ X0o _ (Qab z Qaq)
 have q2:=Qfq (n:=n) (p:=a.2) (ns:=0) (pre:=[]) (name:=[97,114,101,97])
 generalize Qa7 n a.2 0 [] [97,114,101,97]=b at *
 have k3:=Qh1 (n:=n) (p:=b.2) hX [104,114,101,102] 1 [] X0o [.cells [.int .i64 0,.int .i64 0,.nils],.cells (tmC (anyT [a.1,b.1]))] (Qab z (Qab zt Qaq))
 generalize Qh0 b.2 [104,114,101,102] 1 []=c at *
 have hw:Wf [.cells (mkC n b.2 X),.cells [.int .i64 0,.int .i64 0,.nils]]:=Qa9 (Qab (Qay hX) (Qab z Qaq))
 have hw2:Wf [.cells (mkC n c.2 X),.cells [.int .i64 0,.int .i64 0,.nils],.cells (tmC (anyT [a.1,b.1])),.cells (tmC c.1)]:=Qa9 (Qab (Qay hX) (Qab z (Qab zt (Qab zt Qaq))))
 have bf:∀t u:Trm,Qam true 3 2 (.agg [.int .i64 0,.int .i64 0,.nils]) [(0,.agg (tmC t)),(1,.agg (tmC u))]=some (.sl [.agg (tmC t),.agg (tmC u)] .fx):=fun t u=>We9 Qbz Qd3 Qbz Qd3
 have sl2:∀t u:Trm,V.sl [.agg (tmC t),.agg (tmC u)] .no=vSl vT (slo [t,u]):=fun t u=>by
  rw [←Qhy,←Qhy];rfl
 have k4:E cx 147 [.sl [.agg (tmC a.1),.agg (tmC b.1)] .no] [.cells (mkC n b.2 X),.cells [.int .i64 0,.int .i64 0,.nils]]=some (.agg (tmC (anyT [a.1,b.1])),[.cells (mkC n b.2 X),.cells [.int .i64 0,.int .i64 0,.nils]]):=by
  rw [sl2];exact Qry [a.1,b.1] _ hw
 have k5:=Wds (anyT [a.1,b.1]) _ hw2
 have k6:=Wds c.1 _ hw2
 have k7:E cx 147 [.sl [.agg (tmC (notT (anyT [a.1,b.1]))),.agg (tmC (notT c.1))] .no] [.cells (mkC n c.2 X),.cells [.int .i64 0,.int .i64 0,.nils],.cells (tmC (anyT [a.1,b.1])),.cells (tmC c.1)]=some (.agg (tmC (anyT [notT (anyT [a.1,b.1]),notT c.1])),[.cells (mkC n c.2 X),.cells [.int .i64 0,.int .i64 0,.nils],.cells (tmC (anyT [a.1,b.1])),.cells (tmC c.1)]):=by
  rw [sl2];exact Qry _ _ hw2
 have k8:=Wds (anyT [notT (anyT [a.1,b.1]),notT c.1]) _ hw2
 have hM:V.rbs 1 (mkC n c.2 X)=true:=rbs0 (Qay hX)
 have bf1:=bf a.1 b.1
 have bf2:=bf (notT (anyT [a.1,b.1])) (notT c.1)
 have L:∀t:Trm,(tmC t).length=3:=fun t=>Qbz
 have OK:∀t:Trm,Qan (tmC t)=true:=fun t=>Qd3
 have NO:∀t:Trm,(tmC t).map V.ng=tmC t:=fun t=>Qd4
 have RB:∀(t:Trm),V.rb 1 (.agg (tmC t))=true:=fun t=>Qfp
 have MT:∀(t:Trm),List.map V.ng (List.take 3 (tmC t))=tmC t:=fun t=>Qoe
 have l1:∀(O1 O2:O) (H:Objs),eL (O1::O2 :: .cells (tmC (anyT [a.1,b.1]))::H) true 3 (.ptr 2 0)=some (.agg (tmC (anyT [a.1,b.1]))):=fun O1 O2 H=>Qbf rfl Qbz Qd4
 have l2:∀(O1 O2 O3:O) (H:Objs),eL (O1::O2::O3 :: .cells (tmC c.1)::H) true 3 (.ptr 3 0)=some (.agg (tmC c.1)):=fun O1 O2 O3 H=>Qbf rfl Qbz Qd4
 have op:Qei [Qcn true 3 (.ptr 3 0)] [.cells (mkC n c.2 X),.cells [.int .i64 0,.int .i64 0,.nils],.cells (tmC (anyT [a.1,b.1])),.cells (tmC c.1)] [.cells (mkC n c.2 X),.cells [.int .i64 0,.int .i64 0,.nils],.cells (tmC (anyT [a.1,b.1])),.cells (tmC c.1)]=some [.cells (mkC n c.2 X),.cells [.int .i64 0,.int .i64 0,.nils],.cells (tmC (anyT [a.1,b.1])),.cells (tmC c.1)]:=Qod rfl
 rw [e_Z4]
 clear hw hw2 bf sl2 q1 q2
 generalize anyT [notT (anyT [a.1,b.1]),notT c.1]=t5 at *
 generalize anyT [a.1,b.1]=t1 at *
 generalize notT t1=t2 at *
 generalize notT c.1=t4 at *
 generalize notT t5=t6 at *
 have RB6:=RB t6
 have L6:=L t6
 have O6:=OK t6
 have N6:=NO t6
 have L1:=L t1
 have O1:=OK t1
 have N1:=NO t1
 have L3:=L c.1
 have O3:=OK c.1
 have N3:=NO c.1
 generalize mkC n p X=M0 at *
 generalize mkC n a.2 X=M1 at *
 generalize mkC n b.2 X=M2 at *
 generalize mkC n c.2 X=M3 at *
 simp +contextual -implicitDefEqProofs (disch:=try exact X0d) only [↓reduceIte,go_sem,s_Z4,k1,k2,k3,k4,k5,k6,k7,k8,bf1,bf2,MT,l1,l2,op]
end
end Go.Proofs.YtapnplljnpconaaGreatDoor
namespace Go.Ev
def vK {α:Type} (f:α→V):List α→V
 |[]=>.nils
 |x::r=>.sl ((x::r).map f) .lk
section
variable {α:Type} {f:α→V} {sz:Nat} {l:List α} {B B' ψ ψ':Objs} {cs:List V} {o off:Nat}
theorem Wdt {n:Nat} (h:∀x,V.rb n (f x)=true):V.rb n (vK f l)=true:=by
 cases l with
 |nil=>rfl
 |cons x r=>exact Qpr (s:=.row (x::r)) fun y _=>h y
theorem Qf0 (ho:B.length=o):Objs.get (B ++ .cells cs::ψ) o=some cs:=by
 subst ho
 unfold Objs.get
 rw [Xbu (Xai _),Xc9]
 rfl
theorem Qmu {ds:List V} (ho:B.length=o):(B++O.cells cs::ψ).set o (.cells ds)=B ++ .cells ds::ψ:=by
 subst ho
 rw [List.set_append_right _ _ (Xai _),Xc9]
 rfl
theorem Qfr (ho:B.length=o) (h:cs[off]? = some (vG f sz l)):Qbt (B ++ .cells cs::ψ) (.ptr o off)=some (vG f sz l,B ++ .cells (cs.set off (vSl f (slo l)))::ψ):=by
 have e:Qbt (B ++ .cells cs::ψ) (.ptr o off)=match vG f sz l with
  | .sl xs (.gr s)=>some (.sl xs (.gr s),(B ++ .cells cs::ψ).set o (.cells (cs.set off (.sl xs .no))))
  | .sl _ .lk=>none
  |v=>some (v,B ++ .cells cs::ψ):=by
  unfold Qbt
  simp only [Qf0 ho,h,Xaa,Xad]
  cases l <;> rfl
 rw [e]
 cases l with
 |nil=>
  show some (V.nils,B ++ .cells cs::ψ)=some (V.nils,B++O.cells (cs.set off .nils)::ψ)
  have:cs.set off .nils=cs:=by
   obtain ⟨hl,e⟩:=Xaf.1 h
   rw [←show cs[off]=V.nils from e]
   exact Xcb _
  rw [this]
 |cons x r=>
  show some (V.sl _ _,(B ++ .cells cs::ψ).set o _)=_
  rw [Qmu ho];rfl
theorem Qrz (ho:B.length=o) (h:off<cs.length):stV (B ++ .cells cs::ψ) 1 (.ptr o off) (vSl f (slo l)) (vG f sz l)=some (.undef,B ++ .cells (cs.set off (vG f sz l))::ψ):=by
 have h':off+1≤cs.length:=h
 unfold stV
 simp only [Qf0 ho,Xaa,Xad,Qbw]
 rw [if_pos ⟨rfl,h',by rw [Qcb,Qc2];rfl⟩]
 cases l with
 |nil=>
  show some (V.undef,(B ++ .cells cs::ψ).set o _)=_
  rw [Qmu ho]
 |cons x r=>
  show some (V.undef,(B ++ .cells cs::ψ).set o _)=_
  rw [Qmu ho]
theorem Qr0 {x:V} (h:cs[off]? = some x):off<cs.length:=by
 obtain ⟨hl,_⟩:=Xaf.1 h
 exact hl
theorem Wab (ho:B.length=o) (h:cs[off]? = some (vG f sz l)):Qgd [Qdd (B ++ .cells cs::ψ) (.ptr o off)] (B ++ .cells (cs.set off (vSl f (slo l)))::ψ)=some (B ++ .cells (cs.set off (vK f l))::ψ):=by
 have hl:=Qr0 h
 unfold Qdd
 simp only [Qf0 ho,Xad,h]
 cases l with
 |nil=>rfl
 |cons x r=>
  show Qg8 (B ++ .cells (cs.set off (vSl f (slo (x::r))))::ψ) [(o,off)]=_
  unfold Qg8
  simp only [Qf0 ho,Xaq hl]
  show Qg8 ((B ++ .cells (cs.set off (vSl f (slo (x::r))))::ψ).set o _) []=_
  rw [Qmu ho,Xeb]
  rfl
theorem Wh6 (ho:B.length=o) (ho':B'.length=o) (h:cs[off]? = some (vG f sz l)):Qei [Qdd (B ++ .cells cs::ψ) (.ptr o off)] (B ++ .cells (cs.set off (vSl f (slo l)))::ψ) (B' ++ .cells (cs.set off (vK f l))::ψ')=some (B' ++ .cells (cs.set off (vSl f (slo l)))::ψ'):=by
 have hl:=Qr0 h
 unfold Qdd
 simp only [Qf0 ho,Xad,h]
 cases l with
 |nil=>
  show (if (stable (B ++ .cells (cs.set off .nils)::ψ) (B' ++ .cells (cs.set off .nils)::ψ') (.same true o off 1)&&true)=true then some (B' ++ .cells (cs.set off .nils)::ψ') else none)=_
  have e:stable (B ++ .cells (cs.set off .nils)::ψ) (B' ++ .cells (cs.set off .nils)::ψ') (.same true o off 1)=true:=by
   simp only [stable,Qf0 ho,Qf0 ho',decide_true,Xa0,if_true]
   exact V.beqs_refl _
  rw [e];rfl
 |cons x r=>
  show (Qe0 (B' ++ .cells (cs.set off (vK f (x::r)))::ψ') [(o,off)]).bind _=_
  unfold Qe0
  simp only [Qf0 ho',Xaq hl]
  show (Qe0 ((B' ++ .cells (cs.set off (vK f (x::r)))::ψ').set o _) []).bind _=_
  rw [Qmu ho',Xeb]
  rfl
end
end Go.Ev
namespace Go.Proofs.YtapnplljnpconaaGreatDoor
open Go.Ev
def Qbo (l:List Int):Trm:=anyT (l.map fun i=>.mk 2 i [])
def addC (p:Pln) (c:Ctr):Pln:={ p with ctrs:=p.ctrs++[c] }
def Qeh {α:Type} (n:Nms) (s:Sm α):Atm:=Qj1 n ⟨2,false,[],s.name,s.op,s.text,s.fold⟩ (if s.ns=0 then 2 else s.ns) s.pre
section
variable {α:Type} (r0:Pln→Sl α→List Int×Pln) (n:Nms)
def Qcy (p:Pln) (s:Sm α):Trm×Pln:=
 if s.kind=1∨s.kind=2 then Qa7 n p s.ns s.pre s.name
 else if s.kind=3 then Qh0 p [99,108,97,115,115] 3 s.name
 else if s.kind=4 then Qh0 p [105,100] 2 s.name
 else if s.kind=5 then Qa1 p (Qeh n s)
 else if s.kind=11 then Qa1 p ⟨3,false,[],s.name,0,[],false⟩
 else if s.kind=6 then (.mk 6 0 [],p)
 else if s.kind=8∨s.kind=9 then (Qbo (r0 p s.of).1,(r0 p s.of).2)
 else if s.kind=10 then (notT (Qbo (r0 p s.of).1),(r0 p s.of).2)
 else if s.kind=7 then (.mk 5 (r0 p s.of).2.ctrs.length [],addC (r0 p s.of).2 ⟨s.a,s.b,(r0 p s.of).1⟩)
 else if s.kind=12 then Ql7 n p
 else (.mk 7 0 [],p)
end
def Pz (p:Pln) (m:Nat):Prop:=p.atoms.length≤m∧p.rows.length≤m∧p.ctrs.length≤m∧0≤p.steps∧p.steps≤m
theorem Pz.le {p:Pln} {m k:Nat} (h:Pz p m) (hk:m≤k):Pz p k:=by
 obtain ⟨h1,h2,h3,h4,h5⟩:=h
 exact ⟨by omega,by omega,by omega,h4,by omega⟩
theorem Pz.atom {p:Pln} {m:Nat} {a:Atm} (h:Pz p m):Pz (Qa1 p a).2 (m+1):=by
 have:=Qt0 (p:=p) (a:=a)
 obtain ⟨h1,h2,h3,h4,h5⟩:=h
 refine ⟨by omega,?_⟩
 unfold Qa1
 split <;> exact ⟨by show p.rows.length≤_;omega,by show p.ctrs.length≤_;omega,h4,by show p.steps≤_;omega⟩
theorem Pz.element {n:Nms} {p:Pln} {m:Nat} {ns:Int} {pre name:List UInt8} (h:Pz p m):Pz (Qa7 n p ns pre name).2 (m+1):=by
 unfold Qa7
 split
 ·exact h.le X0o
 ·exact h.atom
theorem Pz.link {n:Nms} {p:Pln} {m:Nat} (h:Pz p m):Pz (Ql7 n p).2 (m+3):=by
 have h1:=h.element (n:=n) (ns:=0) (pre:=[]) (name:=[97])
 have h2:=h1.element (n:=n) (ns:=0) (pre:=[]) (name:=[97,114,101,97])
 exact h2.atom (a:=atA [104,114,101,102] 1 [])
section
variable {α:Type} {v:α→V} (hv:∀n x,V.rb n (v x)=true) {n:Nms} (hn:NmB n) {r0:Pln→Sl α→List Int×Pln} {w0:Sl α→Nat}
def Qer (v:α→V) (n:Nms) (r0:Pln→Sl α→List Int×Pln) (w0:Sl α→Nat):Prop:=∀(p:Pln) (s:Sl α) (m:Nat) (X:V),V.rb 0 X=true→Pz p m→m+w0 s≤800000→
 E cx 32 [.ptr 0 0,vSl v s] [.cells (mkC n p X)]=some (vIs (r0 p s).1,[.cells (mkC n (r0 p s).2 X)])∧Pz (r0 p s).2 (m+w0 s)∧(r0 p s).1.length≤w0 s
variable (hR:Qer v n r0 w0) {X:V} (hX:V.rb 0 X=true)
theorem Qt2 {U:Objs} {l:List Trm} {t:Trm} {c:Cap} (hl:l.length≤1000000):appV false true 3 40 U (vG vT 3 l) (.sl [.agg (tmC t)] c)=some (vG vT 3 (l++[t])):=by
 rw [←Qhy]
 refine Qfh (fun x=>by rw [Qhy];exact Qbz) (fun x=>by rw [Qhy];exact Qd3) (fun x=>by rw [Qhy];rfl) ?_
 unfold Qbj
 omega
theorem Qmv (M:List V) (hM:V.rbs 0 M=true) (rs:List Int) (hl:rs.length≤800000):∀(r q:List Int),rs=q++r→
  l_Z7_0 (Mi cx) 1 2 [.ptr 1 0,vG vT 3 (q.map fun i=>.mk 2 i []),vIs rs,.int .i64 rs.length,.int .i64 q.length] [.cells M,.cells [.int .i64 0,.int .i64 0,.nils]]=some (.agg (tmC (Qbo rs)),[.cells M])
 |[],q,hq=>by
  have hq':rs=q:=by rw [hq];simp
  subst hq'
  have e1:¬(rs.length:Int)<rs.length:=by omega
  have hM2:V.rbs 2 M=true:=rbs0 hM
  have hM1:V.rbs 1 M=true:=rbs0 hM
  have f1:∀k U l,fz k U fzD (vG vT 3 l)=some (vG vT 3 l):=fun k U l=>Qar (Qdv fun x=>Qhz x)
  have hw:Wf [.cells M,.cells [.int .i64 0,.int .i64 0,.nils]]:=Qa9 (Qab hM (Qab rfl Qaq))
  have k1:=Qry (rs.map fun i=>.mk 2 i []) _ hw
  have k2:anyT (rs.map fun i=>.mk 2 i [])=Qbo rs:=rfl
  rw [k2] at k1
  have t1:(tmC (Qbo rs)).length=3:=Qbz
  have t2:Qan (tmC (Qbo rs))=true:=Qd3
  have t3:(tmC (Qbo rs)).map V.ng=tmC (Qbo rs):=Qd4
  have t4:V.rb 1 (.agg (tmC (Qbo rs)))=true:=Qfp
  have t5:=Qoe (t:=Qbo rs)
  rw [u_Z7_0]
  generalize tmC (Qbo rs)=T at *
  simp +contextual -implicitDefEqProofs (disch:=try exact X0d) only [↓reduceIte,go_sem,b_Z7_0,e1,f1,n_vG,k1,t5]
 |i::r,q,hq=>by
  have hlen:rs.length=q.length+r.length+1:=by rw [hq];simp;omega
  have e1:(q.length:Int)<rs.length:=by omega
  have hM2:V.rbs 2 M=true:=rbs0 hM
  have f1:∀k U l,fz k U fzD (vG vT 3 l)=some (vG vT 3 l):=fun k U l=>Qar (Qdv fun x=>Qhz x)
  have f2:∀k U l,fz k U fzD (vIs l)=some (vIs l):=fun k U l=>Qar Qdp
  have i1:eI 1 (.int .i64 q.length) (vIs rs)=some (.eptr [.int .i64 i] 0):=Qax (f:=V.int .i64) (p:=q) (r:=r) (by rw [Qfg,hq]) rfl rfl
  have a1:∀U,appV false true 3 40 U (vG vT 3 (q.map fun i=>.mk 2 i [])) (.sl [.agg [.int .i64 2,.int .i64 i,.nils]] .no)=some (vG vT 3 ((q++[i]).map fun i=>.mk 2 i [])):=fun U=>by
   rw [Xbj]
   exact Qt2 (t:=.mk 2 i []) (by rw [Xao];omega)
  have ih:=Qmv M hM rs hl r (q++[i]) (by rw [hq];simp)
  rw [show ((q++[i]).length:Int)=q.length+1 by simp] at ih
  rw [u_Z7_0]
  generalize (q++[i]).map (fun i=>Trm.mk 2 i [])=L' at *
  generalize q.map (fun i=>Trm.mk 2 i [])=L at *
  simp +contextual -implicitDefEqProofs (disch:=try exact X0d) only [↓reduceIte,go_sem,b_Z7_0,e1,f1,f2,i1,a1,Qaf,ih]
include hv hR hX
theorem Wac {p:Pln} {m:Nat} (s:Sl α) (hp:Pz p m) (hm:m+w0 s≤800000) (H:Objs) (hτ:Cl0 H):E cx 32 [.ptr 0 0,vSl v s] (.cells (mkC n p X)::H)=some (vIs (r0 p s).1,.cells (mkC n (r0 p s).2 X)::H):=
 E_on (hR p s m X hX hp hm).1 (by simp only [Qag,Qaj hv];rfl) (Qay hX) (Qay hX) Qdp H hτ
theorem Wlz {p:Pln} {m:Nat} (s:Sl α) (hp:Pz p m) (hm:m+w0 s≤800000) (H:Objs) (hτ:Cl0 H):
  E cx 103 [.ptr 0 0,vSl v s] (.cells (mkC n p X)::H)=some (.agg (tmC (Qbo (r0 p s).1)),.cells (mkC n (r0 p s).2 X)::H):=by
 refine E_on ?_ (by simp only [Qag,Qaj hv];rfl) (Qay hX) (Qay hX) Qfp H hτ
 have k1:=Wac hv hR hX s hp hm [.cells [.int .i64 0,.int .i64 0,.nils]] (Qab rfl Qaq)
 have hl:=(hR p s m X hX hp hm).2.2
 have k2:=Qmv (mkC n (r0 p s).2 X) (Qay hX) (r0 p s).1 X0o (r0 p s).1 [] rfl
 have k2':l_Z7_0 (Mi cx) 1 2 [.ptr 1 0,.nils,vIs (r0 p s).1,.int .i64 (r0 p s).1.length,.int .i64 0] [.cells (mkC n (r0 p s).2 X),.cells [.int .i64 0,.int .i64 0,.nils]]=some (.agg (tmC (Qbo (r0 p s).1)),[.cells (mkC n (r0 p s).2 X)]):=k2
 have f2:∀k U l,fz k U fzD (vIs l)=some (vIs l):=fun k U l=>Qar Qdp
 have e1:(slo (r0 p s).1).l.length=(r0 p s).1.length:=by rw [Qfg]
 clear k2
 rw [e_Z7]
 generalize (r0 p s).1=rs at *
 generalize tmC (Qbo rs)=T at *
 generalize mkC n (r0 p s).2 X=M' at *
 generalize mkC n p X=M at *
 simp +contextual -implicitDefEqProofs (disch:=try exact X0d) only [↓reduceIte,go_sem,s_Z7,k1,f2,Qaf,Qah,e1,k2']
omit hv hR hX in
def mkB (n:Nms) (p:Pln) (X:V):List V:=(mkC n p X).set 6 (vSl vCtr (slo p.ctrs))
theorem Wad {p:Pln} {m:Nat} (s:Sm α) (hp:Pz p m) (hm:m+w0 s.of≤800000) (H:Objs) (hτ:Cl0 H):
  E cx 105 [.ptr 0 0,.agg (smC v s)] (.cells (mkC n p X)::H)=some (.agg (tmC (.mk 5 (r0 p s.of).2.ctrs.length [])),.cells (mkC n (addC (r0 p s.of).2 ⟨s.a,s.b,(r0 p s.of).1⟩) X)::H):=by
 refine E_on ?_ (by simp only [Qag,Qa0,Qbd hv];rfl) (Qay hX) (Qay hX) Qfp H hτ
 have h1:boxV [.cells (mkC n p X)] (.agg (smC v s))=some (.ptr 1 0,[.cells (mkC n p X),.cells (smC v s)]):=Qau Qf2 Qc6
 have l1:∀(O1:O) (H:Objs),eL (O1 :: .cells (smC v s)::H) false 1 (.ptr 1 10)=some (vSl v s.of):=fun O1 H=>by
  show Option.map V.ng (some (vSl v s.of))=_
  rw [Qal,Qaf]
 have l2:∀(O1:O) (H:Objs),eL (O1 :: .cells (smC v s)::H) true 2 (.ptr 1 8)=some (.agg [.int .i64 s.a,.int .i64 s.b]):=fun O1 H=>rfl
 have k1:=Wac hv hR hX s.of hp hm [.cells (smC v s),.cells [.int .i64 0,.int .i64 0,.nils]] (Qab (Qbd hv) (Qab rfl Qaq))
 obtain ⟨_,⟨z1,z2,z3,z4,z5⟩,_⟩:=hR p s.of m X hX hp hm
 generalize (r0 p s.of).1=rs at *
 generalize (r0 p s.of).2=q at *
 have e1:tmC (.mk 5 q.ctrs.length [])=[.int .i64 5,.int .i64 q.ctrs.length,.nils]:=rfl
 have t1:∀H:Objs,Qbt (.cells (mkC n q X)::H) (.ptr 0 6)=some (vG vCtr 3 q.ctrs,.cells (mkB n q X)::H):=fun H=>Qg7 rfl
 have a1:∀U,appV false true 3 40 U (vG vCtr 3 q.ctrs) (.sl [.agg [.int .i64 s.a,.int .i64 s.b,vIs rs]] .no)=some (vG vCtr 3 (q.ctrs++[⟨s.a,s.b,rs⟩])):=fun U=>by
  refine Qfh (f:=vCtr) (x:=⟨s.a,s.b,rs⟩) (fun _=>rfl) (fun x=>Wls) (fun _=>rfl) ?_
  unfold Qbj
  omega
 have s1:∀H:Objs,stV (.cells (mkB n q X)::H) 1 (.ptr 0 6) (vSl vCtr (slo (q.ctrs++[⟨s.a,s.b,rs⟩]))) (vG vCtr 3 (q.ctrs++[⟨s.a,s.b,rs⟩]))=some (.undef,.cells (mkC n (addC q ⟨s.a,s.b,rs⟩) X)::H):=fun H=>Qwa (show 6<9 by decide)
 have l3:∀H:Objs,eL (.cells (mkC n (addC q ⟨s.a,s.b,rs⟩) X)::H) false 1 (.ptr 0 6)=some (vSl vCtr (slo (q.ctrs++[⟨s.a,s.b,rs⟩]))):=fun H=>by
  show Option.map V.ng (some (vG vCtr 3 (q.ctrs++[⟨s.a,s.b,rs⟩])))=_
  rw [Qal,n_vG]
 have b1:Qam true 3 1 (.agg [.int .i64 0,.int .i64 0,.nils]) [(0,.agg [.int .i64 s.a,.int .i64 s.b,vIs rs])]=some (.sl [.agg [.int .i64 s.a,.int .i64 s.b,vIs rs]] .fx):=Qhi rfl (by simp only [Qcb,Qdm,Qc9,Qc2,Xau])
 have e2:(slo (q.ctrs++[⟨s.a,s.b,rs⟩])).l.length=q.ctrs.length+1:=by rw [Qfg,Xas];rfl
 have e3:((q.ctrs.length+1:Nat):Int)=(q.ctrs.length:Int)+1:=by omega
 have hM:V.rbs 1 (mkC n (addC q ⟨s.a,s.b,rs⟩) X)=true:=rbs0 (Qay hX)
 rw [e_Z2,e1]
 generalize mkC n (addC q ⟨s.a,s.b,rs⟩) X=M2 at *
 generalize hcs:q.ctrs++[(⟨s.a,s.b,rs⟩:Ctr)]=cs at *
 generalize mkB n q X=MB at *
 generalize mkC n q X=M1 at *
 generalize mkC n p X=M at *
 generalize smC v s=S at *
 simp +contextual -implicitDefEqProofs (disch:=try exact X0d) only [↓reduceIte,go_sem,s_Z2,h1,l1,l2,k1,t1,a1,s1,l3,b1,e2,e3,Qaf,n_vG,Qah,Xch]
end
section
variable {α:Type} {v:α→V} (hv:∀n x,V.rb n (v x)=true) {n:Nms} (hn:NmB n) {r0:Pln→Sl α→List Int×Pln} {w0:Sl α→Nat}
theorem Pz.term {p:Pln} {m:Nat} {s:Sm α} (h:Pz p m) (hr:Pz (r0 p s.of).2 (m+w0 s.of)):Pz (Qcy r0 n p s).2 (m+(4+w0 s.of)):=by
 unfold Qcy
 by_cases c:s.kind=1∨s.kind=2
 ·rw [if_pos c]
  exact h.element.le X0o
 rw [if_neg c]
 clear c
 by_cases c:s.kind=3
 ·rw [if_pos c]
  exact h.atom.le X0o
 rw [if_neg c]
 clear c
 by_cases c:s.kind=4
 ·rw [if_pos c]
  exact h.atom.le X0o
 rw [if_neg c]
 clear c
 by_cases c:s.kind=5
 ·rw [if_pos c]
  exact h.atom.le X0o
 rw [if_neg c]
 clear c
 by_cases c:s.kind=11
 ·rw [if_pos c]
  exact h.atom.le X0o
 rw [if_neg c]
 clear c
 by_cases c:s.kind=6
 ·rw [if_pos c]
  exact h.le X0o
 rw [if_neg c]
 clear c
 by_cases c:s.kind=8∨s.kind=9
 ·rw [if_pos c]
  exact hr.le X0o
 rw [if_neg c]
 clear c
 by_cases c:s.kind=10
 ·rw [if_pos c]
  exact hr.le X0o
 rw [if_neg c]
 clear c
 by_cases c:s.kind=7
 ·rw [if_pos c]
  obtain ⟨h1,h2,h3,h4,h5⟩:=hr
  refine ⟨?_,?_,?_,?_,?_⟩
  ·show (r0 p s.of).2.atoms.length≤_;omega
  ·show (r0 p s.of).2.rows.length≤_;omega
  ·show ((r0 p s.of).2.ctrs++[_]).length≤_
   rw [Xas];show _+1≤_;omega
  ·exact h4
  ·show (r0 p s.of).2.steps≤_;omega
 rw [if_neg c]
 clear c
 by_cases c:s.kind=12
 ·rw [if_pos c]
  exact h.link.le X0o
 rw [if_neg c]
 clear c
 exact h.le X0o
variable (hR:Qer v n r0 w0) {X:V} (hX:V.rb 0 X=true)
include hv hn hR hX
theorem Wl0 {p:Pln} {m:Nat} (s:Sm α) (hp:Pz p m) (hm:m+(4+w0 s.of)≤800000) (H:Objs) (hτ:Cl0 H):
  E cx 76 [.ptr 0 0,.agg (smC v s)] (.cells (mkC n p X)::H)=some (.agg (tmC (Qcy r0 n p s).1),.cells (mkC n (Qcy r0 n p s).2 X)::H):=by
 refine E_on ?_ (by simp only [Qag,Qa0,Qbd hv];rfl) (Qay hX) (Qay hX) Qfp H hτ
 have z:V.rbs 0 [.int .i64 0,.int .i64 0,.nils]=true:=rfl
 have hτ2:Cl0 [.cells (smC v s),.cells [.int .i64 0,.int .i64 0,.nils]]:=Qab (Qbd hv) (Qab z Qaq)
 have hA:p.atoms.length≤800000:=by have:=hp.1;omega
 have h1:boxV [.cells (mkC n p X)] (.agg (smC v s))=some (.ptr 1 0,[.cells (mkC n p X),.cells (smC v s)]):=Qau Qf2 Qc6
 have l0:∀(O1:O) (H:Objs),eL (O1 :: .cells (smC v s)::H) false 1 (.ptr 1 0)=some (.int .i64 s.kind):=fun O1 H=>rfl
 have l1:∀(O1:O) (H:Objs),eL (O1 :: .cells (smC v s)::H) false 1 (.ptr 1 1)=some (.int .i64 s.ns):=fun O1 H=>rfl
 have l3:∀(O1:O) (H:Objs),eL (O1 :: .cells (smC v s)::H) false 1 (.ptr 1 3)=some (.str s.name):=fun O1 H=>rfl
 have l4:∀(O1:O) (H:Objs),eL (O1 :: .cells (smC v s)::H) true 3 (.ptr 1 4)=some (.agg [.int .i64 s.op,.str s.text,.bool s.fold]):=fun O1 H=>rfl
 have l10:∀(O1:O) (H:Objs),eL (O1 :: .cells (smC v s)::H) false 1 (.ptr 1 10)=some (vSl v s.of):=fun O1 H=>by
  show Option.map V.ng (some (vSl v s.of))=_
  rw [Qal,Qaf]
 have l11:∀(O1:O) (H:Objs),eL (O1 :: .cells (smC v s)::H) true 11 (.ptr 1 0)=some (.agg (smC v s)):=fun O1 H=>Qbf rfl rfl Qc6
 have hM:∀q:Pln,V.rbs 1 (mkC n q X)=true:=fun q=>rbs0 (Qay hX)
 have L:∀t:Trm,(tmC t).length=3:=fun t=>Qbz
 have OK:∀t:Trm,Qan (tmC t)=true:=fun t=>Qd3
 have NO:∀t:Trm,(tmC t).map V.ng=tmC t:=fun t=>Qd4
 have RB:∀(t:Trm),V.rb 1 (.agg (tmC t))=true:=fun t=>Qfp
 have MT:∀(t:Trm),List.map V.ng (List.take 3 (tmC t))=tmC t:=fun t=>Qoe
 have kel:=Qln hv hn (p:=p) hX s X0o _ hτ2
 have kcl:=Qh1 (n:=n) (p:=p) hX [99,108,97,115,115] 3 s.name X0o _ hτ2
 have kid:=Qh1 (n:=n) (p:=p) hX [105,100] 2 s.name X0o _ hτ2
 have kst:=Qof (n:=n) (p:=p) hX ⟨3,false,[],s.name,0,[],false⟩ X0o _ hτ2
 have kst':E cx 101 [.ptr 0 0,.agg [.int .i64 3,.bool false,.str [],.str s.name,.int .i64 0,.str [],.bool false]] [.cells (mkC n p X),.cells (smC v s),.cells [.int .i64 0,.int .i64 0,.nils]]=_:=kst
 have kso:=Wlz hv hR hX s.of hp X0o _ hτ2
 have kco:=Wad hv hR hX s hp X0o _ hτ2
 have kli:=Wly hn (p:=p) hX X0o _ hτ2
 clear kst
 unfold Qcy
 rw [e_Z9]
 by_cases c1:s.kind=1∨s.kind=2
 ·rw [if_pos c1]
  generalize Qa7 n p s.ns s.pre s.name=q at *
  have hM1:=hM q.2
  have t1:=L q.1;have t2:=OK q.1;have t3:=NO q.1;have t4:=RB q.1;have t5:=MT q.1
  clear kcl kid kst' kso kco kli l4 l10 l1 L OK NO RB MT hM hR
  generalize tmC q.1=T at *
  generalize mkC n q.2 X=M' at *
  generalize mkC n p X=M at *
  generalize smC v s=S at *
  rcases c1 with c1|c1 <;> rw [c1] at l0 <;> simp +contextual -implicitDefEqProofs (disch:=try exact X0d) only [↓reduceIte,go_sem,s_Z9,j_Z9_0,h1,l0,l11,kel,t5]
 have c11:¬s.kind=1:=fun h=>c1 (.inl h)
 have c12:¬s.kind=2:=fun h=>c1 (.inr h)
 rw [if_neg c1]
 clear c1
 by_cases c3:s.kind=3
 ·rw [if_pos c3]
  generalize Qh0 p [99,108,97,115,115] 3 s.name=q at *
  have hM1:=hM q.2
  have t1:=L q.1;have t2:=OK q.1;have t3:=NO q.1;have t4:=RB q.1;have t5:=MT q.1
  clear kel kid kst' kso kco kli l4 l10 l1 L OK NO RB MT hM hR
  generalize tmC q.1=T at *
  generalize mkC n q.2 X=M' at *
  generalize mkC n p X=M at *
  generalize smC v s=S at *
  rw [c3] at l0
  simp +contextual -implicitDefEqProofs (disch:=try exact X0d) only [↓reduceIte,go_sem,s_Z9,j_Z9_0,h1,l0,l3,kcl,t5]
 rw [if_neg c3]
 by_cases c4:s.kind=4
 ·rw [if_pos c4]
  generalize Qh0 p [105,100] 2 s.name=q at *
  have hM1:=hM q.2
  have t1:=L q.1;have t2:=OK q.1;have t3:=NO q.1;have t4:=RB q.1;have t5:=MT q.1
  clear kel kcl kst' kso kco kli l4 l10 l1 L OK NO RB MT hM hR
  generalize tmC q.1=T at *
  generalize mkC n q.2 X=M' at *
  generalize mkC n p X=M at *
  generalize smC v s=S at *
  rw [c4] at l0
  simp +contextual -implicitDefEqProofs (disch:=try exact X0d) only [↓reduceIte,go_sem,s_Z9,j_Z9_0,h1,l0,l3,kid,t5]
 rw [if_neg c4]
 by_cases c5:s.kind=5
 ·rw [if_pos c5]
  clear kel kcl kid kst' kso kco kli
  have sS:stV [.cells (mkC n p X),.cells (smC v s),.cells [.int .i64 0,.int .i64 0,.nils],.cells [.int .i64 2,.bool false,.str [],.str s.name,.int .i64 s.op,.str s.text,.bool s.fold]] 1 (.ptr 1 1) (.int .i64 2) (.int .i64 2)=some (.undef,[.cells (mkC n p X),.cells (smC v { s with ns:=2 }),.cells [.int .i64 0,.int .i64 0,.nils],.cells [.int .i64 2,.bool false,.str [],.str s.name,.int .i64 s.op,.str s.text,.bool s.fold]]):=rfl
  have la:∀(O1 O2 O3:O) (H:Objs),eL (O1::O2::O3 :: .cells [.int .i64 2,.bool false,.str [],.str s.name,.int .i64 s.op,.str s.text,.bool s.fold]::H) true 7 (.ptr 3 0)=some (.agg [.int .i64 2,.bool false,.str [],.str s.name,.int .i64 s.op,.str s.text,.bool s.fold]):=fun O1 O2 O3 H=>rfl
  have key:∀s':Sm α,s'.pre=s.pre→Qj1 n ⟨2,false,[],s.name,s.op,s.text,s.fold⟩ s'.ns s'.pre=Qeh n s→
    E cx 102 [.ptr 0 0,.agg [.int .i64 2,.bool false,.str [],.str s.name,.int .i64 s.op,.str s.text,.bool s.fold],.agg (smC v s')] [.cells (mkC n p X),.cells (smC v s'),.cells [.int .i64 0,.int .i64 0,.nils],.cells [.int .i64 2,.bool false,.str [],.str s.name,.int .i64 s.op,.str s.text,.bool s.fold]]=some (.agg (atC (Qeh n s)),[.cells (mkC n p X),.cells (smC v s'),.cells [.int .i64 0,.int .i64 0,.nils],.cells [.int .i64 2,.bool false,.str [],.str s.name,.int .i64 s.op,.str s.text,.bool s.fold]])
    ∧ E cx 101 [.ptr 0 0,.agg (atC (Qeh n s))] [.cells (mkC n p X),.cells (smC v s'),.cells [.int .i64 0,.int .i64 0,.nils],.cells [.int .i64 2,.bool false,.str [],.str s.name,.int .i64 s.op,.str s.text,.bool s.fold]]=some (.agg (tmC (Qa1 p (Qeh n s)).1),[.cells (mkC n (Qa1 p (Qeh n s)).2 X),.cells (smC v s'),.cells [.int .i64 0,.int .i64 0,.nils],.cells [.int .i64 2,.bool false,.str [],.str s.name,.int .i64 s.op,.str s.text,.bool s.fold]]):=by
   intro s' hs' e
   have hτ3:Cl0 [.cells (smC v s'),.cells [.int .i64 0,.int .i64 0,.nils],.cells [.int .i64 2,.bool false,.str [],.str s.name,.int .i64 s.op,.str s.text,.bool s.fold]]:=Qab (Qbd hv) (Qab z (Qab rfl Qaq))
   have k:=Qt1 hv hn (p:=p) hX ⟨2,false,[],s.name,s.op,s.text,s.fold⟩ s' _ hτ3
   rw [e] at k
   exact ⟨k,Qof hX _ X0o _ hτ3⟩
  have hM1:=hM (Qa1 p (Qeh n s)).2
  have t1:=L (Qa1 p (Qeh n s)).1;have t2:=OK (Qa1 p (Qeh n s)).1;have t3:=NO (Qa1 p (Qeh n s)).1;have t4:=RB (Qa1 p (Qeh n s)).1;have t5:=MT (Qa1 p (Qeh n s)).1
  rw [c5] at l0
  by_cases c6:s.ns=0
  ·obtain ⟨k1,k2⟩:=key { s with ns:=2 } rfl (by unfold Qeh;rw [if_pos c6])
   have m11:∀(O1:O) (H:Objs),eL (O1 :: .cells (smC v { s with ns:=2 })::H) true 11 (.ptr 1 0)=some (.agg (smC v { s with ns:=2 })):=fun O1 H=>Qbf rfl rfl Qc6
   rw [c6] at l1
   clear key L OK NO RB MT hM hR
   generalize tmC (Qa1 p (Qeh n s)).1=T at *
   generalize mkC n (Qa1 p (Qeh n s)).2 X=M' at *
   generalize mkC n p X=M at *
   generalize smC v { s with ns:=2 } = S2 at *
   generalize smC v s=S at *
   generalize atC (Qeh n s)=AC at *
   simp +contextual -implicitDefEqProofs (disch:=try exact X0d) only [↓reduceIte,go_sem,s_Z9,j_Z9_0,j_Z9_1,h1,l0,l1,l3,l4,m11,sS,la,k1,k2,t5]
  ·obtain ⟨k1,k2⟩:=key s rfl (by unfold Qeh;rw [if_neg c6])
   clear key L OK NO RB MT hM hR sS
   generalize tmC (Qa1 p (Qeh n s)).1=T at *
   generalize mkC n (Qa1 p (Qeh n s)).2 X=M' at *
   generalize mkC n p X=M at *
   generalize smC v s=S at *
   generalize atC (Qeh n s)=AC at *
   simp +contextual -implicitDefEqProofs (disch:=try exact X0d) only [↓reduceIte,go_sem,s_Z9,j_Z9_0,j_Z9_1,h1,l0,l1,l3,l4,l11,la,k1,k2,t5,c6]
 rw [if_neg c5]
 by_cases c11':s.kind=11
 ·rw [if_pos c11']
  generalize Qa1 p ⟨3,false,[],s.name,0,[],false⟩=q at *
  have hM1:=hM q.2
  have t1:=L q.1;have t2:=OK q.1;have t3:=NO q.1;have t4:=RB q.1;have t5:=MT q.1
  clear kel kcl kid kso kco kli l4 l10 l1 L OK NO RB MT hM hR
  generalize tmC q.1=T at *
  generalize mkC n q.2 X=M' at *
  generalize mkC n p X=M at *
  generalize smC v s=S at *
  rw [c11'] at l0
  simp +contextual -implicitDefEqProofs (disch:=try exact X0d) only [↓reduceIte,go_sem,s_Z9,j_Z9_0,h1,l0,l3,kst',t5]
 rw [if_neg c11']
 by_cases c6:s.kind=6
 ·rw [if_pos c6]
  have e1:tmC (.mk 6 0 [])=[.int .i64 6,.int .i64 0,.nils]:=rfl
  rw [e1]
  have hM1:=hM p
  clear kel kcl kid kst' kso kco kli l4 l10 l1 L OK NO RB MT hM hR
  generalize mkC n p X=M at *
  generalize smC v s=S at *
  rw [c6] at l0
  simp +contextual -implicitDefEqProofs (disch:=try exact X0d) only [↓reduceIte,go_sem,s_Z9,j_Z9_0,h1,l0]
 rw [if_neg c6]
 have hw2:∀q:Pln,Wf [.cells (mkC n q X),.cells (smC v s),.cells [.int .i64 0,.int .i64 0,.nils]]:=fun q=>Qa9 (Qab (Qay hX) hτ2)
 by_cases c8:s.kind=8∨s.kind=9
 ·rw [if_pos c8]
  generalize r0 p s.of=q at *
  have hM1:=hM q.2
  have t1:=L (Qbo q.1);have t2:=OK (Qbo q.1);have t3:=NO (Qbo q.1);have t4:=RB (Qbo q.1);have t5:=MT (Qbo q.1)
  clear kel kcl kid kst' kco kli l4 l1 L OK NO RB MT hM hR hw2
  generalize tmC (Qbo q.1)=T at *
  generalize mkC n q.2 X=M' at *
  generalize mkC n p X=M at *
  generalize smC v s=S at *
  rcases c8 with c8|c8 <;> rw [c8] at l0 <;> simp +contextual -implicitDefEqProofs (disch:=try exact X0d) only [↓reduceIte,go_sem,s_Z9,j_Z9_0,j_Z9_2,h1,l0,l10,Qaf,kso,t5]
 have c88:¬s.kind=8:=fun h=>c8 (.inl h)
 have c89:¬s.kind=9:=fun h=>c8 (.inr h)
 rw [if_neg c8]
 clear c8
 by_cases c10:s.kind=10
 ·rw [if_pos c10]
  generalize r0 p s.of=q at *
  have k2:=Wds (Qbo q.1) _ (hw2 q.2)
  have hM1:=hM q.2
  have t1:=L (notT (Qbo q.1));have t2:=OK (notT (Qbo q.1));have t3:=NO (notT (Qbo q.1));have t4:=RB (notT (Qbo q.1));have t5:=MT (notT (Qbo q.1))
  clear kel kcl kid kst' kco kli l4 l1 L OK NO RB MT hM hR hw2
  generalize tmC (notT (Qbo q.1))=T at *
  generalize tmC (Qbo q.1)=T1 at *
  generalize mkC n q.2 X=M' at *
  generalize mkC n p X=M at *
  generalize smC v s=S at *
  rw [c10] at l0
  simp +contextual -implicitDefEqProofs (disch:=try exact X0d) only [↓reduceIte,go_sem,s_Z9,j_Z9_0,j_Z9_2,h1,l0,l10,Qaf,kso,k2,t5]
 rw [if_neg c10]
 by_cases c7:s.kind=7
 ·rw [if_pos c7]
  generalize r0 p s.of=q at *
  simp only
  have hM1:=hM (addC q.2 ⟨s.a,s.b,q.1⟩)
  have t1:=L (.mk 5 q.2.ctrs.length []);have t2:=OK (.mk 5 q.2.ctrs.length []);have t3:=NO (.mk 5 q.2.ctrs.length []);have t4:=RB (.mk 5 q.2.ctrs.length []);have t5:=MT (.mk 5 q.2.ctrs.length [])
  clear kel kcl kid kst' kso kli l4 l1 l10 L OK NO RB MT hM hR hw2
  generalize tmC (.mk 5 q.2.ctrs.length [])=T at *
  generalize mkC n (addC q.2 ⟨s.a,s.b,q.1⟩) X=M' at *
  generalize mkC n p X=M at *
  generalize smC v s=S at *
  rw [c7] at l0
  simp +contextual -implicitDefEqProofs (disch:=try exact X0d) only [↓reduceIte,go_sem,s_Z9,j_Z9_0,j_Z9_2,h1,l0,l11,Qaf,kco,t5]
 rw [if_neg c7]
 by_cases c12':s.kind=12
 ·rw [if_pos c12']
  generalize Ql7 n p=q at *
  have hM1:=hM q.2
  have t1:=L q.1;have t2:=OK q.1;have t3:=NO q.1;have t4:=RB q.1;have t5:=MT q.1
  clear kel kcl kid kst' kso kco l4 l10 l1 L OK NO RB MT hM hR hw2
  generalize tmC q.1=T at *
  generalize mkC n q.2 X=M' at *
  generalize mkC n p X=M at *
  generalize smC v s=S at *
  rw [c12'] at l0
  simp +contextual -implicitDefEqProofs (disch:=try exact X0d) only [↓reduceIte,go_sem,s_Z9,j_Z9_0,j_Z9_2,h1,l0,kli,t5]
 rw [if_neg c12']
 have e1:tmC (.mk 7 0 [])=[.int .i64 7,.int .i64 0,.nils]:=rfl
 rw [e1]
 have hM1:=hM p
 clear kel kcl kid kst' kso kco kli l4 l10 l1 L OK NO RB MT hM hR hw2
 generalize mkC n p X=M at *
 generalize smC v s=S at *
 generalize s.kind=kind at *
 simp +contextual -implicitDefEqProofs (disch:=try exact X0d) only [↓reduceIte,go_sem,s_Z9,j_Z9_0,j_Z9_2,h1,l0,c11,c12,c3,c4,c5,c11',c6,c88,c89,c10,c7,c12']
end
section
variable {α:Type}
def Wae (x:Cp α):List UInt8:=match x.list.l.getLast? with
 |none=>[]
 |some s=>if s.kind=13 then s.name else []
def Qb9 (c:Co α):List UInt8:=match c.list.l.getLast? with
 |none=>[]
 |some x=>Wae x
variable (r0:Pln→Sl α→List Int×Pln) (n:Nms)
def Qbk:Pln→List (Sm α)→List Trm×Pln
 |p,[]=>([],p)
 |p,s::r=>((Qcy r0 n p s).1::(Qbk (Qcy r0 n p s).2 r).1,(Qbk (Qcy r0 n p s).2 r).2)
def Qcf:Pln→List (Cp α)→List Stp×Pln
 |p,[]=>([],p)
 |p,x::r=>(⟨x.comb,(Qbk r0 n p x.list.l).1⟩::(Qcf (Qbk r0 n p x.list.l).2 r).1,(Qcf (Qbk r0 n p x.list.l).2 r).2)
def addR (p:Pln) (ss:List Stp) (ps:List UInt8):Pln:={ p with rows:=p.rows++[⟨p.steps,ss,ps⟩],steps:=p.steps+ss.length }
def rowP (p:Pln) (c:Co α):Int×Pln:=((Qcf r0 n p c.list.l).2.rows.length,addR (Qcf r0 n p c.list.l).2 (Qcf r0 n p c.list.l).1 (Qb9 c))
def Qde:Pln→List (Co α)→List Int×Pln
 |p,[]=>([],p)
 |p,c::r=>((rowP r0 n p c).1::(Qde (rowP r0 n p c).2 r).1,(Qde (rowP r0 n p c).2 r).2)
end
section
variable {α:Type}
def wX (w0:Sl α→Nat):List (Sm α)→Nat
 |[]=>0
 |y::r=>4+w0 y.of+wX w0 r
def wC (w0:Sl α→Nat):List (Cp α)→Nat
 |[]=>0
 |x::r=>1+wX w0 x.list.l+wC w0 r
def wR (w0:Sl α→Nat) (c:Co α):Nat:=1+wC w0 c.list.l
def wL (w0:Sl α→Nat):List (Co α)→Nat
 |[]=>0
 |c::r=>wR w0 c+wL w0 r
variable {w0:Sl α→Nat}
theorem Qt3:∀l:List (Sm α),l.length≤wX w0 l
 |[]=>Xa1 _
 |y::r=>by have:=Qt3 r;rw [Xal];unfold wX;omega
theorem Qt4:∀l:List (Cp α),l.length≤wC w0 l
 |[]=>Xa1 _
 |y::r=>by have:=Qt4 r;rw [Xal];unfold wC;omega
theorem Waf:∀l:List (Co α),l.length≤wL w0 l
 |[]=>Xa1 _
 |y::r=>by have:=Waf r;rw [Xal];unfold wL wR;omega
theorem Wag:∀ {l:List (Cp α)} {x:Cp α},x∈l→wX w0 x.list.l≤wC w0 l
 |[],x,h=>by cases h
 |y::r,x,h=>by
  unfold wC
  rcases Xay.1 h with rfl|h
  ·omega
  ·have:=Wag h;omega
end
section
variable {α:Type} {v:α→V} (hv:∀n x,V.rb n (v x)=true)
include hv
theorem Wdu (c:Co α) (hc:c.list.l.length≤1000000000) (hx:∀x∈c.list.l,x.list.l.length≤1000000000) (U:Objs) (hσ:Wf U):E cx 75 [.agg (coC v c)] U=some (.str (Qb9 c),U):=by
 refine Qbe Qbb ?_ (by simp only [Qag,Qa0,Qc1 hv];rfl) rfl U hσ
 have h1:boxV [] (.agg (coC v c))=some (.ptr 0 0,[.cells (coC v c)]):=Qau Qv5 Qj6
 have l0:eL [.cells (coC v c)] false 1 (.ptr 0 0)=some (vSl (vCp v) c.list):=by
  show Option.map V.ng (some (vSl (vCp v) c.list))=_
  rw [Qal,Qaf]
 rw [e_Z1k]
 unfold Qb9
 by_cases c1:c.list.l=[]
 ·have e1:(c.list.l.length:Int)=0:=by rw [c1];rfl
  rw [show c.list.l.getLast? = none by rw [c1];rfl]
  generalize coC v c=C at *
  simp +contextual -implicitDefEqProofs (disch:=try exact X0d) only [↓reduceIte,go_sem,s_Z1k,h1,l0,Qah,e1]
 ·have hpos:0<c.list.l.length:=Xcr.2 c1
  have e1:¬(c.list.l.length:Int)=0:=by omega
  obtain ⟨x,hlx⟩:∃x,c.list.l.getLast? = some x:=by
   cases h:c.list.l.getLast? with
   |none=>exact absurd (Xcj.1 h) c1
   |some x=>exact ⟨x,rfl⟩
  have hx1:c.list.l[((c.list.l.length:Int) - 1).toNat]? = some x:=by
   rw [Xck] at hlx
   rw [show ((c.list.l.length:Int) - 1).toNat=c.list.l.length - 1 by omega]
   exact hlx
  have hxl:=hx x (Xat hx1)
  have i1:eI 2 (.int .i64 ((c.list.l.length:Int) - 1)) (vSl (vCp v) c.list)=some (.eptr (cpC v x) 0):=Qcv (f:=vCp v) hx1 X0o rfl
  have l1:eL [.cells (coC v c)] false 1 (.eptr (cpC v x) 1)=some (vSl (vSm v) x.list):=by
   show Option.map V.ng (some (vSl (vSm v) x.list))=_
   rw [Qal,Qaf]
  rw [hlx]
  show _=some (V.str (Wae x),_)
  unfold Wae
  by_cases c2:x.list.l=[]
  ·have e2:(x.list.l.length:Int)=0:=by rw [c2];rfl
   rw [show x.list.l.getLast? = none by rw [c2];rfl]
   generalize coC v c=C at *
   generalize cpC v x=Y at *
   simp +contextual -implicitDefEqProofs (disch:=try exact X0d) only [↓reduceIte,go_sem,s_Z1k,h1,l0,Qah,e1,i1,l1,e2,Qaf]
  ·have hpos2:0<x.list.l.length:=Xcr.2 c2
   have e2:¬(x.list.l.length:Int)=0:=by omega
   obtain ⟨s,hls⟩:∃s,x.list.l.getLast? = some s:=by
    cases h:x.list.l.getLast? with
    |none=>exact absurd (Xcj.1 h) c2
    |some s=>exact ⟨s,rfl⟩
   have hs1:x.list.l[((x.list.l.length:Int) - 1).toNat]? = some s:=by
    rw [Xck] at hls
    rw [show ((x.list.l.length:Int) - 1).toNat=x.list.l.length - 1 by omega]
    exact hls
   have i2:eI 11 (.int .i64 ((x.list.l.length:Int) - 1)) (vSl (vSm v) x.list)=some (.eptr (smC v s) 0):=Qcv (f:=vSm v) hs1 X0o rfl
   have l2:eL [.cells (coC v c)] false 1 (.eptr (smC v s) 0)=some (.int .i64 s.kind):=rfl
   have l3:eL [.cells (coC v c)] false 1 (.eptr (smC v s) 3)=some (.str s.name):=rfl
   rw [hls]
   simp only
   generalize coC v c=C at *
   generalize cpC v x=Y at *
   generalize smC v s=S at *
   by_cases c3:s.kind=13
   ·rw [if_pos c3]
    rw [c3] at l2
    simp +contextual -implicitDefEqProofs (disch:=try exact X0d) only [↓reduceIte,go_sem,s_Z1k,h1,l0,Qah,e1,i1,l1,e2,Qaf,i2,l2,l3]
   ·rw [if_neg c3]
    simp +contextual -implicitDefEqProofs (disch:=try exact X0d) only [↓reduceIte,go_sem,s_Z1k,h1,l0,Qah,e1,i1,l1,e2,Qaf,i2,l2,l3,c3]
end
section
variable {α:Type} {v:α→V} (hv:∀n x,V.rb n (v x)=true) {n:Nms} (hn:NmB n) {r0:Pln→Sl α→List Int×Pln} {w0:Sl α→Nat}
def rwG (f:Int) (ss:List Stp) (ps:List UInt8):List V:=[.int .i64 f,vG vStp 2 ss,.str ps]
def stG (comb:Int) (ts:List Trm):List V:=[.int .i64 comb,vG vT 3 ts]
theorem Qez {k:Nat} {f:Int} {ss:List Stp} {ps:List UInt8} : V.rbs k (rwG f ss ps)=true:=by
 simp only [rwG,Qag,Qdh,Qju,Qby,Qdv (fun s=>We4 (s:=s)),Xau]
theorem Qlo {k:Nat} {c:Int} {ts:List Trm} : V.rbs k (stG c ts)=true:=by
 simp only [stG,Qag,Qdh,Qby,Qdv Qhz,Xau]
variable (hR:Qer v n r0 w0) {X:V} (hX:V.rb 0 X=true)
include hv hn hR hX
theorem Wah (c:Co α) (i:Int) (hi:0≤i∧i≤800000) (ss:List Stp) (hss:ss.length≤800000) (ps:List UInt8) (x:Cp α) (hxl:x.list.l.length≤800000) (r1:Rk):∀(r q:List (Sm α)) (p:Pln) (m:Nat) (ts:List Trm),x.list.l=q++r→Pz p m→m+wX w0 r≤800000→ts.length+r.length≤800000→
  Pz (Qbk r0 n p r).2 (m+wX w0 r)∧
  l_Z5_1 (Mi cx) 1 3 r1 5 [.ptr 0 0,.ptr 2 0,.ptr 4 0,vSl (vCp v) c.list,.int .i64 c.list.l.length,.int .i64 i,vSl (vSm v) x.list,.int .i64 x.list.l.length,.int .i64 q.length] [.cells (mkC n p X),.cells (coC v c),.cells (rwG 0 ss ps),.cells (cpC v x),.cells (stG x.comb ts)]=
   r1 [.ptr 0 0,.ptr 2 0,vSl (vCp v) c.list,.int .i64 c.list.l.length,.int .i64 (i+1)] [.cells (mkC n (Qbk r0 n p r).2 X),.cells (coC v c),.cells (rwG 0 (ss++[⟨x.comb,ts++(Qbk r0 n p r).1⟩]) ps)]
 |[],q,p,m,ts,hq,hp,hm,ht=>by
  have hlen:x.list.l.length=q.length:=by rw [hq];simp
  refine ⟨hp,?_⟩
  have e1:¬(q.length:Int)<x.list.l.length:=by omega
  have f2:∀k U,fz k U fzD (vSl (vCp v) c.list)=some (vSl (vCp v) c.list):=fun k U=>Qar (Qaj (Qe8 hv))
  have cl5:Cl0 [.cells (mkC n p X),.cells (coC v c),.cells (rwG 0 ss ps),.cells (cpC v x),.cells (stG x.comb ts)]:=Qab (Qay hX) (Qab (Qc1 hv) (Qab Qez (Qab (Qj0 hv) (Qab Qlo Qaq))))
  have c5:cuO 5 [.cells (mkC n p X),.cells (coC v c),.cells (rwG 0 ss ps),.cells (cpC v x),.cells (stG x.comb ts)]=some [.cells (mkC n p X),.cells (coC v c),.cells (rwG 0 ss ps),.cells (cpC v x),.cells (stG x.comb ts)]:=Qcz (Qa9 cl5)
  have ld1:Qbt [.cells (mkC n p X),.cells (coC v c),.cells (rwG 0 ss ps),.cells (cpC v x),.cells (stG x.comb ts)] (.ptr 2 1)=some (vG vStp 2 ss,[.cells (mkC n p X),.cells (coC v c),.cells ((rwG 0 ss ps).set 1 (vSl vStp (slo ss))),.cells (cpC v x),.cells (stG x.comb ts)]):=Qfr (B:=[_,_]) rfl rfl
  have ld2:eL [.cells (mkC n p X),.cells (coC v c),.cells ((rwG 0 ss ps).set 1 (vSl vStp (slo ss))),.cells (cpC v x),.cells (stG x.comb ts)] true 2 (.ptr 4 0)=some (.agg (stC ⟨x.comb,ts⟩)):=by
   show some (V.agg [(V.int .i64 x.comb).ng,(vG vT 3 ts).ng])=_
   rw [n_vG];rfl
  have b1:Qam true 2 1 (.agg [.int .i64 0,.nils]) [(0,.agg (stC ⟨x.comb,ts⟩))]=some (.sl [.agg (stC ⟨x.comb,ts⟩)] .fx):=Qhi rfl Wdo
  have a1:∀U,appV false true 2 32 U (vG vStp 2 ss) (.sl [.agg (stC ⟨x.comb,ts⟩)] .no)=some (vG vStp 2 (ss++[⟨x.comb,ts⟩])):=fun U=>by
   refine Qfh (f:=vStp) (x:=⟨x.comb,ts⟩) (fun _=>rfl) (fun _=>Wdo) (fun _=>rfl) ?_
   unfold Qbj
   omega
  have s1:stV [.cells (mkC n p X),.cells (coC v c),.cells ((rwG 0 ss ps).set 1 (vSl vStp (slo ss))),.cells (cpC v x),.cells (stG x.comb ts)] 1 (.ptr 2 1) (vSl vStp (slo (ss++[⟨x.comb,ts⟩]))) (vG vStp 2 (ss++[⟨x.comb,ts⟩]))=some (.undef,[.cells (mkC n p X),.cells (coC v c),.cells (rwG 0 (ss++[⟨x.comb,ts⟩]) ps),.cells (cpC v x),.cells (stG x.comb ts)]):=Qrz (B:=[_,_]) (cs:=(rwG 0 ss ps).set 1 (vSl vStp (slo ss))) rfl (show 1<3 by decide)
  have cl3:Cl0 [.cells (mkC n p X),.cells (coC v c),.cells (rwG 0 (ss++[⟨x.comb,ts⟩]) ps)]:=Qab (Qay hX) (Qab (Qc1 hv) (Qab Qez Qaq))
  have c3:∀H:Objs,cuO 3 (.cells (mkC n p X) :: .cells (coC v c) :: .cells (rwG 0 (ss++[⟨x.comb,ts⟩]) ps)::H)=some [.cells (mkC n p X),.cells (coC v c),.cells (rwG 0 (ss++[⟨x.comb,ts⟩]) ps)]:=fun H=>Qew (U:=[_,_,_]) (H:=H) (Qa9 cl3)
  rw [u_Z5_1]
  unfold Qbk
  rw [Xbe]
  clear hR
  generalize (rwG 0 ss ps).set 1 (vSl vStp (slo ss))=R1 at *
  generalize rwG 0 (ss++[⟨x.comb,ts⟩]) ps=R2 at *
  generalize rwG 0 ss ps=R0 at *
  generalize hS:ss++[(⟨x.comb,ts⟩:Stp)]=SS at *
  generalize stC ⟨x.comb,ts⟩=SC at *
  generalize stG x.comb ts=SG at *
  generalize mkC n p X=M at *
  generalize coC v c=C at *
  generalize cpC v x=Y at *
  simp +contextual -implicitDefEqProofs (disch:=try exact X0d) only [↓reduceIte,go_sem,b_Z5_1,e1,f2,c5,ld1,ld2,b1,a1,s1,c3,Qaf,n_vG]
 |s::r,q,p,m,ts,hq,hp,hm,ht=>by
  have hlen:x.list.l.length=q.length+r.length+1:=by rw [hq];simp;omega
  have hm':m+(4+w0 s.of)+wX w0 r≤800000:=by
   have:wX w0 (s::r)=4+w0 s.of+wX w0 r:=rfl
   omega
  have hPr:=(hR p s.of m .nils rfl hp X0o).2.1
  have hPt:Pz (Qcy r0 n p s).2 (m+(4+w0 s.of)):=Pz.term hp hPr
  obtain ⟨ih1,ih2⟩:=Wah c i hi ss hss ps x hxl r1 r (q++[s]) (Qcy r0 n p s).2 (m+(4+w0 s.of)) (ts++[(Qcy r0 n p s).1]) (by rw [hq];simp) hPt hm' (by rw [Xas];have h1:[(Qcy r0 n p s).1].length=1:=rfl;rw [Xal] at ht;omega)
  rw [show ((q++[s]).length:Int)=q.length+1 by simp] at ih2
  refine ⟨?_,?_⟩
  ·have e:m+wX w0 (s::r)=m+(4+w0 s.of)+wX w0 r:=by
    show m+(4+w0 s.of+wX w0 r)=_
    omega
   rw [e]
   exact ih1
  have eT:(Qbk r0 n p (s::r)).2=(Qbk r0 n (Qcy r0 n p s).2 r).2:=rfl
  have eT1:ts++(Qbk r0 n p (s::r)).1=ts++[(Qcy r0 n p s).1]++(Qbk r0 n (Qcy r0 n p s).2 r).1:=by
   rw [Xa2];rfl
  rw [eT,eT1,←ih2,u_Z5_1]
  clear ih1 ih2 eT eT1
  have e1:(q.length:Int)<x.list.l.length:=by omega
  have i1:eI 11 (.int .i64 q.length) (vSl (vSm v) x.list)=some (.eptr (smC v s) 0):=Qax (f:=vSm v) hq rfl rfl
  have i2:∀U,eL U true 11 (.eptr (smC v s) 0)=some (.agg (smC v s)):=fun U=>Qc3 rfl Qc6
  have i3:stV [.cells (mkC n p X),.cells (coC v c),.cells (rwG 0 ss ps),.cells (cpC v x),.cells (stG x.comb ts),.cells [.int .i64 0,.int .i64 0,.str [],.str [],.int .i64 0,.str [],.bool false,.int .i64 0,.int .i64 0,.int .i64 0,.nils]] 11 (.ptr 5 0) (.agg (smC v s)) (.agg (smC v s))=some (.undef,[.cells (mkC n p X),.cells (coC v c),.cells (rwG 0 ss ps),.cells (cpC v x),.cells (stG x.comb ts),.cells (smC v s)]):=Qc7 rfl rfl rfl Qf2 Qc6
  have ld1:Qbt [.cells (mkC n p X),.cells (coC v c),.cells (rwG 0 ss ps),.cells (cpC v x),.cells (stG x.comb ts),.cells (smC v s)] (.ptr 4 1)=some (vG vT 3 ts,[.cells (mkC n p X),.cells (coC v c),.cells (rwG 0 ss ps),.cells (cpC v x),.cells ((stG x.comb ts).set 1 (vSl vT (slo ts))),.cells (smC v s)]):=Qfr (B:=[_,_,_,_]) rfl rfl
  have ld2:eL [.cells (mkC n p X),.cells (coC v c),.cells (rwG 0 ss ps),.cells (cpC v x),.cells ((stG x.comb ts).set 1 (vSl vT (slo ts))),.cells (smC v s)] true 11 (.ptr 5 0)=some (.agg (smC v s)):=Qbf rfl rfl Qc6
  have lk:Qgd [Qdd [.cells (mkC n p X),.cells (coC v c),.cells (rwG 0 ss ps),.cells (cpC v x),.cells (stG x.comb ts),.cells (smC v s)] (.ptr 4 1)] [.cells (mkC n p X),.cells (coC v c),.cells (rwG 0 ss ps),.cells (cpC v x),.cells ((stG x.comb ts).set 1 (vSl vT (slo ts))),.cells (smC v s)]=some [.cells (mkC n p X),.cells (coC v c),.cells (rwG 0 ss ps),.cells (cpC v x),.cells ((stG x.comb ts).set 1 (vK vT ts)),.cells (smC v s)]:=Wab (sz:=3) (B:=[_,_,_,_]) rfl rfl
  have hK:V.rbs 0 ((stG x.comb ts).set 1 (vK vT ts))=true:=by
   show V.rbs 0 [V.int .i64 x.comb,vK vT ts]=true
   simp only [Qag,Qdh,Qby,Wdt Qhz,Xau]
  have k1:=Wl0 hv hn hR hX s hp X0o [.cells (coC v c),.cells (rwG 0 ss ps),.cells (cpC v x),.cells ((stG x.comb ts).set 1 (vK vT ts)),.cells (smC v s)] (Qab (Qc1 hv) (Qab Qez (Qab (Qj0 hv) (Qab hK (Qab (Qbd hv) Qaq)))))
  have b1:∀t:Trm,Qam true 3 1 (.agg [.int .i64 0,.int .i64 0,.nils]) [(0,.agg (tmC t))]=some (.sl [.agg (tmC t)] .fx):=fun t=>Qhi Qbz Qd3
  have a1:∀U t,appV false true 3 40 U (vG vT 3 ts) (.sl [.agg (tmC t)] .no)=some (vG vT 3 (ts++[t])):=fun U t=>Qt2 X0o
  generalize Qcy r0 n p s=q1 at *
  have op:Qei [Qdd [.cells (mkC n p X),.cells (coC v c),.cells (rwG 0 ss ps),.cells (cpC v x),.cells (stG x.comb ts),.cells (smC v s)] (.ptr 4 1)] [.cells (mkC n p X),.cells (coC v c),.cells (rwG 0 ss ps),.cells (cpC v x),.cells ((stG x.comb ts).set 1 (vSl vT (slo ts))),.cells (smC v s)] [.cells (mkC n q1.2 X),.cells (coC v c),.cells (rwG 0 ss ps),.cells (cpC v x),.cells ((stG x.comb ts).set 1 (vK vT ts)),.cells (smC v s)]=some [.cells (mkC n q1.2 X),.cells (coC v c),.cells (rwG 0 ss ps),.cells (cpC v x),.cells ((stG x.comb ts).set 1 (vSl vT (slo ts))),.cells (smC v s)]:=Wh6 (sz:=3) (B:=[_,_,_,_]) (B':=[_,_,_,_]) rfl rfl rfl
  have s1:stV [.cells (mkC n q1.2 X),.cells (coC v c),.cells (rwG 0 ss ps),.cells (cpC v x),.cells ((stG x.comb ts).set 1 (vSl vT (slo ts))),.cells (smC v s)] 1 (.ptr 4 1) (vSl vT (slo (ts++[q1.1]))) (vG vT 3 (ts++[q1.1]))=some (.undef,[.cells (mkC n q1.2 X),.cells (coC v c),.cells (rwG 0 ss ps),.cells (cpC v x),.cells (stG x.comb (ts++[q1.1])),.cells (smC v s)]):=Qrz (B:=[_,_,_,_]) (cs:=(stG x.comb ts).set 1 (vSl vT (slo ts))) rfl (show 1<2 by decide)
  have cl5:Cl0 [.cells (mkC n q1.2 X),.cells (coC v c),.cells (rwG 0 ss ps),.cells (cpC v x),.cells (stG x.comb (ts++[q1.1]))]:=Qab (Qay hX) (Qab (Qc1 hv) (Qab Qez (Qab (Qj0 hv) (Qab Qlo Qaq))))
  have c5:cuO 5 [.cells (mkC n q1.2 X),.cells (coC v c),.cells (rwG 0 ss ps),.cells (cpC v x),.cells (stG x.comb (ts++[q1.1])),.cells (smC v s)]=some [.cells (mkC n q1.2 X),.cells (coC v c),.cells (rwG 0 ss ps),.cells (cpC v x),.cells (stG x.comb (ts++[q1.1]))]:=Qew (U:=[_,_,_,_,_]) (H:=[_]) (Qa9 cl5)
  have f2:∀k U,fz k U fzD (vSl (vCp v) c.list)=some (vSl (vCp v) c.list):=fun k U=>Qar (Qaj (Qe8 hv))
  have f3:∀k U,fz k U fzD (vSl (vSm v) x.list)=some (vSl (vSm v) x.list):=fun k U=>Qar (Qaj (Qjw hv))
  have b1':=b1 q1.1
  have a1':=fun U=>a1 U q1.1
  clear hR b1 a1 hPt
  generalize (stG x.comb ts).set 1 (vSl vT (slo ts))=SN at *
  generalize (stG x.comb ts).set 1 (vK vT ts)=SK at *
  generalize stG x.comb (ts++[q1.1])=SG2 at *
  generalize stG x.comb ts=SG at *
  generalize rwG 0 ss ps=R0 at *
  generalize mkC n q1.2 X=M2 at *
  generalize mkC n p X=M at *
  generalize coC v c=C at *
  generalize cpC v x=Y at *
  generalize smC v s=S at *
  generalize tmC q1.1=T at *
  generalize ts++[q1.1]=TS at *
  simp +contextual -implicitDefEqProofs (disch:=try exact X0d) only [↓reduceIte,go_sem,b_Z5_1,e1,i1,i2,i3,ld1,ld2,lk,k1,op,b1',a1',s1,c5,f2,f3,Qaf,n_vG]
end
section
variable {α:Type} {v:α→V} (hv:∀n x,V.rb n (v x)=true) {n:Nms} (hn:NmB n) {r0:Pln→Sl α→List Int×Pln} {w0:Sl α→Nat}
theorem Qjh:∀(l:List (Cp α)) (p:Pln),(Qcf r0 n p l).1.length=l.length
 |[],p=>rfl
 |x::r,p=>by
  show (Qcf r0 n (Qbk r0 n p x.list.l).2 r).1.length+1=r.length+1
  rw [Qjh r]
theorem Pz.addR {p:Pln} {m k:Nat} {ss:List Stp} {ps:List UInt8} (h:Pz p m) (hs:ss.length≤k) (hk:1≤k):Pz (addR p ss ps) (m+k):=by
 obtain ⟨h1,h2,h3,h4,h5⟩:=h
 refine ⟨?_,?_,?_,?_,?_⟩
 ·show p.atoms.length≤_;omega
 ·show (p.rows++[_]).length≤_
  rw [Xas];show p.rows.length+1≤_;omega
 ·show p.ctrs.length≤_;omega
 ·show 0≤p.steps+_;omega
 ·show p.steps+_≤_;omega
variable (hR:Qer v n r0 w0) {X:V} (hX:V.rb 0 X=true)
include hv hn hR hX
theorem Wfa (c:Co α) (hcl:c.list.l.length≤800000) (ps:List UInt8) (hw:∀x∈c.list.l,x.list.l.length≤800000):∀(r q:List (Cp α)) (p:Pln) (m:Nat) (ss:List Stp),c.list.l=q++r→Pz p m→m+wC w0 r≤800000→ss.length=q.length→
  ∃m',Pz (Qcf r0 n p r).2 m'∧m'+r.length≤m+wC w0 r∧
  l_Z5_0 (Mi cx) 1 3 [.ptr 0 0,.ptr 2 0,vSl (vCp v) c.list,.int .i64 c.list.l.length,.int .i64 q.length] [.cells (mkC n p X),.cells (coC v c),.cells (rwG 0 ss ps)]=
   some (.int .i64 (Qcf r0 n p r).2.rows.length,[.cells (mkC n (addR (Qcf r0 n p r).2 (ss++(Qcf r0 n p r).1) ps) X)])
 |[],q,p,m,ss,hq,hp,hm,hs=>by
  have hlen:c.list.l.length=q.length:=by rw [hq];simp
  refine ⟨m,hp,Xai _,?_⟩
  show _=some (V.int .i64 p.rows.length,[O.cells (mkC n (addR p (ss++[]) ps) X)])
  rw [Xbe]
  obtain ⟨p1,p2,p3,p4,p5⟩:=hp
  have hm0:m≤800000:=by omega
  have e1:¬(q.length:Int)<c.list.l.length:=by omega
  have cl3:∀p,Cl0 [.cells (mkC n p X),.cells (coC v c),.cells (rwG 0 ss ps)]:=fun p=>Qab (Qay hX) (Qab (Qc1 hv) (Qab Qez Qaq))
  have c3:cuO 3 [.cells (mkC n p X),.cells (coC v c),.cells (rwG 0 ss ps)]=some [.cells (mkC n p X),.cells (coC v c),.cells (rwG 0 ss ps)]:=Qcz (Qa9 (cl3 p))
  have l8:eL [.cells (mkC n p X),.cells (coC v c),.cells (rwG 0 ss ps)] false 1 (.ptr 0 8)=some (.int .i64 p.steps):=rfl
  have s0:stV [.cells (mkC n p X),.cells (coC v c),.cells (rwG 0 ss ps)] 1 (.ptr 2 0) (.int .i64 p.steps) (.int .i64 p.steps)=some (.undef,[.cells (mkC n p X),.cells (coC v c),.cells (rwG p.steps ss ps)]):=rfl
  have l8':eL [.cells (mkC n p X),.cells (coC v c),.cells (rwG p.steps ss ps)] false 1 (.ptr 0 8)=some (.int .i64 p.steps):=rfl
  have l1:eL [.cells (mkC n p X),.cells (coC v c),.cells (rwG p.steps ss ps)] false 1 (.ptr 2 1)=some (vSl vStp (slo ss)):=by
   show Option.map V.ng (some (vG vStp 2 ss))=_
   rw [Qal,n_vG]
  have s8:stV [.cells (mkC n p X),.cells (coC v c),.cells (rwG p.steps ss ps)] 1 (.ptr 0 8) (.int .i64 (p.steps+ss.length)) (.int .i64 (p.steps+ss.length))=some (.undef,[.cells (mkC n { p with steps:=p.steps+ss.length } X),.cells (coC v c),.cells (rwG p.steps ss ps)]):=rfl
  have ld5:Qbt [.cells (mkC n { p with steps:=p.steps+ss.length } X),.cells (coC v c),.cells (rwG p.steps ss ps)] (.ptr 0 5)=some (vG vRw 3 p.rows,[.cells ((mkC n { p with steps:=p.steps+ss.length } X).set 5 (vSl vRw (slo p.rows))),.cells (coC v c),.cells (rwG p.steps ss ps)]):=Qg7 rfl
  have lr:∀(O1 O2:O),eL [O1,O2,.cells (rwG p.steps ss ps)] true 3 (.ptr 2 0)=some (.agg (rwC ⟨p.steps,ss,ps⟩)):=fun O1 O2=>by
   show some (V.agg [(V.int .i64 p.steps).ng,(vG vStp 2 ss).ng,(V.str ps).ng])=_
   rw [n_vG];rfl
  have b1:Qam true 3 1 (.agg [.int .i64 0,.nils,.str []]) [(0,.agg (rwC ⟨p.steps,ss,ps⟩))]=some (.sl [.agg (rwC ⟨p.steps,ss,ps⟩)] .fx):=Qhi rfl Qv9
  have a1:∀U,appV false true 3 48 U (vG vRw 3 p.rows) (.sl [.agg (rwC ⟨p.steps,ss,ps⟩)] .no)=some (vG vRw 3 (p.rows++[⟨p.steps,ss,ps⟩])):=fun U=>by
   refine Qfh (f:=vRw) (x:=⟨p.steps,ss,ps⟩) (fun _=>rfl) (fun _=>Qv9) (fun _=>rfl) ?_
   unfold Qbj
   omega
  have s5:stV [.cells ((mkC n { p with steps:=p.steps+ss.length } X).set 5 (vSl vRw (slo p.rows))),.cells (coC v c),.cells (rwG p.steps ss ps)] 1 (.ptr 0 5) (vSl vRw (slo (p.rows++[⟨p.steps,ss,ps⟩]))) (vG vRw 3 (p.rows++[⟨p.steps,ss,ps⟩]))=some (.undef,[.cells (mkC n (addR p ss ps) X),.cells (coC v c),.cells (rwG p.steps ss ps)]):=Qwa (show 5<9 by decide)
  have l5:eL [.cells (mkC n (addR p ss ps) X),.cells (coC v c),.cells (rwG p.steps ss ps)] false 1 (.ptr 0 5)=some (vSl vRw (slo (p.rows++[⟨p.steps,ss,ps⟩]))):=by
   show Option.map V.ng (some (vG vRw 3 (p.rows++[⟨p.steps,ss,ps⟩])))=_
   rw [Qal,n_vG]
  have e2:(slo (p.rows++[(⟨p.steps,ss,ps⟩:Rw)])).l.length=p.rows.length+1:=by rw [Qfg,Xas];rfl
  have e3:((p.rows.length+1:Nat):Int)=(p.rows.length:Int)+1:=by omega
  have e4:(slo ss).l.length=ss.length:=by rw [Qfg]
  have hM:V.rbs 1 (mkC n (addR p ss ps) X)=true:=rbs0 (Qay hX)
  rw [u_Z5_0]
  clear hR
  generalize mkC n (addR p ss ps) X=M3 at *
  generalize (mkC n { p with steps:=p.steps+ss.length } X).set 5 (vSl vRw (slo p.rows))=M2 at *
  generalize mkC n { p with steps:=p.steps+ss.length } X=M1 at *
  generalize mkC n p X=M at *
  generalize coC v c=C at *
  generalize rwC ⟨p.steps,ss,ps⟩=RC at *
  generalize hRS:p.rows++[(⟨p.steps,ss,ps⟩:Rw)]=RS at *
  generalize rwG p.steps ss ps=R1 at *
  generalize rwG 0 ss ps=R0 at *
  generalize p.steps=st at *
  simp +contextual -implicitDefEqProofs (disch:=try exact X0d) only [↓reduceIte,go_sem,b_Z5_0,e1,c3,l8,s0,l8',l1,s8,ld5,lr,b1,a1,s5,l5,e2,e3,e4,Qaf,n_vG,Qah,Xch]
 |x::r,q,p,m,ss,hq,hp,hm,hs=>by
  have hlen:c.list.l.length=q.length+r.length+1:=by rw [hq];simp;omega
  have hm':m+(1+wX w0 x.list.l+wC w0 r)≤800000:=hm
  have hxl:=hw x (by rw [hq];simp)
  obtain ⟨hT,hrow⟩:=Wah hv hn hR hX c q.length X0o ss X0o ps x hxl (l_Z5_0 (Mi cx) 1 3) x.list.l [] p m [] rfl hp X0o (by simp only [Xa9];omega)
  obtain ⟨m',h1,h2,h3⟩:=Wfa c hcl ps hw r (q++[x]) (Qbk r0 n p x.list.l).2 (m+wX w0 x.list.l) (ss++[⟨x.comb,[]++(Qbk r0 n p x.list.l).1⟩]) (by rw [hq];simp) hT X0o (by simp;omega)
  rw [show ((q++[x]).length:Int)=q.length+1 by simp] at h3
  refine ⟨m',h1,?_,?_⟩
  ·show m'+(r.length+1)≤m+(1+wX w0 x.list.l+wC w0 r)
   omega
  have eP:(Qcf r0 n p (x::r)).2=(Qcf r0 n (Qbk r0 n p x.list.l).2 r).2:=rfl
  have eS:ss++(Qcf r0 n p (x::r)).1=ss++[⟨x.comb,[]++(Qbk r0 n p x.list.l).1⟩]++(Qcf r0 n (Qbk r0 n p x.list.l).2 r).1:=by
   rw [Xa2];rfl
  rw [eP,eS,←h3,←hrow,u_Z5_0]
  clear h1 h2 h3 eP eS hT hrow
  have hrow':(([]:List (Sm α)).length:Int)=0:=rfl
  rw [hrow']
  have e1:(q.length:Int)<c.list.l.length:=by omega
  have i1:eI 2 (.int .i64 q.length) (vSl (vCp v) c.list)=some (.eptr (cpC v x) 0):=Qax (f:=vCp v) hq rfl rfl
  have i2:∀U,eL U true 2 (.eptr (cpC v x) 0)=some (.agg (cpC v x)):=fun U=>Qc3 rfl Qv3
  have y1:(cpC v x).length=2:=rfl
  have y2:Qan (cpC v x)=true:=Whx
  have y3:(cpC v x).map V.ng=cpC v x:=Qv3
  have l0:∀(O1 O2 O3:O) (H:Objs),eL (O1::O2::O3 :: .cells (cpC v x)::H) false 1 (.ptr 3 0)=some (.int .i64 x.comb):=fun O1 O2 O3 H=>rfl
  have l1:∀(O1 O2 O3:O) (H:Objs),eL (O1::O2::O3 :: .cells (cpC v x)::H) false 1 (.ptr 3 1)=some (vSl (vSm v) x.list):=fun O1 O2 O3 H=>by
   show Option.map V.ng (some (vSl (vSm v) x.list))=_
   rw [Qal,Qaf]
  have s4:stV [.cells (mkC n p X),.cells (coC v c),.cells (rwG 0 ss ps),.cells (cpC v x),.cells [.int .i64 0,.nils]] 2 (.ptr 4 0) (.agg [.int .i64 x.comb,.nils]) (.agg [.int .i64 x.comb,.nils])=some (.undef,[.cells (mkC n p X),.cells (coC v c),.cells (rwG 0 ss ps),.cells (cpC v x),.cells (stG x.comb [])]):=Qc7 rfl rfl rfl rfl rfl
  have f2:∀k U,fz k U fzD (vSl (vCp v) c.list)=some (vSl (vCp v) c.list):=fun k U=>Qar (Qaj (Qe8 hv))
  have f3:∀k U,fz k U fzD (vSl (vSm v) x.list)=some (vSl (vSm v) x.list):=fun k U=>Qar (Qaj (Qjw hv))
  clear hR
  generalize stG x.comb []=SG at *
  generalize rwG 0 ss ps=R0 at *
  generalize mkC n p X=M at *
  generalize coC v c=C at *
  generalize cpC v x=Y at *
  simp +contextual -implicitDefEqProofs (disch:=try exact X0d) only [↓reduceIte,go_sem,b_Z5_0,e1,i1,i2,l0,l1,s4,f2,f3,Qaf,Qah]
theorem Wh7 {p:Pln} {m:Nat} (c:Co α) (hp:Pz p m) (hm:m+wR w0 c≤800000) (H:Objs) (hτ:Cl0 H):
  Pz (rowP r0 n p c).2 (m+wR w0 c)∧
  E cx 55 [.ptr 0 0,.agg (coC v c)] (.cells (mkC n p X)::H)=some (.int .i64 (rowP r0 n p c).1,.cells (mkC n (rowP r0 n p c).2 X)::H):=by
 have hw1:wR w0 c=1+wC w0 c.list.l:=rfl
 have hcl:=Qt4 (w0:=w0) c.list.l
 have hcx:∀x∈c.list.l,x.list.l.length≤800000:=fun x hx=>by
  have h1:=Wag (w0:=w0) hx
  have h2:=Qt3 (w0:=w0) x.list.l
  omega
 obtain ⟨m',h1,h2,h3⟩:=Wfa hv hn hR hX c X0o (Qb9 c) hcx c.list.l [] p m [] rfl hp X0o rfl
 refine ⟨?_,E_on ?_ (by simp only [Qag,Qa0,Qc1 hv];rfl) (Qay hX) (Qay hX) rfl H hτ⟩
 ·have h5:(Qcf r0 n p c.list.l).1.length=c.list.l.length:=Qjh _ _
  have h4:=h1.addR (ss:=(Qcf r0 n p c.list.l).1) (ps:=Qb9 c) (k:=c.list.l.length+1) X0o X0o
  exact h4.le X0o
 have h3':l_Z5_0 (Mi cx) 1 3 [.ptr 0 0,.ptr 2 0,vSl (vCp v) c.list,.int .i64 c.list.l.length,.int .i64 0] [.cells (mkC n p X),.cells (coC v c),.cells (rwG 0 [] (Qb9 c))]=some (.int .i64 (rowP r0 n p c).1,[.cells (mkC n (rowP r0 n p c).2 X)]):=h3
 have b1:boxV [.cells (mkC n p X)] (.agg (coC v c))=some (.ptr 1 0,[.cells (mkC n p X),.cells (coC v c)]):=Qau Qv5 Qj6
 have l1:∀(O1:O),eL [O1,.cells (coC v c)] true 1 (.ptr 1 0)=some (.agg (coC v c)):=fun O1=>Qbf rfl rfl Qj6
 have k1:=Wdu hv c X0o (fun x hx=>by have:=hcx x hx;omega) [.cells (mkC n p X),.cells (coC v c)] (Qa9 (Qab (Qay hX) (Qab (Qc1 hv) Qaq)))
 have s1:stV [.cells (mkC n p X),.cells (coC v c),.cells [.int .i64 0,.nils,.str []]] 3 (.ptr 2 0) (.agg [.int .i64 0,.nils,.str (Qb9 c)]) (.agg [.int .i64 0,.nils,.str (Qb9 c)])=some (.undef,[.cells (mkC n p X),.cells (coC v c),.cells (rwG 0 [] (Qb9 c))]):=Qc7 rfl rfl rfl rfl rfl
 have l0:∀(O1:O) (H:Objs),eL (O1 :: .cells (coC v c)::H) false 1 (.ptr 1 0)=some (vSl (vCp v) c.list):=fun O1 H=>by
  show Option.map V.ng (some (vSl (vCp v) c.list))=_
  rw [Qal,Qaf]
 have f2:∀k U,fz k U fzD (vSl (vCp v) c.list)=some (vSl (vCp v) c.list):=fun k U=>Qar (Qaj (Qe8 hv))
 clear h1 h2 h3 hR
 rw [e_Z5]
 generalize rowP r0 n p c=q at *
 generalize rwG 0 [] (Qb9 c)=R0 at *
 generalize mkC n q.2 X=M' at *
 generalize mkC n p X=M at *
 generalize coC v c=C at *
 generalize Qb9 c=ps at *
 simp +contextual -implicitDefEqProofs (disch:=try exact X0d) only [↓reduceIte,go_sem,s_Z5,b1,l1,k1,s1,l0,f2,Qaf,Qah,h3']
end
section
variable {α:Type} {v:α→V} (hv:∀n x,V.rb n (v x)=true) {n:Nms} (hn:NmB n) {r0:Pln→Sl α→List Int×Pln} {w0:Sl α→Nat}
variable (hR:Qer v n r0 w0) {X:V} (hX:V.rb 0 X=true)
include hv hn hR hX
theorem Qmw (s:Sl (Co α)) (hs:s.l.length≤800000):∀(r q:List (Co α)) (p:Pln) (m:Nat) (is:List Int),s.l=q++r→Pz p m→m+wL w0 r≤800000→is.length=q.length→
  Pz (Qde r0 n p r).2 (m+wL w0 r)∧
  l_Z6_0 (Mi cx) 1 1 [.ptr 0 0,vG (V.int .i64) 1 is,vSl (vCo v) s,.int .i64 s.l.length,.int .i64 q.length] [.cells (mkC n p X)]=
   some (vIs (is++(Qde r0 n p r).1),[.cells (mkC n (Qde r0 n p r).2 X)])
 |[],q,p,m,is,hq,hp,hm,hi=>by
  have hlen:s.l.length=q.length:=by rw [hq];simp
  refine ⟨hp,?_⟩
  show _=some (vIs (is++[]),[O.cells (mkC n p X)])
  rw [Xbe]
  have e1:¬(q.length:Int)<s.l.length:=by omega
  have hM:V.rbs 1 (mkC n p X)=true:=rbs0 (Qay hX)
  have f1:∀k U,fz k U fzD (vG (V.int .i64) 1 is)=some (vG (V.int .i64) 1 is):=fun k U=>Qar (Qdv fun _=>rfl)
  have o1:oK false (vG (V.int .i64) 1 is)=some (vIs is):=Qrw (keep:=false)
  have r1:V.rb 1 (vIs is)=true:=Qdp
  rw [u_Z6_0]
  clear hR
  generalize mkC n p X=M at *
  simp +contextual -implicitDefEqProofs (disch:=try exact X0d) only [↓reduceIte,go_sem,b_Z6_0,e1,f1,o1]
 |c::r,q,p,m,is,hq,hp,hm,hi=>by
  have hlen:s.l.length=q.length+r.length+1:=by rw [hq];simp;omega
  have hm':m+(wR w0 c+wL w0 r)≤800000:=hm
  have hz:Cl0 [.cells (coC v c)]:=Qab (Qc1 hv) Qaq
  obtain ⟨h1,h2⟩:=Wh7 hv hn hR hX c hp X0o [.cells (coC v c)] hz
  obtain ⟨h3,h4⟩:=Qmw s hs r (q++[c]) (rowP r0 n p c).2 (m+wR w0 c) (is++[(rowP r0 n p c).1]) (by rw [hq];simp) h1 X0o (by simp;omega)
  rw [show ((q++[c]).length:Int)=q.length+1 by simp] at h4
  refine ⟨?_,?_⟩
  ·have e:m+wL w0 (c::r)=m+wR w0 c+wL w0 r:=by
    show m+(wR w0 c+wL w0 r)=_
    omega
   rw [e];exact h3
  have e1:is++(Qde r0 n p (c::r)).1=is++[(rowP r0 n p c).1]++(Qde r0 n (rowP r0 n p c).2 r).1:=by rw [Xa2];rfl
  have e2:(Qde r0 n p (c::r)).2=(Qde r0 n (rowP r0 n p c).2 r).2:=rfl
  rw [e1,e2,←h4,u_Z6_0]
  clear h3 h4 e1 e2 h1
  generalize rowP r0 n p c=y at *
  have e1:(q.length:Int)<s.l.length:=by omega
  have i1:eI 1 (.int .i64 q.length) (vSl (vCo v) s)=some (.eptr (coC v c) 0):=Qax (f:=vCo v) hq rfl rfl
  have i2:∀U,eL U true 1 (.eptr (coC v c) 0)=some (.agg (coC v c)):=fun U=>Qc3 rfl Qj6
  have y1:(coC v c).length=1:=rfl
  have y2:Qan (coC v c)=true:=Qv5
  have y3:(coC v c).map V.ng=coC v c:=Qj6
  have l1:∀(O1:O),eL [O1,.cells (coC v c)] true 1 (.ptr 1 0)=some (.agg (coC v c)):=fun O1=>Qbf rfl rfl Qj6
  have a1:∀U,appV false false 1 8 U (vG (V.int .i64) 1 is) (.sl [.int .i64 y.1] .no)=some (vG (V.int .i64) 1 (is++[y.1])):=fun U=>by
   refine Qfh (fun _=>rfl) (fun _=>rfl) (fun _=>rfl) ?_
   unfold Qbj
   omega
  have c1:cuO 1 [.cells (mkC n y.2 X),.cells (coC v c)]=some [.cells (mkC n y.2 X)]:=Qda (rbs0 (Qay hX))
  have f1:∀k U is,fz k U fzD (vG (V.int .i64) 1 is)=some (vG (V.int .i64) 1 is):=fun k U is=>Qar (Qdv fun _=>rfl)
  have f2:∀k U,fz k U fzD (vSl (vCo v) s)=some (vSl (vCo v) s):=fun k U=>Qar (Qaj (Qc0 hv))
  clear hR hz
  generalize mkC n y.2 X=M' at *
  generalize mkC n p X=M at *
  generalize coC v c=C at *
  generalize is++[y.1]=IS at *
  simp +contextual -implicitDefEqProofs (disch:=try exact X0d) only [↓reduceIte,go_sem,b_Z6_0,e1,i1,i2,l1,h2,a1,c1,f1,f2,Qaf]
end
def rwsN (n:Nms):(k:Nat)→Pln→Sl (Cx k)→List Int×Pln
 |0,p,s=>([],p)
 |k+1,p,s=>Qde (rwsN n k) n p s.l
def wN:(k:Nat)→Sl (Cx k)→Nat
 |0,s=>0
 |k+1,s=>wL (wN k) s.l
theorem Qp8 {α:Type} {r0:Pln→Sl α→List Int×Pln} {n:Nms} : ∀(l:List (Co α)) (p:Pln),(Qde r0 n p l).1.length=l.length
 |[],p=>rfl
 |c::r,p=>by
  show (Qde r0 n (rowP r0 n p c).2 r).1.length+1=r.length+1
  rw [Qp8 r]
theorem Wh8 {α:Type} {v:α→V} (hv:∀n x,V.rb n (v x)=true) {n:Nms} (hn:NmB n) {r0:Pln→Sl α→List Int×Pln} {w0:Sl α→Nat} (hR:Qer v n r0 w0):
  Qer (vCo v) n (fun p s=>Qde r0 n p s.l) (fun s=>wL w0 s.l):=fun p s m X hX hp hm=>by
 have hs:=Waf (w0:=w0) s.l
 have hm':m+wL w0 s.l≤800000:=hm
 obtain ⟨h1,h2⟩:=Qmw hv hn hR hX s X0o s.l [] p m [] rfl hp hm' rfl
 refine ⟨?_,h1,?_⟩
 ·have h2':l_Z6_0 (Mi cx) 1 1 [.ptr 0 0,.nils,vSl (vCo v) s,.int .i64 s.l.length,.int .i64 0] [.cells (mkC n p X)]=some (vIs (Qde r0 n p s.l).1,[.cells (mkC n (Qde r0 n p s.l).2 X)]):=h2
  have hM:V.rbs 1 (mkC n p X)=true:=rbs0 (Qay hX)
  have f2:∀k' U,fz k' U fzD (vSl (vCo v) s)=some (vSl (vCo v) s):=fun k' U=>Qar (Qaj (Qc0 hv))
  rw [e_Z6]
  clear hR h2 h1
  simp only
  generalize Qde r0 n p s.l=y at *
  generalize mkC n y.2 X=M' at *
  generalize mkC n p X=M at *
  simp +contextual -implicitDefEqProofs (disch:=try exact X0d) only [↓reduceIte,go_sem,s_Z6,Qah,f2,Qaf,h2']
 ·show (Qde r0 n p s.l).1.length≤wL w0 s.l
  rw [Qp8]
  exact hs
theorem Qji {n:Nms} (hn:NmB n):∀k:Nat,Qer (vCx k) n (rwsN n k) (wN k)
 |0=>fun p s m X hX hp hm=>by
  have e:s.l=[]:=sl0 (α:=Cx 0) (fun x=>Empty.elim x) s
  refine ⟨?_,hp,Xa1 _⟩
  show _=some (V.nils,[O.cells (mkC n p X)])
  have hM:V.rbs 1 (mkC n p X)=true:=rbs0 (Qay hX)
  have e2:(s.l.length:Int)=0:=by rw [e];rfl
  have f2:∀k U,fz k U fzD (vSl (vCx 0) s)=some (vSl (vCx 0) s):=fun k U=>Qar (Qaj (Qed 0))
  rw [e_Z6]
  generalize mkC n p X=M at *
  have u:l_Z6_0 (Mi cx) 1 1 [.ptr 0 0,.nils,vSl (vCx 0) s,.int .i64 0,.int .i64 0] [.cells M]=some (.nils,[.cells M]):=by
   rw [u_Z6_0]
   simp +contextual -implicitDefEqProofs (disch:=try exact X0d) only [↓reduceIte,go_sem,b_Z6_0,e2]
  simp +contextual -implicitDefEqProofs (disch:=try exact X0d) only [↓reduceIte,go_sem,s_Z6,Qah,e2,f2,Qaf,u]
 |k+1=>Wh8 (Qed k) hn (Qji hn k)
abbrev vI0 (l:List Int):V:=vSl (V.int .i64) (.row l)
def ct0 (c:Ctr):List V:=[.int .i64 c.a,.int .i64 c.b,vI0 c.rows]
@[reducible] def vCt0 (c:Ctr):V:=.agg (ct0 c)
theorem Qfi {n:Nat} {l:List Int} : V.rb n (vI0 l)=true:=Qaj fun _ _=>rfl
theorem Wh9 {n:Nat} {c:Ctr} : V.rbs n (ct0 c)=true:=by simp only [ct0,Qag,Qdh,Qby,Qfi,Xau]
theorem Wfb {n:Nat} {c:Ctr} : V.rb n (vCt0 c)=true:=Wh9
def mkD (n:Nms) (p:Pln) (X:V):List V:=[.bool n.has,.str n.dflt,Qbx n.pres,Qbx n.spaces,vG vAtm 7 p.atoms,vG vRw 3 p.rows,vG vCt0 3 p.ctrs,X,.int .i64 p.steps]
theorem Qa3 {n:Nms} {p:Pln} {X:V} (hX:V.rb 0 X=true):V.rbs 0 (mkD n p X)=true:=by
 simp only [mkD,Qag,Qi7,Qju,Qgk,Qdv (fun a=>Qll (a:=a)),Qdv (fun a=>Qv7 (r:=a)),Qdv (fun a=>Wfb (c:=a)),hX,Qdh,Qby,Xau]
theorem Qp9 {a:Atm} : ∀(l:List Atm) (i:Nat),a∉l→posA a l i=none
 |[],_,_=>rfl
 |b::r,i,h=>by
  unfold posA
  rw [if_neg (fun e=>h (by rw [e];exact Xaw ..))]
  exact Qp9 r _ fun e=>h (Xax _ e)
theorem Wai {a:Atm} : ∀(q r:List Atm) (i:Nat),a∉q→posA a (q++a::r) i=some (i+q.length)
 |[],r,i,h=>by
  show posA a (a::r) i=_
  unfold posA
  rw [if_pos rfl];rfl
 |b::q,r,i,h=>by
  show posA a (b::(q++a::r)) i=_
  unfold posA
  rw [if_neg (fun e=>h (by rw [e];exact Xaw ..)),Wai q r _ fun e=>h (Xax _ e)]
  simp only [Xal,Xah];omega
section
variable {n:Nms} {p:Pln} {X:V} (hX:V.rb 0 X=true)
theorem Qlp {H:Objs} : eL (.cells (mkD n p X)::H) false 1 (.ptr 0 4)=some (vSl vAtm (slo p.atoms)):=by
 show Option.map V.ng (some (vG vAtm 7 p.atoms))=_
 rw [Qal,n_vG]
def mkDA (n:Nms) (p:Pln) (X:V):List V:=(mkD n p X).set 4 (vSl vAtm (slo p.atoms))
include hX
theorem Qlq (a:Atm) (hp:p.atoms.length≤1000000):∀(r q:List Atm),p.atoms=q++r→a∉q→
  l_Zo_0 (Mi cx) 1 3 [.ptr 0 0,.ptr 1 0,.ptr 2 0,.int .i64 q.length] [.cells (mkD n p X),.cells (atC a),.cells [.int .i64 0,.int .i64 0,.nils]]=some (vT (Qa1 p a).1,[.cells (mkD n (Qa1 p a).2 X)])
 |[],q,hq,hn=>by
  have hq':p.atoms=q:=by rw [hq,Xbe]
  have e1:¬(q.length:Int)<(slo p.atoms).l.length:=by rw [Qfg,hq'];omega
  have l0:∀H:Objs,eL (.cells (mkD n p X)::H) false 1 (.ptr 0 4)=some (vSl vAtm (slo p.atoms)):=fun H=>Qlp
  have l1:∀(O1:O) (H:Objs),eL (O1 :: .cells (atC a)::H) true 7 (.ptr 1 0)=some (.agg (atC a)):=fun O1 H=>Qbf rfl rfl Qjg
  have l2:∀H:Objs,Qbt (.cells (mkD n p X)::H) (.ptr 0 4)=some (vG vAtm 7 p.atoms,.cells (mkDA n p X)::H):=fun H=>Qg7 rfl
  have b1:=We8 (a:=a)
  have a1:∀U,appV false true 7 80 U (vG vAtm 7 p.atoms) (.sl [.agg (atC a)] .no)=some (vG vAtm 7 (p.atoms++[a])):=fun U=>Qz9 hp
  have s1:∀H:Objs,stV (.cells (mkDA n p X)::H) 1 (.ptr 0 4) (vSl vAtm (slo (p.atoms++[a]))) (vG vAtm 7 (p.atoms++[a]))=some (.undef,.cells (mkD n (addA p a) X)::H):=fun H=>Qwa (show 4<9 by decide)
  have l3:∀H:Objs,eL (.cells (mkD n (addA p a) X)::H) false 1 (.ptr 0 4)=some (vSl vAtm (slo (p.atoms++[a]))):=fun H=>Qlp
  have hM:V.rbs 1 (mkD n p X)=true:=rbs0 (Qa3 hX)
  have hM':V.rbs 1 (mkD n (addA p a) X)=true:=rbs0 (Qa3 hX)
  have c3:cuO 3 [.cells (mkD n p X),.cells (atC a),.cells [.int .i64 0,.int .i64 0,.nils]]=some [.cells (mkD n p X),.cells (atC a),.cells [.int .i64 0,.int .i64 0,.nils]]:=Qcz (Qa9 (Qab (Qa3 hX) (Qab Qdo (Qab rfl Qaq))))
  have e2:(slo (p.atoms++[a])).l.length=p.atoms.length+1:=by rw [Qfg,Xas];rfl
  have k2:((p.atoms.length+1:Nat):Int)=(p.atoms.length:Int)+1:=by omega
  have c:posA a p.atoms 0=none:=Qp9 _ _ (by rw [hq'];exact hn)
  rw [u_Zo_0]
  unfold Qa1
  rw [c,Qty]
  clear hq hq' hn
  generalize mkD n p X=M at *
  generalize mkD n (addA p a) X=M' at *
  generalize mkDA n p X=MA at *
  generalize hAt:atC a=A at *
  simp +contextual -implicitDefEqProofs (disch:=try exact X0d) only [↓reduceIte,go_sem,b_Zo_0,e1,l0,l1,l2,b1,a1,s1,l3,c3,n_vG,Qaf,Qah,e2,k2,Xch]
 |b::r,q,hq,hn=>by
  have hlen:p.atoms.length=q.length+r.length+1:=by rw [hq];simp;omega
  have e1:(q.length:Int)<(slo p.atoms).l.length:=by rw [Qfg];omega
  have l0:∀H:Objs,eL (.cells (mkD n p X)::H) false 1 (.ptr 0 4)=some (vSl vAtm (slo p.atoms)):=fun H=>Qlp
  have l1:∀(O1:O) (H:Objs),eL (O1 :: .cells (atC a)::H) true 7 (.ptr 1 0)=some (.agg (atC a)):=fun O1 H=>Qbf rfl rfl Qjg
  have i1:eI 7 (.int .i64 q.length) (vSl vAtm (slo p.atoms))=some (.eptr (atC b) 0):=Qax (f:=vAtm) (p:=q) (r:=r) (by rw [Qfg];exact hq) rfl rfl
  have i2:∀U,eL U true 7 (.eptr (atC b) 0)=some (.agg (atC b)):=fun U=>Qc3 rfl Qjg
  have i4:=We6 (a:=b) (b:=a)
  have hM:V.rbs 1 (mkD n p X)=true:=rbs0 (Qa3 hX)
  have c3:cuO 3 [.cells (mkD n p X),.cells (atC a),.cells [.int .i64 0,.int .i64 0,.nils]]=some [.cells (mkD n p X),.cells (atC a),.cells [.int .i64 0,.int .i64 0,.nils]]:=Qcz (Qa9 (Qab (Qa3 hX) (Qab Qdo (Qab rfl Qaq))))
  rw [u_Zo_0]
  by_cases c:b=a
  ·have c2:posA a p.atoms 0=some q.length:=by rw [hq,c,Wai q r 0 hn,Xb1]
   have c3':cuO 3 [.cells (mkD n p X),.cells (atC a),.cells [.int .i64 1,.int .i64 q.length,.nils]]=some [.cells (mkD n p X),.cells (atC a),.cells [.int .i64 1,.int .i64 q.length,.nils]]:=Qcz (Qa9 (Qab (Qa3 hX) (Qab Qdo (Qab rfl Qaq))))
   unfold Qa1
   rw [c2,Qty]
   rw [decide_eq_true c] at i4
   clear c c2 hq hn
   generalize mkD n p X=M at *
   generalize atC a=A at *
   generalize atC b=Bww at *
   simp +contextual -implicitDefEqProofs (disch:=try exact X0d) only [↓reduceIte,go_sem,b_Zo_0,e1,l0,l1,i1,i2,i4,c3',Qah,Qaf]
  ·have ih:=Qlq a hp r (q++[b]) (by rw [hq];simp) (by
    intro h
    rcases Xbq.1 h with h|h
    ·exact hn h
    ·exact c (Xbr.1 h).symm)
   rw [show ((q++[b]).length:Int)=q.length+1 by simp] at ih
   rw [decide_eq_false c] at i4
   clear c hq hn
   generalize Qa1 p a=RES at *
   generalize mkD n p X=M at *
   generalize atC a=A at *
   generalize atC b=Bww at *
   simp +contextual -implicitDefEqProofs (disch:=try exact X0d) only [↓reduceIte,go_sem,b_Zo_0,e1,l0,l1,i1,i2,i4,c3,Qah,Qaf,ih]
theorem Qog (a:Atm) (hp:p.atoms.length≤1000000) (H:Objs) (hτ:Cl0 H):E cx 113 [.ptr 0 0,.agg (atC a)] (.cells (mkD n p X)::H)=some (.agg (tmC (Qa1 p a).1),.cells (mkD n (Qa1 p a).2 X)::H):=by
 rw [←Qhy]
 refine E_on ?_ (by simp only [Qag,Qa0,Qdo];rfl) (Qa3 hX) (Qa3 hX) (Qhz _) H hτ
 have h1:boxV [.cells (mkD n p X)] (.agg (atC a))=some (.ptr 1 0,[.cells (mkD n p X),.cells (atC a)]):=Qau Qv8 Qjg
 have lp:=Qlq (n:=n) hX a hp p.atoms [] rfl (by simp)
 have lp':l_Zo_0 (Mi cx) 1 3 [.ptr 0 0,.ptr 1 0,.ptr 2 0,.int .i64 0] [.cells (mkD n p X),.cells (atC a),.cells [.int .i64 0,.int .i64 0,.nils]]=some (vT (Qa1 p a).1,[.cells (mkD n (Qa1 p a).2 X)]):=lp
 clear lp
 rw [e_Zo]
 generalize Qa1 p a=RES at *
 generalize mkD n p X=M at *
 generalize atC a=A at *
 simp +contextual -implicitDefEqProofs (disch:=try exact X0d) only [↓reduceIte,go_sem,s_Zo,h1,lp']
end
theorem Qt5 (t:Trm) (U:Objs) (hσ:Wf U):E cx 115 [.agg (tmC t)] U=some (.agg (tmC (notT t)),U):=by
 refine Qbe Qbb ?_ (by simp only [Qag,Qa0,Qeg];rfl) (by rw [Qa0];exact Qeg) U hσ
 have h1:boxV [] (.agg (tmC t))=some (.ptr 0 0,[.cells (tmC t)]):=Qau Qd3 Qd4
 have h2:∀H:Objs,eL (.cells (tmC t)::H) true 3 (.ptr 0 0)=some (.agg (tmC t)):=fun H=>Qbf rfl Qbz Qd4
 have h3:Qam true 3 1 (.agg [.int .i64 0,.int .i64 0,.nils]) [(0,.agg (tmC t))]=some (.sl [.agg (tmC t)] .fx):=Qhi Qbz Qd3
 have h4:tmC (notT t)=[.int .i64 3,.int .i64 0,.sl [.agg (tmC t)] .no]:=by
  show [V.int .i64 3,.int .i64 0,V.sl [vT t] .no]=_
  rw [Qhy]
 have h5:=Qfp (n:=0) (t:=notT t)
 rw [h4] at h5
 rw [e_Z40,h4]
 generalize tmC t=T at *
 simp +contextual -implicitDefEqProofs (disch:=try exact X0d) only [↓reduceIte,go_sem,s_Z40,h1,h2,h3]
section
variable {n:Nms} (hn:NmB n)
def spF (n:Nms) (i:Int):List UInt8:=if 0≤i then n.spaces.l.getD i.toNat [] else []
include hn
theorem Qqa (pre:List UInt8):∀(f i:Nat),n.pres.l.length<f+i→i≤n.pres.l.length→
  l_Z3g_0 (Mi cx) 0 1 [.str pre,.ptr 0 0,.int .i64 i] [.cells (Qaa n)]=some (.tup [.str (spF n (idxF n.pres.l pre f i)),.bool (decide (0≤idxF n.pres.l pre f i))],[])
 |0,i,hf,hi=>by omega
 |f+1,i,hf,hi=>by
  have hb:=hn.2.1
  have h2:eL [.cells (Qaa n)] false 1 (.ptr 0 2)=some (Qbx n.pres):=by
   show Option.map V.ng (some (Qbx n.pres))=_
   rw [Qal,Qaf]
  have h3:eL [.cells (Qaa n)] false 1 (.ptr 0 3)=some (Qbx n.spaces):=by
   show Option.map V.ng (some (Qbx n.spaces))=_
   rw [Qal,Qaf]
  have c3:cuO 1 [.cells (Qaa n)]=some [.cells (Qaa n)]:=Qda (H:=[]) Qak
  rw [u_Z3g_0]
  unfold idxF
  by_cases c1:(i:Int)<n.pres.l.length
  ·have hx:=Qcv (f:=V.str) (s:=n.pres) (k:=.i64) (i:=(i:Int)) (Qex X0o []) X0o (sz:=1) rfl
   rw [Xbf] at hx
   have c1':i<n.pres.l.length:=by omega
   rw [if_pos c1']
   generalize n.pres.l.getD i []=t at *
   by_cases c2:pre=t
   ·subst c2
    rw [if_pos rfl]
    have e0:(0:Int)≤i:=by omega
    unfold spF
    rw [if_pos e0,decide_eq_true e0,Xbf]
    by_cases c4:(i:Int)<n.spaces.l.length
    ·have hy:=Qcv (f:=V.str) (s:=n.spaces) (k:=.i64) (i:=(i:Int)) (Qex X0o []) X0o (sz:=1) rfl
     rw [Xbf] at hy
     generalize n.spaces.l.getD i []=u at *
     generalize Qaa n=N at *
     simp +contextual -implicitDefEqProofs (disch:=try exact X0d) only [↓reduceIte,go_sem,b_Z3g_0,j_Z3g_0,h2,h3,c3,c1,c4,hx,hy,Qaf]
    ·have e1:n.spaces.l.getD i []=[]:=by rw [Xav,Xa3 X0o];rfl
     rw [e1]
     generalize Qaa n=N at *
     simp +contextual -implicitDefEqProofs (disch:=try exact X0d) only [↓reduceIte,go_sem,b_Z3g_0,j_Z3g_0,h2,h3,c3,c1,c4,hx,Qaf]
   ·rw [if_neg c2]
    have c2':¬t=pre:=fun h=>c2 h.symm
    have ih:=Qqa pre f (i+1) X0o X0o
    rw [Xct] at ih
    generalize idxF n.pres.l pre f (i+1)=j at *
    generalize Qaa n=N at *
    simp +contextual -implicitDefEqProofs (disch:=try exact X0d) only [↓reduceIte,go_sem,b_Z3g_0,h2,h3,c3,c1,c2',hx,Qaf,ih]
  ·have c1':¬i<n.pres.l.length:=by omega
   rw [if_neg c1']
   have e0:spF n (-1)=[]:=rfl
   rw [e0]
   generalize Qaa n=N at *
   simp +contextual -implicitDefEqProofs (disch:=try exact X0d) only [↓reduceIte,go_sem,b_Z3g_0,h2,c3,c1,Qaf]
theorem Wdv (pre:List UInt8) (U:Objs) (hσ:Wf U):E cx 149 [.agg (Qaa n),.str pre] U=some (.tup [.str (spT n pre),.bool (decide (0≤idxS n.pres.l pre))],U):=by
 refine Qbe Qbb ?_ (by simp only [Qag,Qa0,Qak];rfl) rfl U hσ
 have h1:boxV [] (.agg (Qaa n))=some (.ptr 0 0,[.cells (Qaa n)]):=Qau ok_n no_n
 have lp:=Qqa hn pre (n.pres.l.length+1) 0 X0o X0o
 have lp':l_Z3g_0 (Mi cx) 0 1 [.str pre,.ptr 0 0,.int .i64 0] [.cells (Qaa n)]=some (.tup [.str (spT n pre),.bool (decide (0≤idxS n.pres.l pre))],[]):=lp
 clear lp
 rw [e_Z3g]
 generalize spT n pre=s at *
 generalize Qaa n=N at *
 simp +contextual -implicitDefEqProofs (disch:=try exact X0d) only [↓reduceIte,go_sem,s_Z3g,h1,lp']
end
def spQ (n:Nms) (ns:Int) (pre:List UInt8) (attr:Bool):Bool×List UInt8:=
 if ns=1 then (false,[]) else if ns=0 then (if attr then (true,[]) else if n.has then (true,n.dflt) else (false,[])) else if ns=3 then (true,spT n pre) else (true,[])
theorem Wl1 {n:Nms} {ns:Int} {pre name:List UInt8} (h:0≤ns∧ns≤3):elA n ns pre name=⟨1,(spQ n ns pre false).1,(spQ n ns pre false).2,name,0,[],false⟩:=by
 unfold elA Qj1 spQ
 by_cases c0:ns=0
 ·subst c0
  cases hh:n.has <;> simp [hh]
 by_cases c1:ns=1
 ·subst c1;simp
 by_cases c2:ns=2
 ·subst c2;simp
 obtain rfl:ns=3:=by omega
 simp [spT]
theorem Wdw {α:Type} {n:Nms} {s:Sm α} (h:0≤s.ns∧s.ns≤3):Qeh n s=⟨2,(spQ n s.ns s.pre true).1,(spQ n s.ns s.pre true).2,s.name,s.op,s.text,s.fold⟩:=by
 unfold Qeh Qj1 spQ
 obtain ⟨k,ns,pre,nm,op,tx,fo,mk,a,b,o⟩:=s
 simp only at *
 by_cases c0:ns=0
 ·subst c0;simp
 by_cases c1:ns=1
 ·subst c1;simp
 by_cases c2:ns=2
 ·subst c2;simp
 obtain rfl:ns=3:=by omega
 simp [spT]
section
variable {n:Nms} (hn:NmB n) {p:Pln} {X:V} (hX:V.rb 0 X=true)
include hn hX
theorem Qt6 (ns:Int) (pre:List UInt8) (at':Bool) (H:Objs) (hτ:Cl0 H):E cx 112 [.ptr 0 0,.int .i64 ns,.str pre,.bool at'] (.cells (mkD n p X)::H)=some (.tup [.bool (spQ n ns pre at').1,.str (spQ n ns pre at').2],.cells (mkD n p X)::H):=by
 refine E_on ?_ rfl (Qa3 hX) (Qa3 hX) rfl H hτ
 have hw:Wf [.cells (mkD n p X)]:=Qa9 (Qab (Qa3 hX) Qaq)
 have hM:V.rbs 1 (mkD n p X)=true:=rbs0 (Qa3 hX)
 have l1:eL [.cells (mkD n p X)] false 1 (.ptr 0 0)=some (.bool n.has):=rfl
 have l2:eL [.cells (mkD n p X)] false 1 (.ptr 0 1)=some (.str n.dflt):=rfl
 have l3:eL [.cells (mkD n p X)] true 4 (.ptr 0 0)=some (.agg (Qaa n)):=by
  show Ev.part true 4 (Qaa n++_) 0=_
  unfold Ev.part
  rw [if_pos rfl,if_pos (by simp [Qaa]),Xb0]
  show some (V.agg ((Qaa n).map V.ng))=_
  rw [no_n]
 have k1:=Wdv hn pre _ hw
 rw [e_Zu]
 unfold spQ
 generalize spT n pre=sp at *
 generalize mkD n p X=M at *
 generalize Qaa n=N at *
 generalize n.has=nh at *
 generalize n.dflt=nd at *
 by_cases c1:ns=1
 ·subst c1
  simp +contextual -implicitDefEqProofs (disch:=try exact X0d) only [↓reduceIte,go_sem,s_Zu]
 rw [if_neg c1]
 by_cases c0:ns=0
 ·subst c0
  cases at' <;> cases nh <;> simp +contextual -implicitDefEqProofs (disch:=try exact X0d) only [↓reduceIte,go_sem,s_Zu,l1,l2]
 rw [if_neg c0]
 by_cases c3:ns=3
 ·subst c3
  simp +contextual -implicitDefEqProofs (disch:=try exact X0d) only [↓reduceIte,go_sem,s_Zu,l3,k1]
 rw [if_neg c3]
 simp +contextual -implicitDefEqProofs (disch:=try exact X0d) only [↓reduceIte,go_sem,s_Zu,c0,c1,c3]
theorem Qjj (ns:Int) (hns:0≤ns∧ns≤3) (pre name:List UInt8) (hp:p.atoms.length≤1000000) (H:Objs) (hτ:Cl0 H):
  E cx 110 [.ptr 0 0,.str name,.int .i64 ns,.str pre] (.cells (mkD n p X)::H)=some (.agg (tmC (Qa7 n p ns pre name).1),.cells (mkD n (Qa7 n p ns pre name).2 X)::H):=by
 refine E_on ?_ rfl (Qa3 hX) (Qa3 hX) Qfp H hτ
 have z:Cl0 [.cells [.int .i64 0,.int .i64 0,.nils]]:=Qab rfl Qaq
 have k1:=Qt6 hn (p:=p) hX ns pre false _ z
 have k2:=Qog (n:=n) hX (elA n ns pre name) hp _ z
 have hM:V.rbs 1 (mkD n p X)=true:=rbs0 (Qa3 hX)
 have hM':V.rbs 1 (mkD n (Qa1 p (elA n ns pre name)).2 X)=true:=rbs0 (Qa3 hX)
 have t1:(tmC (Qa1 p (elA n ns pre name)).1).length=3:=Qbz
 have t2:Qan (tmC (Qa1 p (elA n ns pre name)).1)=true:=Qd3
 have t3:(tmC (Qa1 p (elA n ns pre name)).1).map V.ng=tmC (Qa1 p (elA n ns pre name)).1:=Qd4
 have t4:V.rb 1 (.agg (tmC (Qa1 p (elA n ns pre name)).1))=true:=Qfp
 have t5:=Qoe (t:=(Qa1 p (elA n ns pre name)).1)
 rw [e_Zp]
 unfold Qa7
 rw [Wl1 hns] at *
 generalize spQ n ns pre false=q at *
 obtain ⟨qh,qs⟩:=q
 simp only [atC] at *
 generalize hA:(⟨1,qh,qs,name,0,[],false⟩:Atm)=A at *
 have e1:tmC (.mk 7 0 [])=[.int .i64 7,.int .i64 0,.nils]:=rfl
 by_cases c1:name=[]
 ·subst c1
  cases qh with
  |false=>
   rw [if_pos ⟨rfl,rfl⟩,e1]
   clear k2
   generalize mkD n p X=M at *
   simp +contextual -implicitDefEqProofs (disch:=try exact X0d) only [↓reduceIte,go_sem,s_Zp,k1]
  |true=>
   rw [if_neg (by simp)]
   generalize tmC (Qa1 p A).1=T at *
   generalize mkD n (Qa1 p A).2 X=M' at *
   generalize mkD n p X=M at *
   simp +contextual -implicitDefEqProofs (disch:=try exact X0d) only [↓reduceIte,go_sem,s_Zp,k1,k2,t5]
 ·rw [if_neg (fun h=>c1 h.1)]
  generalize tmC (Qa1 p A).1=T at *
  generalize mkD n (Qa1 p A).2 X=M' at *
  generalize mkD n p X=M at *
  simp +contextual -implicitDefEqProofs (disch:=try exact X0d) only [↓reduceIte,go_sem,s_Zp,k1,k2,t5,c1]
omit hn in
theorem Qoh (name:List UInt8) (op:Int) (text:List UInt8) (hp:p.atoms.length≤1000000) (H:Objs) (hτ:Cl0 H):
  E cx 111 [.ptr 0 0,.str name,.int .i64 op,.str text] (.cells (mkD n p X)::H)=some (.agg (tmC (Qh0 p name op text).1),.cells (mkD n (Qh0 p name op text).2 X)::H):=by
 refine E_on ?_ rfl (Qa3 hX) (Qa3 hX) Qfp H hτ
 unfold Qh0
 have k1:=Qog (n:=n) hX (atA name op text) hp [.cells [.int .i64 0,.int .i64 0,.nils]] (Qab rfl Qaq)
 have k1':E cx 113 [.ptr 0 0,.agg [.int .i64 2,.bool true,.str [],.str name,.int .i64 op,.str text,.bool false]] [.cells (mkD n p X),.cells [.int .i64 0,.int .i64 0,.nils]]=_:=k1
 clear k1
 have hM':V.rbs 1 (mkD n (Qa1 p (atA name op text)).2 X)=true:=rbs0 (Qa3 hX)
 have t1:(tmC (Qa1 p (atA name op text)).1).length=3:=Qbz
 have t2:Qan (tmC (Qa1 p (atA name op text)).1)=true:=Qd3
 have t3:(tmC (Qa1 p (atA name op text)).1).map V.ng=tmC (Qa1 p (atA name op text)).1:=Qd4
 have t4:V.rb 1 (.agg (tmC (Qa1 p (atA name op text)).1))=true:=Qfp
 have t5:=Qoe (t:=(Qa1 p (atA name op text)).1)
 rw [e_Zr]
 generalize tmC (Qa1 p (atA name op text)).1=T at *
 generalize mkD n p X=M at *
 generalize mkD n (Qa1 p (atA name op text)).2 X=M' at *
 simp +contextual -implicitDefEqProofs (disch:=try exact X0d) only [↓reduceIte,go_sem,s_Zr,k1',t5]
end
end Go.Proofs.YtapnplljnpconaaGreatDoor
namespace Go.Ev
section
variable {O1 O1' O2:O} {cs ds:List V} {ag:Bool} {sz off:Nat}
theorem Wdx:Qei [Qcn ag sz (.ptr 1 off),.made 3] [O1,.cells cs,O2,.cells ds] [O1',.cells cs,O2,.cells ds]=some [O1',.cells cs,O2,.cells ds]:=by
 have e:stable [O1,.cells cs,O2,.cells ds] [O1',.cells cs,O2,.cells ds] (.same false 1 off (if ag then sz else 1))=true:=by
  show (decide (cs.length=cs.length)&&_)=true
  rw [decide_eq_true rfl,Xa0]
  show V.beqs _ _=true
  exact V.beqs_refl _
 have e2:stable [O1,.cells cs,O2,.cells ds] [O1',.cells cs,O2,.cells ds] (.made 3)=true:=V.beqs_refl ds
 show (if (stable _ _ (.same false 1 off (if ag then sz else 1))&&(stable _ _ (.made 3)&&true))=true then some _ else none)=_
 rw [e,e2];rfl
theorem Wdy {U:Objs} {o m:Nat} : Qgd [Qcn ag sz (.ptr o off),.made m] U=some U:=rfl
end
end Go.Ev
namespace Go.Proofs.YtapnplljnpconaaGreatDoor
open Go.Ev
theorem Wia {α:Type} {l:List α} : (Sl.row l).l=l:=rfl
def tG (k:Int) (ts:List Trm):List V:=[.int .i64 k,.int .i64 0,vG vT 3 ts]
theorem Wfc {n:Nat} {k:Int} {ts:List Trm} : V.rbs n (tG k ts)=true:=by simp only [tG,Qag,Qdh,Qby,Qdv Qhz,Xau]
theorem Waj {c:Ctr} : Qan (ct0 c)=true:=rfl
theorem Wl2 {c:Ctr} : (ct0 c).map V.ng=ct0 c:=rfl
section
variable {α:Type} {v:α→V} (hv:∀n x,V.rb n (v x)=true) {n:Nms} (hn:NmB n) {r0:Pln→Sl α→List Int×Pln} {w0:Sl α→Nat} {K:Sl α→Prop}
def nsS (K:Sl α→Prop) (s:Sm α):Prop:=(0≤s.ns∧s.ns≤3)∧(s.kind=7→nthS s.a s.b=true)∧K s.of
def Qwb (v:α→V) (n:Nms) (r0:Pln→Sl α→List Int×Pln) (w0:Sl α→Nat) (K:Sl α→Prop):Prop:=∀(p:Pln) (s:Sl α) (m:Nat) (X:V),V.rb 0 X=true→Pz p m→m+w0 s≤800000→K s→
 E cx 41 [.ptr 0 0,vSl v s] [.cells (mkD n p X)]=some (vI0 (r0 p s).1,[.cells (mkD n (r0 p s).2 X)])
variable (hR:Qer v n r0 w0) (hQ:Qwb v n r0 w0 K) {X:V} (hX:V.rb 0 X=true)
theorem Qlr (M:List V) (hM:V.rbs 0 M=true) (rs:List Int) (hl:rs.length≤800000):∀(r q:List Int),rs=q++r→
  l_Zt_0 (Mi cx) 1 3 [.ptr 1 0,.ptr 2 0,vI0 rs,.int .i64 q.length] [.cells M,.cells [.int .i64 0,.int .i64 0,.nils],.cells (tG 4 (q.map fun i=>.mk 2 i []))]=some (.agg (tmC (Qbo rs)),[.cells M])
 |[],q,hq=>by
  have hq':rs=q:=by rw [hq];simp
  subst hq'
  have e1:¬(rs.length:Int)<rs.length:=by omega
  have hM1:V.rbs 1 M=true:=rbs0 hM
  have c3:∀ts,cuO 3 [.cells M,.cells [.int .i64 0,.int .i64 0,.nils],.cells (tG 4 ts)]=some [.cells M,.cells [.int .i64 0,.int .i64 0,.nils],.cells (tG 4 ts)]:=fun ts=>Qcz (Qa9 (Qab hM (Qab rfl (Qab Wfc Qaq))))
  have ld:∀ts,eL [.cells M,.cells [.int .i64 0,.int .i64 0,.nils],.cells (tG 4 ts)] true 3 (.ptr 2 0)=some (.agg (tmC (.mk 4 0 ts))):=fun ts=>by
   show some (V.agg [.int .i64 4,.int .i64 0,(vG vT 3 ts).ng])=_
   rw [n_vG];rfl
  have c3':=c3 (rs.map fun i=>.mk 2 i [])
  have ld':eL [.cells M,.cells [.int .i64 0,.int .i64 0,.nils],.cells (tG 4 (rs.map fun i=>.mk 2 i []))] true 3 (.ptr 2 0)=some (.agg (tmC (Qbo rs))):=ld _
  have t1:(tmC (Qbo rs)).length=3:=Qbz
  have t2:Qan (tmC (Qbo rs))=true:=Qd3
  have t3:(tmC (Qbo rs)).map V.ng=tmC (Qbo rs):=Qd4
  have t4:V.rb 1 (.agg (tmC (Qbo rs)))=true:=Qfp
  have t5:=Qoe (t:=Qbo rs)
  clear c3 ld
  rw [u_Zt_0]
  generalize tG 4 (rs.map fun i=>Trm.mk 2 i [])=G at *
  generalize tmC (Qbo rs)=T at *
  simp +contextual -implicitDefEqProofs (disch:=try exact X0d) only [↓reduceIte,go_sem,b_Zt_0,e1,Qah,Wia,Qaf,c3',ld',t5]
 |i::r,q,hq=>by
  have hlen:rs.length=q.length+r.length+1:=by rw [hq];simp;omega
  have e1:(q.length:Int)<rs.length:=by omega
  have f2:∀k U,fz k U fzD (vI0 rs)=some (vI0 rs):=fun k U=>Qar Qfi
  have i1:eI 1 (.int .i64 q.length) (vI0 rs)=some (.eptr [.int .i64 i] 0):=Qax (f:=V.int .i64) (s:=.row rs) (p:=q) (r:=r) hq rfl rfl
  have lR:Qai (vI0 rs)=some (.int .i64 rs.length):=Qah (s:=.row rs)
  have nR:(vI0 rs).ng=vI0 rs:=rfl
  have a1:∀U,appV false true 3 40 U (vG vT 3 (q.map fun i=>.mk 2 i [])) (.sl [.agg [.int .i64 2,.int .i64 i,.nils]] .no)=some (vG vT 3 ((q++[i]).map fun i=>.mk 2 i [])):=fun U=>by
   rw [Xbj]
   exact Qt2 (t:=.mk 2 i []) (by rw [Xao];omega)
  have ih:=Qlr M hM rs hl r (q++[i]) (by rw [hq];simp)
  rw [show ((q++[i]).length:Int)=q.length+1 by simp] at ih
  rw [u_Zt_0]
  generalize (q++[i]).map (fun i=>Trm.mk 2 i [])=L' at *
  generalize q.map (fun i=>Trm.mk 2 i [])=L at *
  have ld1:Qbt [.cells M,.cells [.int .i64 0,.int .i64 0,.nils],.cells (tG 4 L)] (.ptr 2 2)=some (vG vT 3 L,[.cells M,.cells [.int .i64 0,.int .i64 0,.nils],.cells ((tG 4 L).set 2 (vSl vT (slo L)))]):=Qfr (B:=[_,_]) rfl rfl
  have s1:stV [.cells M,.cells [.int .i64 0,.int .i64 0,.nils],.cells ((tG 4 L).set 2 (vSl vT (slo L)))] 1 (.ptr 2 2) (vSl vT (slo L')) (vG vT 3 L')=some (.undef,[.cells M,.cells [.int .i64 0,.int .i64 0,.nils],.cells (tG 4 L')]):=Qrz (B:=[_,_]) (cs:=(tG 4 L).set 2 (vSl vT (slo L))) rfl (show 2<3 by decide)
  have c3:cuO 3 [.cells M,.cells [.int .i64 0,.int .i64 0,.nils],.cells (tG 4 L')]=some [.cells M,.cells [.int .i64 0,.int .i64 0,.nils],.cells (tG 4 L')]:=Qcz (Qa9 (Qab hM (Qab rfl (Qab Wfc Qaq))))
  generalize (tG 4 L).set 2 (vSl vT (slo L))=G1 at *
  generalize tG 4 L'=G2 at *
  generalize tG 4 L=G at *
  generalize hI:vI0 rs=I at *
  simp +contextual -implicitDefEqProofs (disch:=try exact X0d) only [↓reduceIte,go_sem,b_Zt_0,e1,f2,i1,lR,nR,ld1,a1,s1,c3,n_vG,ih]
include hv hQ hX
theorem Qt7 {p:Pln} {m:Nat} (s:Sl α) (hp:Pz p m) (hm:m+w0 s≤800000) (hK:K s) (H:Objs) (hτ:Cl0 H):E cx 41 [.ptr 0 0,vSl v s] (.cells (mkD n p X)::H)=some (vI0 (r0 p s).1,.cells (mkD n (r0 p s).2 X)::H):=
 E_on (hQ p s m X hX hp hm hK) (by simp only [Qag,Qaj hv];rfl) (Qa3 hX) (Qa3 hX) Qfi H hτ
include hR
theorem Wib {p:Pln} {m:Nat} (s:Sl α) (hp:Pz p m) (hm:m+w0 s≤800000) (hK:K s) (H:Objs) (hτ:Cl0 H):
  E cx 114 [.ptr 0 0,vSl v s] (.cells (mkD n p X)::H)=some (.agg (tmC (Qbo (r0 p s).1)),.cells (mkD n (r0 p s).2 X)::H):=by
 refine E_on ?_ (by simp only [Qag,Qaj hv];rfl) (Qa3 hX) (Qa3 hX) Qfp H hτ
 have k1:=Qt7 hv hQ hX s hp hm hK [.cells [.int .i64 0,.int .i64 0,.nils]] (Qab rfl Qaq)
 have hl:=(hR p s m X hX hp hm).2.2
 have k2:=Qlr (mkD n (r0 p s).2 X) (Qa3 hX) (r0 p s).1 X0o (r0 p s).1 [] rfl
 have k2':l_Zt_0 (Mi cx) 1 3 [.ptr 1 0,.ptr 2 0,vI0 (r0 p s).1,.int .i64 0] [.cells (mkD n (r0 p s).2 X),.cells [.int .i64 0,.int .i64 0,.nils],.cells [.int .i64 4,.int .i64 0,.nils]]=some (.agg (tmC (Qbo (r0 p s).1)),[.cells (mkD n (r0 p s).2 X)]):=k2
 have f2:∀k U,fz k U fzD (vI0 (r0 p s).1)=some (vI0 (r0 p s).1):=fun k U=>Qar Qfi
 have nR:(vI0 (r0 p s).1).ng=vI0 (r0 p s).1:=rfl
 clear k2
 rw [e_Zt]
 generalize (r0 p s).1=rs at *
 generalize tmC (Qbo rs)=T at *
 generalize mkD n (r0 p s).2 X=M' at *
 generalize mkD n p X=M at *
 generalize vI0 rs=I at *
 simp +contextual -implicitDefEqProofs (disch:=try exact X0d) only [↓reduceIte,go_sem,s_Zt,k1,f2,Qaf,nR,k2']
omit hv hR hQ hX in
def mkDB (n:Nms) (p:Pln) (X:V):List V:=(mkD n p X).set 6 (vSl vCt0 (slo p.ctrs))
include hn
theorem Wic {p:Pln} {m:Nat} (s:Sm α) (hs:nsS K s) (hp:Pz p m) (hm:m+(4+w0 s.of)≤800000) (H:Objs) (hτ:Cl0 H):
  E cx 88 [.ptr 0 0,.agg (smC v s)] (.cells (mkD n p X)::H)=some (.agg (tmC (Qcy r0 n p s).1),.cells (mkD n (Qcy r0 n p s).2 X)::H):=by
 refine E_on ?_ (by simp only [Qag,Qa0,Qbd hv];rfl) (Qa3 hX) (Qa3 hX) Qfp H hτ
 obtain ⟨hns,_,hK⟩:=hs
 have z:V.rbs 0 [.int .i64 0,.int .i64 0,.nils]=true:=rfl
 have hτ2:Cl0 [.cells (smC v s),.cells [.int .i64 0,.int .i64 0,.nils]]:=Qab (Qbd hv) (Qab z Qaq)
 have hA:p.atoms.length≤800000:=by have:=hp.1;omega
 have h1:boxV [.cells (mkD n p X)] (.agg (smC v s))=some (.ptr 1 0,[.cells (mkD n p X),.cells (smC v s)]):=Qau Qf2 Qc6
 have l0:∀(O1:O) (H:Objs),eL (O1 :: .cells (smC v s)::H) false 1 (.ptr 1 0)=some (.int .i64 s.kind):=fun O1 H=>rfl
 have l1:∀(O1:O) (H:Objs),eL (O1 :: .cells (smC v s)::H) false 1 (.ptr 1 1)=some (.int .i64 s.ns):=fun O1 H=>rfl
 have l2:∀(O1:O) (H:Objs),eL (O1 :: .cells (smC v s)::H) false 1 (.ptr 1 2)=some (.str s.pre):=fun O1 H=>rfl
 have l3:∀(O1:O) (H:Objs),eL (O1 :: .cells (smC v s)::H) false 1 (.ptr 1 3)=some (.str s.name):=fun O1 H=>rfl
 have l4:∀(O1:O) (H:Objs),eL (O1 :: .cells (smC v s)::H) true 3 (.ptr 1 4)=some (.agg [.int .i64 s.op,.str s.text,.bool s.fold]):=fun O1 H=>rfl
 have l8:∀(O1:O) (H:Objs),eL (O1 :: .cells (smC v s)::H) true 2 (.ptr 1 8)=some (.agg [.int .i64 s.a,.int .i64 s.b]):=fun O1 H=>rfl
 have l10:∀(O1:O) (H:Objs),eL (O1 :: .cells (smC v s)::H) false 1 (.ptr 1 10)=some (vSl v s.of):=fun O1 H=>by
  show Option.map V.ng (some (vSl v s.of))=_
  rw [Qal,Qaf]
 have hM:∀q:Pln,V.rbs 1 (mkD n q X)=true:=fun q=>rbs0 (Qa3 hX)
 have L:∀t:Trm,(tmC t).length=3:=fun t=>Qbz
 have OK:∀t:Trm,Qan (tmC t)=true:=fun t=>Qd3
 have NO:∀t:Trm,(tmC t).map V.ng=tmC t:=fun t=>Qd4
 have RB:∀(t:Trm),V.rb 1 (.agg (tmC t))=true:=fun t=>Qfp
 have MT:∀(t:Trm),List.map V.ng (List.take 3 (tmC t))=tmC t:=fun t=>Qoe
 have kel:=Qjj hn (p:=p) hX s.ns hns s.pre s.name X0o _ hτ2
 have kcl:=Qoh (n:=n) (p:=p) hX [99,108,97,115,115] 3 s.name X0o _ hτ2
 have kid:=Qoh (n:=n) (p:=p) hX [105,100] 2 s.name X0o _ hτ2
 have kst:=Qog (n:=n) (p:=p) hX ⟨3,false,[],s.name,0,[],false⟩ X0o _ hτ2
 have kst':E cx 113 [.ptr 0 0,.agg [.int .i64 3,.bool false,.str [],.str s.name,.int .i64 0,.str [],.bool false]] [.cells (mkD n p X),.cells (smC v s),.cells [.int .i64 0,.int .i64 0,.nils]]=_:=kst
 have kso:=Wib hv hR hQ hX s.of hp X0o hK _ hτ2
 have ksp:=Qt6 hn (p:=p) hX s.ns s.pre true _ hτ2
 clear kst
 unfold Qcy
 rw [e_Zv]
 by_cases c1:s.kind=1∨s.kind=2
 ·rw [if_pos c1]
  generalize Qa7 n p s.ns s.pre s.name=q at *
  have hM1:=hM q.2
  have t1:=L q.1;have t2:=OK q.1;have t3:=NO q.1;have t4:=RB q.1;have t5:=MT q.1
  clear kcl kid kst' kso ksp l4 l10 l8 L OK NO RB MT hM hR hQ
  generalize tmC q.1=T at *
  generalize mkD n q.2 X=M' at *
  generalize mkD n p X=M at *
  generalize smC v s=S at *
  rcases c1 with c1|c1 <;> rw [c1] at l0 <;> simp +contextual -implicitDefEqProofs (disch:=try exact X0d) only [↓reduceIte,go_sem,s_Zv,h1,l0,l1,l2,l3,kel,t5]
 have c11:¬s.kind=1:=fun h=>c1 (.inl h)
 have c12:¬s.kind=2:=fun h=>c1 (.inr h)
 rw [if_neg c1]
 clear c1
 by_cases c3:s.kind=3
 ·rw [if_pos c3]
  generalize Qh0 p [99,108,97,115,115] 3 s.name=q at *
  have hM1:=hM q.2
  have t1:=L q.1;have t2:=OK q.1;have t3:=NO q.1;have t4:=RB q.1;have t5:=MT q.1
  clear kel kid kst' kso ksp l4 l10 l8 l1 l2 L OK NO RB MT hM hR hQ
  generalize tmC q.1=T at *
  generalize mkD n q.2 X=M' at *
  generalize mkD n p X=M at *
  generalize smC v s=S at *
  rw [c3] at l0
  simp +contextual -implicitDefEqProofs (disch:=try exact X0d) only [↓reduceIte,go_sem,s_Zv,h1,l0,l3,kcl,t5]
 rw [if_neg c3]
 by_cases c4:s.kind=4
 ·rw [if_pos c4]
  generalize Qh0 p [105,100] 2 s.name=q at *
  have hM1:=hM q.2
  have t1:=L q.1;have t2:=OK q.1;have t3:=NO q.1;have t4:=RB q.1;have t5:=MT q.1
  clear kel kcl kst' kso ksp l4 l10 l8 l1 l2 L OK NO RB MT hM hR hQ
  generalize tmC q.1=T at *
  generalize mkD n q.2 X=M' at *
  generalize mkD n p X=M at *
  generalize smC v s=S at *
  rw [c4] at l0
  simp +contextual -implicitDefEqProofs (disch:=try exact X0d) only [↓reduceIte,go_sem,s_Zv,h1,l0,l3,kid,t5]
 rw [if_neg c4]
 by_cases c5:s.kind=5
 ·rw [if_pos c5]
  clear kel kcl kid kst' kso
  have k2:=Qog (n:=n) (p:=p) hX (Qeh n s) X0o _ hτ2
  rw [Wdw hns] at *
  generalize spQ n s.ns s.pre true=q at *
  obtain ⟨qh,qs⟩:=q
  simp only [atC] at *
  generalize hA:(⟨2,qh,qs,s.name,s.op,s.text,s.fold⟩:Atm)=A at *
  have hM1:=hM (Qa1 p A).2
  have t1:=L (Qa1 p A).1;have t2:=OK (Qa1 p A).1;have t3:=NO (Qa1 p A).1;have t4:=RB (Qa1 p A).1;have t5:=MT (Qa1 p A).1
  rw [c5] at l0
  clear L OK NO RB MT hM hR hQ
  generalize tmC (Qa1 p A).1=T at *
  generalize mkD n (Qa1 p A).2 X=M' at *
  generalize mkD n p X=M at *
  generalize smC v s=S at *
  simp +contextual -implicitDefEqProofs (disch:=try exact X0d) only [↓reduceIte,go_sem,s_Zv,h1,l0,l1,l2,l3,l4,ksp,k2,t5]
 rw [if_neg c5]
 clear ksp
 by_cases c11':s.kind=11
 ·rw [if_pos c11']
  generalize Qa1 p ⟨3,false,[],s.name,0,[],false⟩=q at *
  have hM1:=hM q.2
  have t1:=L q.1;have t2:=OK q.1;have t3:=NO q.1;have t4:=RB q.1;have t5:=MT q.1
  clear kel kcl kid kso l4 l10 l8 l1 l2 L OK NO RB MT hM hR hQ
  generalize tmC q.1=T at *
  generalize mkD n q.2 X=M' at *
  generalize mkD n p X=M at *
  generalize smC v s=S at *
  rw [c11'] at l0
  simp +contextual -implicitDefEqProofs (disch:=try exact X0d) only [↓reduceIte,go_sem,s_Zv,h1,l0,l3,kst',t5]
 rw [if_neg c11']
 by_cases c6:s.kind=6
 ·rw [if_pos c6]
  have e1:tmC (.mk 6 0 [])=[.int .i64 6,.int .i64 0,.nils]:=rfl
  rw [e1]
  have hM1:=hM p
  clear kel kcl kid kst' kso l4 l10 l8 l1 l2 L OK NO RB MT hM hR hQ
  generalize mkD n p X=M at *
  generalize smC v s=S at *
  rw [c6] at l0
  simp +contextual -implicitDefEqProofs (disch:=try exact X0d) only [↓reduceIte,go_sem,s_Zv,h1,l0]
 rw [if_neg c6]
 have hw2:∀q:Pln,Wf [.cells (mkD n q X),.cells (smC v s),.cells [.int .i64 0,.int .i64 0,.nils]]:=fun q=>Qa9 (Qab (Qa3 hX) hτ2)
 by_cases c8:s.kind=8∨s.kind=9
 ·rw [if_pos c8]
  generalize r0 p s.of=q at *
  have hM1:=hM q.2
  have t1:=L (Qbo q.1);have t2:=OK (Qbo q.1);have t3:=NO (Qbo q.1);have t4:=RB (Qbo q.1);have t5:=MT (Qbo q.1)
  clear kel kcl kid kst' l4 l8 l1 l2 L OK NO RB MT hM hR hQ hw2
  generalize tmC (Qbo q.1)=T at *
  generalize mkD n q.2 X=M' at *
  generalize mkD n p X=M at *
  generalize smC v s=S at *
  rcases c8 with c8|c8 <;> rw [c8] at l0 <;> simp +contextual -implicitDefEqProofs (disch:=try exact X0d) only [↓reduceIte,go_sem,s_Zv,h1,l0,l10,Qaf,kso,t5]
 have c88:¬s.kind=8:=fun h=>c8 (.inl h)
 have c89:¬s.kind=9:=fun h=>c8 (.inr h)
 rw [if_neg c8]
 clear c8
 by_cases c10:s.kind=10
 ·rw [if_pos c10]
  generalize r0 p s.of=q at *
  have k2:=Qt5 (Qbo q.1) _ (hw2 q.2)
  have hM1:=hM q.2
  have t1:=L (notT (Qbo q.1));have t2:=OK (notT (Qbo q.1));have t3:=NO (notT (Qbo q.1));have t4:=RB (notT (Qbo q.1));have t5:=MT (notT (Qbo q.1))
  clear kel kcl kid kst' l4 l8 l1 l2 L OK NO RB MT hM hR hQ hw2
  generalize tmC (notT (Qbo q.1))=T at *
  generalize tmC (Qbo q.1)=T1 at *
  generalize mkD n q.2 X=M' at *
  generalize mkD n p X=M at *
  generalize smC v s=S at *
  rw [c10] at l0
  simp +contextual -implicitDefEqProofs (disch:=try exact X0d) only [↓reduceIte,go_sem,s_Zv,h1,l0,l10,Qaf,kso,k2,t5]
 rw [if_neg c10]
 by_cases c7:s.kind=7
 ·rw [if_pos c7]
  have k1:=Qt7 hv hQ hX s.of hp X0o hK [.cells (smC v s),.cells [.int .i64 0,.int .i64 0,.nils],.cells [.int .i64 0,.int .i64 0,.nils]] (Qab (Qbd hv) (Qab z (Qab z Qaq)))
  obtain ⟨_,⟨z1,z2,z3,z4,z5⟩,_⟩:=hR p s.of m X hX hp X0o
  generalize r0 p s.of=q at *
  obtain ⟨rs,q⟩:=q
  simp only at *
  have hM1:=hM (addC q ⟨s.a,s.b,rs⟩)
  have e1:tmC (.mk 5 q.ctrs.length [])=[.int .i64 5,.int .i64 q.ctrs.length,.nils]:=rfl
  have t1:∀H:Objs,Qbt (.cells (mkD n q X)::H) (.ptr 0 6)=some (vG vCt0 3 q.ctrs,.cells (mkDB n q X)::H):=fun H=>Qg7 rfl
  have a1:∀U,appV false true 3 40 U (vG vCt0 3 q.ctrs) (.sl [.agg [.int .i64 s.a,.int .i64 s.b,vI0 rs]] .no)=some (vG vCt0 3 (q.ctrs++[⟨s.a,s.b,rs⟩])):=fun U=>by
   refine Qfh (f:=vCt0) (x:=⟨s.a,s.b,rs⟩) (fun _=>rfl) (fun x=>Waj) (fun _=>rfl) ?_
   unfold Qbj
   omega
  have s1:∀H:Objs,stV (.cells (mkDB n q X)::H) 1 (.ptr 0 6) (vSl vCt0 (slo (q.ctrs++[⟨s.a,s.b,rs⟩]))) (vG vCt0 3 (q.ctrs++[⟨s.a,s.b,rs⟩]))=some (.undef,.cells (mkD n (addC q ⟨s.a,s.b,rs⟩) X)::H):=fun H=>Qwa (show 6<9 by decide)
  have l6:∀H:Objs,eL (.cells (mkD n (addC q ⟨s.a,s.b,rs⟩) X)::H) false 1 (.ptr 0 6)=some (vSl vCt0 (slo (q.ctrs++[⟨s.a,s.b,rs⟩]))):=fun H=>by
   show Option.map V.ng (some (vG vCt0 3 (q.ctrs++[⟨s.a,s.b,rs⟩])))=_
   rw [Qal,n_vG]
  have b0:Qaw [.int .i64 0,.int .i64 0,.nils] [(0,2,.agg [.int .i64 s.a,.int .i64 s.b]),(2,1,vI0 rs)]=some (.agg [.int .i64 s.a,.int .i64 s.b,vI0 rs]):=rfl
  have b1:Qam true 3 1 (.agg [.int .i64 0,.int .i64 0,.nils]) [(0,.agg [.int .i64 s.a,.int .i64 s.b,vI0 rs])]=some (.sl [.agg [.int .i64 s.a,.int .i64 s.b,vI0 rs]] .fx):=Qhi rfl (Waj (c:=⟨s.a,s.b,rs⟩))
  have sS:∀(O1 O2 O3:O),stV [O1,O2,O3,.cells [.int .i64 0,.int .i64 0,.nils]] 3 (.ptr 3 0) (.agg [.int .i64 s.a,.int .i64 s.b,vI0 rs]) (.agg [.int .i64 s.a,.int .i64 s.b,vI0 rs])=some (.undef,[O1,O2,O3,.cells [.int .i64 s.a,.int .i64 s.b,vI0 rs]]):=fun O1 O2 O3=>Qc7 rfl rfl rfl (Waj (c:=⟨s.a,s.b,rs⟩)) (Wl2 (c:=⟨s.a,s.b,rs⟩))
  have lS:∀(O1 O2 O3:O),eL [O1,O2,O3,.cells [.int .i64 s.a,.int .i64 s.b,vI0 rs]] true 3 (.ptr 3 0)=some (.agg [.int .i64 s.a,.int .i64 s.b,vI0 rs]):=fun O1 O2 O3=>rfl
  have e2:(slo (q.ctrs++[⟨s.a,s.b,rs⟩])).l.length=q.ctrs.length+1:=by rw [Qfg,Xas];rfl
  have e3:((q.ctrs.length+1:Nat):Int)=(q.ctrs.length:Int)+1:=by omega
  have nR:(vI0 rs).ng=vI0 rs:=rfl
  rw [e1]
  clear kel kcl kid kst' kso l4 l1 l2 L OK NO RB MT hM hR hQ hw2
  generalize mkD n (addC q ⟨s.a,s.b,rs⟩) X=M2 at *
  generalize mkDB n q X=M1 at *
  generalize mkD n q X=M' at *
  generalize mkD n p X=M at *
  generalize smC v s=S at *
  generalize vI0 rs=I at *
  generalize q.ctrs++[⟨s.a,s.b,rs⟩]=CS at *
  rw [c7] at l0
  simp +contextual -implicitDefEqProofs (disch:=try exact X0d) only [↓reduceIte,go_sem,s_Zv,h1,l0,l8,l10,Qaf,n_vG,Qah,nR,Wdy,Wdx,k1,b0,sS,t1,lS,b1,a1,s1,l6,e2,e3,Xch]
 rw [if_neg c7]
 by_cases c12':s.kind=12
 ·rw [if_pos c12']
  clear kel kcl kid kst' kso
  have zt:∀ {t:Trm},V.rbs 0 (tmC t)=true:=fun {t} => Qeg
  have k1:=Qjj hn (p:=p) hX 0 ⟨by decide,by decide⟩ [] [97] X0o _ hτ2
  have q1:=Qfq (n:=n) (p:=p) (ns:=0) (pre:=[]) (name:=[97])
  unfold Ql7
  simp only
  generalize Qa7 n p 0 [] [97]=a at *
  have k2:=Qjj hn (p:=a.2) hX 0 ⟨by decide,by decide⟩ [] [97,114,101,97] X0o [.cells (smC v s),.cells [.int .i64 0,.int .i64 0,.nils],.cells (tmC a.1)] (Qab (Qbd hv) (Qab z (Qab zt Qaq)))
  have q2:=Qfq (n:=n) (p:=a.2) (ns:=0) (pre:=[]) (name:=[97,114,101,97])
  generalize Qa7 n a.2 0 [] [97,114,101,97]=b at *
  have k3:=Qoh (n:=n) (p:=b.2) hX [104,114,101,102] 1 [] X0o [.cells (smC v s),.cells [.int .i64 0,.int .i64 0,.nils],.cells (tmC a.1),.cells (tmC b.1)] (Qab (Qbd hv) (Qab z (Qab zt (Qab zt Qaq))))
  generalize Qh0 b.2 [104,114,101,102] 1 []=c at *
  have hw3:Wf [.cells (mkD n c.2 X),.cells (smC v s),.cells [.int .i64 0,.int .i64 0,.nils],.cells (tmC a.1),.cells (tmC b.1),.cells (tmC c.1)]:=Qa9 (Qab (Qa3 hX) (Qab (Qbd hv) (Qab z (Qab zt (Qab zt (Qab zt Qaq))))))
  have bf:∀t u:Trm,Qam true 3 2 (.agg [.int .i64 0,.int .i64 0,.nils]) [(0,.agg (tmC t)),(1,.agg (tmC u))]=some (.sl [.agg (tmC t),.agg (tmC u)] .fx):=fun t u=>We9 Qbz Qd3 Qbz Qd3
  have bv:∀t u:Trm,tmC (anyT [t,u])=[.int .i64 4,.int .i64 0,.sl [.agg (tmC t),.agg (tmC u)] .no]:=fun t u=>by
   show [V.int .i64 4,.int .i64 0,V.sl [vT t,vT u] .no]=_
   rw [Qhy,Qhy]
  have k5:=Qt5 (anyT [a.1,b.1]) _ hw3
  have k6:=Qt5 c.1 _ hw3
  have k8:=Qt5 (anyT [notT (anyT [a.1,b.1]),notT c.1]) _ hw3
  rw [bv] at k5 k8
  have bf1:=bf a.1 b.1
  have bf2:=bf (notT (anyT [a.1,b.1])) (notT c.1)
  have op:Qei [Qcn true 3 (.ptr 5 0)] [.cells (mkD n c.2 X),.cells (smC v s),.cells [.int .i64 0,.int .i64 0,.nils],.cells (tmC a.1),.cells (tmC b.1),.cells (tmC c.1)] [.cells (mkD n c.2 X),.cells (smC v s),.cells [.int .i64 0,.int .i64 0,.nils],.cells (tmC a.1),.cells (tmC b.1),.cells (tmC c.1)]=some [.cells (mkD n c.2 X),.cells (smC v s),.cells [.int .i64 0,.int .i64 0,.nils],.cells (tmC a.1),.cells (tmC b.1),.cells (tmC c.1)]:=Qod rfl
  have sA:∀(O1 O2 O3:O),stV [O1,O2,O3,.cells [.int .i64 0,.int .i64 0,.nils]] 3 (.ptr 3 0) (.agg (tmC a.1)) (.agg (tmC a.1))=some (.undef,[O1,O2,O3,.cells (tmC a.1)]):=fun O1 O2 O3=>Qc7 rfl rfl Qbz Qd3 Qd4
  have sB:∀(O1 O2 O3 O4:O),stV [O1,O2,O3,O4,.cells [.int .i64 0,.int .i64 0,.nils]] 3 (.ptr 4 0) (.agg (tmC b.1)) (.agg (tmC b.1))=some (.undef,[O1,O2,O3,O4,.cells (tmC b.1)]):=fun O1 O2 O3 O4=>Qc7 rfl rfl Qbz Qd3 Qd4
  have sC:∀(O1 O2 O3 O4 O5:O),stV [O1,O2,O3,O4,O5,.cells [.int .i64 0,.int .i64 0,.nils]] 3 (.ptr 5 0) (.agg (tmC c.1)) (.agg (tmC c.1))=some (.undef,[O1,O2,O3,O4,O5,.cells (tmC c.1)]):=fun O1 O2 O3 O4 O5=>Qc7 rfl rfl Qbz Qd3 Qd4
  have lA:∀(O1 O2 O3:O) (H:Objs),eL (O1::O2::O3 :: .cells (tmC a.1)::H) true 3 (.ptr 3 0)=some (.agg (tmC a.1)):=fun O1 O2 O3 H=>Qbf rfl Qbz Qd4
  have lB:∀(O1 O2 O3 O4:O) (H:Objs),eL (O1::O2::O3::O4 :: .cells (tmC b.1)::H) true 3 (.ptr 4 0)=some (.agg (tmC b.1)):=fun O1 O2 O3 O4 H=>Qbf rfl Qbz Qd4
  have lC:∀(O1 O2 O3 O4 O5:O) (H:Objs),eL (O1::O2::O3::O4::O5 :: .cells (tmC c.1)::H) true 3 (.ptr 5 0)=some (.agg (tmC c.1)):=fun O1 O2 O3 O4 O5 H=>Qbf rfl Qbz Qd4
  have hM1:=hM c.2
  generalize hT5:anyT [notT (anyT [a.1,b.1]),notT c.1]=t5 at *
  have u1:=L (notT t5);have u2:=OK (notT t5);have u3:=NO (notT t5);have u4:=RB (notT t5);have u5:=MT (notT t5)
  generalize notT t5=t6 at *
  clear L OK NO RB MT hM hR hQ hw2 hw3 bf bv q1 q2 hT5 l1 l2 l3 l4 l8 l10
  generalize tmC (notT (anyT [a.1,b.1]))=N1 at *
  generalize tmC (notT c.1)=N2 at *
  generalize tmC t6=T6 at *
  generalize tmC a.1=TA at *
  generalize tmC b.1=TB at *
  generalize tmC c.1=TC at *
  generalize mkD n a.2 X=MA at *
  generalize mkD n b.2 X=MB at *
  generalize mkD n c.2 X=MC at *
  generalize mkD n p X=M at *
  generalize smC v s=S at *
  rw [c12'] at l0
  simp +contextual -implicitDefEqProofs (disch:=try exact X0d) only [↓reduceIte,go_sem,s_Zv,h1,l0,k1,k2,k3,sA,sB,sC,lA,lB,lC,bf1,bf2,k5,k6,k8,op,u5]
 rw [if_neg c12']
 have e1:tmC (.mk 7 0 [])=[.int .i64 7,.int .i64 0,.nils]:=rfl
 rw [e1]
 have hM1:=hM p
 clear kel kcl kid kst' kso l4 l10 l8 l1 l2 L OK NO RB MT hM hR hQ hw2
 generalize mkD n p X=M at *
 generalize smC v s=S at *
 generalize s.kind=kind at *
 simp +contextual -implicitDefEqProofs (disch:=try exact X0d) only [↓reduceIte,go_sem,s_Zv,h1,l0,c11,c12,c3,c4,c5,c11',c6,c88,c89,c10,c7,c12']
end
section
variable {α:Type} {v:α→V} (hv:∀n x,V.rb n (v x)=true)
include hv
theorem Wak (c:Co α) (hc:c.list.l.length≤1000000000) (hx:∀x∈c.list.l,x.list.l.length≤1000000000) (U:Objs) (hσ:Wf U):E cx 87 [.agg (coC v c)] U=some (.str (Qb9 c),U):=by
 refine Qbe Qbb ?_ (by simp only [Qag,Qa0,Qc1 hv];rfl) rfl U hσ
 have h1:boxV [] (.agg (coC v c))=some (.ptr 0 0,[.cells (coC v c)]):=Qau Qv5 Qj6
 have l0:eL [.cells (coC v c)] false 1 (.ptr 0 0)=some (vSl (vCp v) c.list):=by
  show Option.map V.ng (some (vSl (vCp v) c.list))=_
  rw [Qal,Qaf]
 rw [e_Z3d]
 unfold Qb9
 by_cases c1:c.list.l=[]
 ·have e1:(c.list.l.length:Int)=0:=by rw [c1];rfl
  rw [show c.list.l.getLast? = none by rw [c1];rfl]
  generalize coC v c=C at *
  simp +contextual -implicitDefEqProofs (disch:=try exact X0d) only [↓reduceIte,go_sem,s_Z3d,h1,l0,Qah,e1]
 ·have hpos:0<c.list.l.length:=Xcr.2 c1
  have e1:¬(c.list.l.length:Int)=0:=by omega
  obtain ⟨x,hlx⟩:∃x,c.list.l.getLast? = some x:=by
   cases h:c.list.l.getLast? with
   |none=>exact absurd (Xcj.1 h) c1
   |some x=>exact ⟨x,rfl⟩
  have hx1:c.list.l[((c.list.l.length:Int) - 1).toNat]? = some x:=by
   rw [Xck] at hlx
   rw [show ((c.list.l.length:Int) - 1).toNat=c.list.l.length - 1 by omega]
   exact hlx
  have hxl:=hx x (Xat hx1)
  have i1:eI 2 (.int .i64 ((c.list.l.length:Int) - 1)) (vSl (vCp v) c.list)=some (.eptr (cpC v x) 0):=Qcv (f:=vCp v) hx1 X0o rfl
  have l1:∀U,eL U false 1 (.eptr (cpC v x) 1)=some (vSl (vSm v) x.list):=fun U=>by
   show Option.map V.ng (some (vSl (vSm v) x.list))=_
   rw [Qal,Qaf]
  rw [hlx]
  show _=some (V.str (Wae x),_)
  unfold Wae
  by_cases c2:x.list.l=[]
  ·have e2:(x.list.l.length:Int)=0:=by rw [c2];rfl
   rw [show x.list.l.getLast? = none by rw [c2];rfl]
   generalize coC v c=C at *
   generalize cpC v x=Y at *
   simp +contextual -implicitDefEqProofs (disch:=try exact X0d) only [↓reduceIte,go_sem,s_Z3d,h1,l0,Qah,e1,i1,l1,e2,Qaf]
  ·have hpos2:0<x.list.l.length:=Xcr.2 c2
   have e2:¬(x.list.l.length:Int)=0:=by omega
   obtain ⟨s,hls⟩:∃s,x.list.l.getLast? = some s:=by
    cases h:x.list.l.getLast? with
    |none=>exact absurd (Xcj.1 h) c2
    |some s=>exact ⟨s,rfl⟩
   have hs1:x.list.l[((x.list.l.length:Int) - 1).toNat]? = some s:=by
    rw [Xck] at hls
    rw [show ((x.list.l.length:Int) - 1).toNat=x.list.l.length - 1 by omega]
    exact hls
   have i2:eI 11 (.int .i64 ((x.list.l.length:Int) - 1)) (vSl (vSm v) x.list)=some (.eptr (smC v s) 0):=Qcv (f:=vSm v) hs1 X0o rfl
   have l2:∀U,eL U true 11 (.eptr (smC v s) 0)=some (.agg (smC v s)):=fun U=>Qc3 rfl Qc6
   have s2:∀O1,stV [O1,.cells [.int .i64 0,.int .i64 0,.str [],.str [],.int .i64 0,.str [],.bool false,.int .i64 0,.int .i64 0,.int .i64 0,.nils]] 11 (.ptr 1 0) (.agg (smC v s)) (.agg (smC v s))=some (.undef,[O1,.cells (smC v s)]):=fun O1=>Qc7 rfl rfl rfl Qf2 Qc6
   have l3:∀O1,eL [O1,.cells (smC v s)] false 1 (.ptr 1 0)=some (.int .i64 s.kind):=fun O1=>rfl
   have l4:∀O1,eL [O1,.cells (smC v s)] false 1 (.ptr 1 3)=some (.str s.name):=fun O1=>rfl
   rw [hls]
   simp only
   generalize coC v c=C at *
   generalize cpC v x=Y at *
   generalize smC v s=S at *
   by_cases c3:s.kind=13
   ·rw [if_pos c3]
    rw [c3] at l3
    simp +contextual -implicitDefEqProofs (disch:=try exact X0d) only [↓reduceIte,go_sem,s_Z3d,h1,l0,Qah,e1,i1,l1,e2,Qaf,i2,l2,s2,l3,l4]
   ·rw [if_neg c3]
    simp +contextual -implicitDefEqProofs (disch:=try exact X0d) only [↓reduceIte,go_sem,s_Z3d,h1,l0,Qah,e1,i1,l1,e2,Qaf,i2,l2,s2,l3,c3]
end
section
variable {α:Type} {v:α→V} (hv:∀n x,V.rb n (v x)=true) {n:Nms} (hn:NmB n) {r0:Pln→Sl α→List Int×Pln} {w0:Sl α→Nat} {K:Sl α→Prop}
variable (hR:Qer v n r0 w0) (hQ:Qwb v n r0 w0 K) {X:V} (hX:V.rb 0 X=true)
include hv hn hR hQ hX
theorem Wal (c:Co α) (i:Int) (hi:0≤i∧i≤800000) (ss:List Stp) (hss:ss.length≤800000) (ps:List UInt8) (x:Cp α) (hxl:x.list.l.length≤800000) (hix:eI 2 (.int .i64 i) (vSl (vCp v) c.list)=some (.eptr (cpC v x) 0)) (r1:Rk):∀(r q:List (Sm α)) (p:Pln) (m:Nat) (ts:List Trm),x.list.l=q++r→(∀s∈r,nsS K s)→Pz p m→m+wX w0 r≤800000→ts.length+r.length≤800000→
  l_Zs_1 (Mi cx) 1 3 r1 4 [.ptr 0 0,.ptr 1 0,.ptr 2 0,.int .i64 i,.ptr 3 0,.int .i64 q.length] [.cells (mkD n p X),.cells (coC v c),.cells (rwG 0 ss ps),.cells (stG x.comb ts)]=
   r1 [.ptr 0 0,.ptr 1 0,.ptr 2 0,.int .i64 (i+1)] [.cells (mkD n (Qbk r0 n p r).2 X),.cells (coC v c),.cells (rwG 0 (ss++[⟨x.comb,ts++(Qbk r0 n p r).1⟩]) ps)]
 |[],q,p,m,ts,hq,hK,hp,hm,ht=>by
  have hlen:x.list.l.length=q.length:=by rw [hq];simp
  have e1:¬(q.length:Int)<x.list.l.length:=by omega
  have l0:∀(O1:O) (H:Objs),eL (O1 :: .cells (coC v c)::H) false 1 (.ptr 1 0)=some (vSl (vCp v) c.list):=fun O1 H=>by
   show Option.map V.ng (some (vSl (vCp v) c.list))=_
   rw [Qal,Qaf]
  have l1:∀U,eL U false 1 (.eptr (cpC v x) 1)=some (vSl (vSm v) x.list):=fun U=>by
   show Option.map V.ng (some (vSl (vSm v) x.list))=_
   rw [Qal,Qaf]
  have cl4:Cl0 [.cells (mkD n p X),.cells (coC v c),.cells (rwG 0 ss ps),.cells (stG x.comb ts)]:=Qab (Qa3 hX) (Qab (Qc1 hv) (Qab Qez (Qab Qlo Qaq)))
  have c4:cuO 4 [.cells (mkD n p X),.cells (coC v c),.cells (rwG 0 ss ps),.cells (stG x.comb ts)]=some [.cells (mkD n p X),.cells (coC v c),.cells (rwG 0 ss ps),.cells (stG x.comb ts)]:=Qcz (Qa9 cl4)
  have ld1:Qbt [.cells (mkD n p X),.cells (coC v c),.cells (rwG 0 ss ps),.cells (stG x.comb ts)] (.ptr 2 1)=some (vG vStp 2 ss,[.cells (mkD n p X),.cells (coC v c),.cells ((rwG 0 ss ps).set 1 (vSl vStp (slo ss))),.cells (stG x.comb ts)]):=Qfr (B:=[_,_]) rfl rfl
  have ld2:eL [.cells (mkD n p X),.cells (coC v c),.cells ((rwG 0 ss ps).set 1 (vSl vStp (slo ss))),.cells (stG x.comb ts)] true 2 (.ptr 3 0)=some (.agg (stC ⟨x.comb,ts⟩)):=by
   show some (V.agg [(V.int .i64 x.comb).ng,(vG vT 3 ts).ng])=_
   rw [n_vG];rfl
  have b1:Qam true 2 1 (.agg [.int .i64 0,.nils]) [(0,.agg (stC ⟨x.comb,ts⟩))]=some (.sl [.agg (stC ⟨x.comb,ts⟩)] .fx):=Qhi rfl Wdo
  have a1:∀U,appV false true 2 32 U (vG vStp 2 ss) (.sl [.agg (stC ⟨x.comb,ts⟩)] .no)=some (vG vStp 2 (ss++[⟨x.comb,ts⟩])):=fun U=>by
   refine Qfh (f:=vStp) (x:=⟨x.comb,ts⟩) (fun _=>rfl) (fun _=>Wdo) (fun _=>rfl) ?_
   unfold Qbj
   omega
  have s1:stV [.cells (mkD n p X),.cells (coC v c),.cells ((rwG 0 ss ps).set 1 (vSl vStp (slo ss))),.cells (stG x.comb ts)] 1 (.ptr 2 1) (vSl vStp (slo (ss++[⟨x.comb,ts⟩]))) (vG vStp 2 (ss++[⟨x.comb,ts⟩]))=some (.undef,[.cells (mkD n p X),.cells (coC v c),.cells (rwG 0 (ss++[⟨x.comb,ts⟩]) ps),.cells (stG x.comb ts)]):=Qrz (B:=[_,_]) (cs:=(rwG 0 ss ps).set 1 (vSl vStp (slo ss))) rfl (show 1<3 by decide)
  have cl3:Cl0 [.cells (mkD n p X),.cells (coC v c),.cells (rwG 0 (ss++[⟨x.comb,ts⟩]) ps)]:=Qab (Qa3 hX) (Qab (Qc1 hv) (Qab Qez Qaq))
  have c3:∀H:Objs,cuO 3 (.cells (mkD n p X) :: .cells (coC v c) :: .cells (rwG 0 (ss++[⟨x.comb,ts⟩]) ps)::H)=some [.cells (mkD n p X),.cells (coC v c),.cells (rwG 0 (ss++[⟨x.comb,ts⟩]) ps)]:=fun H=>Qew (U:=[_,_,_]) (H:=H) (Qa9 cl3)
  rw [u_Zs_1]
  unfold Qbk
  rw [Xbe]
  clear hR hQ
  generalize (rwG 0 ss ps).set 1 (vSl vStp (slo ss))=R1 at *
  generalize rwG 0 (ss++[⟨x.comb,ts⟩]) ps=R2 at *
  generalize rwG 0 ss ps=R0 at *
  generalize hS:ss++[(⟨x.comb,ts⟩:Stp)]=SS at *
  generalize stC ⟨x.comb,ts⟩=SC at *
  generalize stG x.comb ts=SG at *
  generalize mkD n p X=M at *
  generalize coC v c=C at *
  generalize cpC v x=Y at *
  simp +contextual -implicitDefEqProofs (disch:=try exact X0d) only [↓reduceIte,go_sem,b_Zs_1,l0,hix,l1,Qah,e1,c4,ld1,ld2,b1,a1,s1,c3,Qaf,n_vG]
 |s::r,q,p,m,ts,hq,hK,hp,hm,ht=>by
  have hlen:x.list.l.length=q.length+r.length+1:=by rw [hq];simp;omega
  have hm':m+(4+w0 s.of)+wX w0 r≤800000:=by
   have:wX w0 (s::r)=4+w0 s.of+wX w0 r:=rfl
   omega
  have hPr:=(hR p s.of m .nils rfl hp X0o).2.1
  have hPt:Pz (Qcy r0 n p s).2 (m+(4+w0 s.of)):=Pz.term hp hPr
  have ih2:=Wal c i hi ss hss ps x hxl hix r1 r (q++[s]) (Qcy r0 n p s).2 (m+(4+w0 s.of)) (ts++[(Qcy r0 n p s).1]) (by rw [hq];simp) (fun s hs=>hK s (Xax _ hs)) hPt hm' (by rw [Xas];have h1:[(Qcy r0 n p s).1].length=1:=rfl;rw [Xal] at ht;omega)
  rw [show ((q++[s]).length:Int)=q.length+1 by simp] at ih2
  have eT:(Qbk r0 n p (s::r)).2=(Qbk r0 n (Qcy r0 n p s).2 r).2:=rfl
  have eT1:ts++(Qbk r0 n p (s::r)).1=ts++[(Qcy r0 n p s).1]++(Qbk r0 n (Qcy r0 n p s).2 r).1:=by
   rw [Xa2];rfl
  rw [eT,eT1,←ih2,u_Zs_1]
  clear ih2 eT eT1
  have e1:(q.length:Int)<x.list.l.length:=by omega
  have l0:∀(O1:O) (H:Objs),eL (O1 :: .cells (coC v c)::H) false 1 (.ptr 1 0)=some (vSl (vCp v) c.list):=fun O1 H=>by
   show Option.map V.ng (some (vSl (vCp v) c.list))=_
   rw [Qal,Qaf]
  have l1:∀U,eL U false 1 (.eptr (cpC v x) 1)=some (vSl (vSm v) x.list):=fun U=>by
   show Option.map V.ng (some (vSl (vSm v) x.list))=_
   rw [Qal,Qaf]
  have i1:eI 11 (.int .i64 q.length) (vSl (vSm v) x.list)=some (.eptr (smC v s) 0):=Qax (f:=vSm v) hq rfl rfl
  have i2:∀U,eL U true 11 (.eptr (smC v s) 0)=some (.agg (smC v s)):=fun U=>Qc3 rfl Qc6
  have k1:=Wic hv hn hR hQ hX s (hK s (Xaw ..)) hp X0o [.cells (coC v c),.cells (rwG 0 ss ps),.cells (stG x.comb ts)] (Qab (Qc1 hv) (Qab Qez (Qab Qlo Qaq)))
  generalize Qcy r0 n p s=q1 at *
  have i3:∀O1 O2 O3 O4:O,stV [O1,O2,O3,O4,.cells [.int .i64 0,.int .i64 0,.nils]] 3 (.ptr 4 0) (.agg (tmC q1.1)) (.agg (tmC q1.1))=some (.undef,[O1,O2,O3,O4,.cells (tmC q1.1)]):=fun O1 O2 O3 O4=>Qc7 rfl rfl Qbz Qd3 Qd4
  have ld1:Qbt [.cells (mkD n q1.2 X),.cells (coC v c),.cells (rwG 0 ss ps),.cells (stG x.comb ts),.cells (tmC q1.1)] (.ptr 3 1)=some (vG vT 3 ts,[.cells (mkD n q1.2 X),.cells (coC v c),.cells (rwG 0 ss ps),.cells ((stG x.comb ts).set 1 (vSl vT (slo ts))),.cells (tmC q1.1)]):=Qfr (B:=[_,_,_]) rfl rfl
  have ld2:∀O1 O2 O3 O4:O,eL [O1,O2,O3,O4,.cells (tmC q1.1)] true 3 (.ptr 4 0)=some (.agg (tmC q1.1)):=fun O1 O2 O3 O4=>Qbf rfl Qbz Qd4
  have b1:Qam true 3 1 (.agg [.int .i64 0,.int .i64 0,.nils]) [(0,.agg (tmC q1.1))]=some (.sl [.agg (tmC q1.1)] .fx):=Qhi Qbz Qd3
  have a1:∀U,appV false true 3 40 U (vG vT 3 ts) (.sl [.agg (tmC q1.1)] .no)=some (vG vT 3 (ts++[q1.1])):=fun U=>Qt2 X0o
  have s1:stV [.cells (mkD n q1.2 X),.cells (coC v c),.cells (rwG 0 ss ps),.cells ((stG x.comb ts).set 1 (vSl vT (slo ts))),.cells (tmC q1.1)] 1 (.ptr 3 1) (vSl vT (slo (ts++[q1.1]))) (vG vT 3 (ts++[q1.1]))=some (.undef,[.cells (mkD n q1.2 X),.cells (coC v c),.cells (rwG 0 ss ps),.cells (stG x.comb (ts++[q1.1])),.cells (tmC q1.1)]):=Qrz (B:=[_,_,_]) (cs:=(stG x.comb ts).set 1 (vSl vT (slo ts))) rfl (show 1<2 by decide)
  have cl4:Cl0 [.cells (mkD n q1.2 X),.cells (coC v c),.cells (rwG 0 ss ps),.cells (stG x.comb (ts++[q1.1]))]:=Qab (Qa3 hX) (Qab (Qc1 hv) (Qab Qez (Qab Qlo Qaq)))
  have c4:cuO 4 [.cells (mkD n q1.2 X),.cells (coC v c),.cells (rwG 0 ss ps),.cells (stG x.comb (ts++[q1.1])),.cells (tmC q1.1)]=some [.cells (mkD n q1.2 X),.cells (coC v c),.cells (rwG 0 ss ps),.cells (stG x.comb (ts++[q1.1]))]:=Qew (U:=[_,_,_,_]) (H:=[_]) (Qa9 cl4)
  clear hR hQ hPt hK
  generalize (stG x.comb ts).set 1 (vSl vT (slo ts))=SN at *
  generalize stG x.comb (ts++[q1.1])=SG2 at *
  generalize stG x.comb ts=SG at *
  generalize rwG 0 ss ps=R0 at *
  generalize mkD n q1.2 X=M2 at *
  generalize mkD n p X=M at *
  generalize coC v c=C at *
  generalize cpC v x=Y at *
  generalize smC v s=S at *
  generalize tmC q1.1=T at *
  generalize ts++[q1.1]=TS at *
  simp +contextual -implicitDefEqProofs (disch:=try exact X0d) only [↓reduceIte,go_sem,b_Zs_1,l0,hix,l1,Qah,e1,i1,i2,i3,ld1,ld2,k1,b1,a1,s1,c4,Qaf,n_vG]
theorem Wam (c:Co α) (hcl:c.list.l.length≤800000) (ps:List UInt8) (hw:∀x∈c.list.l,x.list.l.length≤800000) (hK:∀x∈c.list.l,∀s∈x.list.l,nsS K s):∀(r q:List (Cp α)) (p:Pln) (m:Nat) (ss:List Stp),c.list.l=q++r→Pz p m→m+wC w0 r≤800000→ss.length=q.length→
  l_Zs_0 (Mi cx) 1 3 [.ptr 0 0,.ptr 1 0,.ptr 2 0,.int .i64 q.length] [.cells (mkD n p X),.cells (coC v c),.cells (rwG 0 ss ps)]=
   some (.int .i64 (Qcf r0 n p r).2.rows.length,[.cells (mkD n (addR (Qcf r0 n p r).2 (ss++(Qcf r0 n p r).1) ps) X)])
 |[],q,p,m,ss,hq,hp,hm,hs=>by
  have hlen:c.list.l.length=q.length:=by rw [hq];simp
  show _=some (V.int .i64 p.rows.length,[O.cells (mkD n (addR p (ss++[]) ps) X)])
  rw [Xbe]
  obtain ⟨p1,p2,p3,p4,p5⟩:=hp
  have hm0:m≤800000:=by omega
  have hlq:(c.list.l.length:Int)=ss.length:=by omega
  have e1:¬(q.length:Int)<c.list.l.length:=by omega
  have l0:∀(O1:O) (H:Objs),eL (O1 :: .cells (coC v c)::H) false 1 (.ptr 1 0)=some (vSl (vCp v) c.list):=fun O1 H=>by
   show Option.map V.ng (some (vSl (vCp v) c.list))=_
   rw [Qal,Qaf]
  have cl3:∀p,Cl0 [.cells (mkD n p X),.cells (coC v c),.cells (rwG 0 ss ps)]:=fun p=>Qab (Qa3 hX) (Qab (Qc1 hv) (Qab Qez Qaq))
  have c3:cuO 3 [.cells (mkD n p X),.cells (coC v c),.cells (rwG 0 ss ps)]=some [.cells (mkD n p X),.cells (coC v c),.cells (rwG 0 ss ps)]:=Qcz (Qa9 (cl3 p))
  have l8:eL [.cells (mkD n p X),.cells (coC v c),.cells (rwG 0 ss ps)] false 1 (.ptr 0 8)=some (.int .i64 p.steps):=rfl
  have s0:stV [.cells (mkD n p X),.cells (coC v c),.cells (rwG 0 ss ps)] 1 (.ptr 2 0) (.int .i64 p.steps) (.int .i64 p.steps)=some (.undef,[.cells (mkD n p X),.cells (coC v c),.cells (rwG p.steps ss ps)]):=rfl
  have l8':eL [.cells (mkD n p X),.cells (coC v c),.cells (rwG p.steps ss ps)] false 1 (.ptr 0 8)=some (.int .i64 p.steps):=rfl
  have s8:stV [.cells (mkD n p X),.cells (coC v c),.cells (rwG p.steps ss ps)] 1 (.ptr 0 8) (.int .i64 (p.steps+ss.length)) (.int .i64 (p.steps+ss.length))=some (.undef,[.cells (mkD n { p with steps:=p.steps+ss.length } X),.cells (coC v c),.cells (rwG p.steps ss ps)]):=rfl
  have ld5:Qbt [.cells (mkD n { p with steps:=p.steps+ss.length } X),.cells (coC v c),.cells (rwG p.steps ss ps)] (.ptr 0 5)=some (vG vRw 3 p.rows,[.cells ((mkD n { p with steps:=p.steps+ss.length } X).set 5 (vSl vRw (slo p.rows))),.cells (coC v c),.cells (rwG p.steps ss ps)]):=Qg7 rfl
  have lr:∀(O1 O2:O),eL [O1,O2,.cells (rwG p.steps ss ps)] true 3 (.ptr 2 0)=some (.agg (rwC ⟨p.steps,ss,ps⟩)):=fun O1 O2=>by
   show some (V.agg [(V.int .i64 p.steps).ng,(vG vStp 2 ss).ng,(V.str ps).ng])=_
   rw [n_vG];rfl
  have b1:Qam true 3 1 (.agg [.int .i64 0,.nils,.str []]) [(0,.agg (rwC ⟨p.steps,ss,ps⟩))]=some (.sl [.agg (rwC ⟨p.steps,ss,ps⟩)] .fx):=Qhi rfl Qv9
  have a1:∀U,appV false true 3 48 U (vG vRw 3 p.rows) (.sl [.agg (rwC ⟨p.steps,ss,ps⟩)] .no)=some (vG vRw 3 (p.rows++[⟨p.steps,ss,ps⟩])):=fun U=>by
   refine Qfh (f:=vRw) (x:=⟨p.steps,ss,ps⟩) (fun _=>rfl) (fun _=>Qv9) (fun _=>rfl) ?_
   unfold Qbj
   omega
  have s5:stV [.cells ((mkD n { p with steps:=p.steps+ss.length } X).set 5 (vSl vRw (slo p.rows))),.cells (coC v c),.cells (rwG p.steps ss ps)] 1 (.ptr 0 5) (vSl vRw (slo (p.rows++[⟨p.steps,ss,ps⟩]))) (vG vRw 3 (p.rows++[⟨p.steps,ss,ps⟩]))=some (.undef,[.cells (mkD n (addR p ss ps) X),.cells (coC v c),.cells (rwG p.steps ss ps)]):=Qwa (show 5<9 by decide)
  have l5:eL [.cells (mkD n (addR p ss ps) X),.cells (coC v c),.cells (rwG p.steps ss ps)] false 1 (.ptr 0 5)=some (vSl vRw (slo (p.rows++[⟨p.steps,ss,ps⟩]))):=by
   show Option.map V.ng (some (vG vRw 3 (p.rows++[⟨p.steps,ss,ps⟩])))=_
   rw [Qal,n_vG]
  have e2:(slo (p.rows++[(⟨p.steps,ss,ps⟩:Rw)])).l.length=p.rows.length+1:=by rw [Qfg,Xas];rfl
  have e3:((p.rows.length+1:Nat):Int)=(p.rows.length:Int)+1:=by omega
  have hM:V.rbs 1 (mkD n (addR p ss ps) X)=true:=rbs0 (Qa3 hX)
  rw [u_Zs_0]
  clear hR hQ hK
  generalize mkD n (addR p ss ps) X=M3 at *
  generalize (mkD n { p with steps:=p.steps+ss.length } X).set 5 (vSl vRw (slo p.rows))=M2 at *
  generalize mkD n { p with steps:=p.steps+ss.length } X=M1 at *
  generalize mkD n p X=M at *
  generalize coC v c=C at *
  generalize rwC ⟨p.steps,ss,ps⟩=RC at *
  generalize hRS:p.rows++[(⟨p.steps,ss,ps⟩:Rw)]=RS at *
  generalize rwG p.steps ss ps=R1 at *
  generalize rwG 0 ss ps=R0 at *
  generalize p.steps=st at *
  rw [hlq] at e1
  simp +contextual -implicitDefEqProofs (disch:=try exact X0d) only [↓reduceIte,go_sem,b_Zs_0,l0,hlq,e1,c3,l8,s0,l8',s8,ld5,lr,b1,a1,s5,l5,e2,e3,Qaf,n_vG,Qah,Xch]
 |x::r,q,p,m,ss,hq,hp,hm,hs=>by
  have hlen:c.list.l.length=q.length+r.length+1:=by rw [hq];simp;omega
  have hm':m+(1+wX w0 x.list.l+wC w0 r)≤800000:=hm
  have hxm:x∈c.list.l:=by rw [hq];simp
  have hxl:=hw x hxm
  have e1:(q.length:Int)<c.list.l.length:=by omega
  have i1:eI 2 (.int .i64 q.length) (vSl (vCp v) c.list)=some (.eptr (cpC v x) 0):=Qax (f:=vCp v) hq rfl rfl
  have hT:=(Wah hv hn hR hX c q.length X0o ss X0o ps x hxl (l_Z5_0 (Mi cx) 1 3) x.list.l [] p m [] rfl hp X0o (by simp only [Xa9];omega)).1
  have hrow:=Wal hv hn hR hQ hX c q.length X0o ss X0o ps x hxl i1 (l_Zs_0 (Mi cx) 1 3) x.list.l [] p m [] rfl (hK x hxm) hp X0o (by simp only [Xa9];omega)
  have h3:=Wam c hcl ps hw hK r (q++[x]) (Qbk r0 n p x.list.l).2 (m+wX w0 x.list.l) (ss++[⟨x.comb,[]++(Qbk r0 n p x.list.l).1⟩]) (by rw [hq];simp) hT X0o (by simp;omega)
  rw [show ((q++[x]).length:Int)=q.length+1 by simp] at h3
  have eP:(Qcf r0 n p (x::r)).2=(Qcf r0 n (Qbk r0 n p x.list.l).2 r).2:=rfl
  have eS:ss++(Qcf r0 n p (x::r)).1=ss++[⟨x.comb,[]++(Qbk r0 n p x.list.l).1⟩]++(Qcf r0 n (Qbk r0 n p x.list.l).2 r).1:=by
   rw [Xa2];rfl
  rw [eP,eS,←h3,←hrow,u_Zs_0]
  clear h3 eP eS hT hrow
  have hrow':(([]:List (Sm α)).length:Int)=0:=rfl
  rw [hrow']
  have l9:∀(O1:O) (H:Objs),eL (O1 :: .cells (coC v c)::H) false 1 (.ptr 1 0)=some (vSl (vCp v) c.list):=fun O1 H=>by
   show Option.map V.ng (some (vSl (vCp v) c.list))=_
   rw [Qal,Qaf]
  have l0:∀U,eL U false 1 (.eptr (cpC v x) 0)=some (.int .i64 x.comb):=fun U=>rfl
  have s4:∀O1 O2 O3:O,stV [O1,O2,O3,.cells [.int .i64 0,.nils]] 2 (.ptr 3 0) (.agg [.int .i64 x.comb,.nils]) (.agg [.int .i64 x.comb,.nils])=some (.undef,[O1,O2,O3,.cells (stG x.comb [])]):=fun O1 O2 O3=>Qc7 rfl rfl rfl rfl rfl
  clear hR hQ hK
  generalize stG x.comb []=SG at *
  generalize rwG 0 ss ps=R0 at *
  generalize mkD n p X=M at *
  generalize coC v c=C at *
  generalize cpC v x=Y at *
  simp +contextual -implicitDefEqProofs (disch:=try exact X0d) only [↓reduceIte,go_sem,b_Zs_0,e1,i1,l9,l0,s4,Qaf,Qah]
theorem Wl3 {p:Pln} {m:Nat} (c:Co α) (hp:Pz p m) (hm:m+wR w0 c≤800000) (hK:∀x∈c.list.l,∀s∈x.list.l,nsS K s) (H:Objs) (hτ:Cl0 H):
  E cx 62 [.ptr 0 0,.agg (coC v c)] (.cells (mkD n p X)::H)=some (.int .i64 (rowP r0 n p c).1,.cells (mkD n (rowP r0 n p c).2 X)::H):=by
 have hw1:wR w0 c=1+wC w0 c.list.l:=rfl
 have hcl:=Qt4 (w0:=w0) c.list.l
 have hcx:∀x∈c.list.l,x.list.l.length≤800000:=fun x hx=>by
  have h1:=Wag (w0:=w0) hx
  have h2:=Qt3 (w0:=w0) x.list.l
  omega
 have h3:=Wam hv hn hR hQ hX c X0o (Qb9 c) hcx hK c.list.l [] p m [] rfl hp X0o rfl
 refine E_on ?_ (by simp only [Qag,Qa0,Qc1 hv];rfl) (Qa3 hX) (Qa3 hX) rfl H hτ
 have h3':l_Zs_0 (Mi cx) 1 3 [.ptr 0 0,.ptr 1 0,.ptr 2 0,.int .i64 0] [.cells (mkD n p X),.cells (coC v c),.cells (rwG 0 [] (Qb9 c))]=some (.int .i64 (rowP r0 n p c).1,[.cells (mkD n (rowP r0 n p c).2 X)]):=h3
 have b1:boxV [.cells (mkD n p X)] (.agg (coC v c))=some (.ptr 1 0,[.cells (mkD n p X),.cells (coC v c)]):=Qau Qv5 Qj6
 have l1:∀(O1:O),eL [O1,.cells (coC v c)] true 1 (.ptr 1 0)=some (.agg (coC v c)):=fun O1=>Qbf rfl rfl Qj6
 have k1:=Wak hv c X0o (fun x hx=>by have:=hcx x hx;omega) [.cells (mkD n p X),.cells (coC v c)] (Qa9 (Qab (Qa3 hX) (Qab (Qc1 hv) Qaq)))
 have s1:stV [.cells (mkD n p X),.cells (coC v c),.cells [.int .i64 0,.nils,.str []]] 3 (.ptr 2 0) (.agg [.int .i64 0,.nils,.str (Qb9 c)]) (.agg [.int .i64 0,.nils,.str (Qb9 c)])=some (.undef,[.cells (mkD n p X),.cells (coC v c),.cells (rwG 0 [] (Qb9 c))]):=Qc7 rfl rfl rfl rfl rfl
 clear h3 hR hQ hK
 rw [e_Zs]
 generalize rowP r0 n p c=q at *
 generalize rwG 0 [] (Qb9 c)=R0 at *
 generalize mkD n q.2 X=M' at *
 generalize mkD n p X=M at *
 generalize coC v c=C at *
 generalize Qb9 c=ps at *
 simp +contextual -implicitDefEqProofs (disch:=try exact X0d) only [↓reduceIte,go_sem,s_Zs,b1,l1,k1,s1,Qaf,Qah,h3']
end
def vGx (l:List Int):V:=.sl (l.map (V.int .i64)) (if l=[] then .fx else .gr 1)
theorem Wfd {k:Nat} {l:List Int} : V.rb k (vGx l)=true:=Qfi (l:=l)
theorem Wid {l:List Int} : oK false (vGx l)=some (vI0 l):=by unfold vGx;split <;> rfl
end Go.Proofs.YtapnplljnpconaaGreatDoor
namespace Go.Ev
section
variable {α:Type} {f:α→V} {sz:Nat} {l:List α} {B B' ψ ψ':Objs} {cs ds:List V} {o off:Nat}
theorem Qt8 {x:V} (h:cs[off]? = some x):(cs.drop off).take 1=[x]:=by
 obtain ⟨hl,e⟩:=Xaf.1 h
 rw [Xbn hl,e];rfl
theorem Wdz (ho:B.length=o) (ho':B'.length=o) (h:cs[off]? = some (vG f sz l)) (hd:ds[off]? = some (vK f l)) (hlen:cs.length=ds.length):
  Qei [Qdd (B ++ .cells cs::ψ) (.ptr o off)] (B ++ .cells (cs.set off (vSl f (slo l)))::ψ) (B' ++ .cells ds::ψ')=some (B' ++ .cells (ds.set off (vSl f (slo l)))::ψ'):=by
 have hl:=Qr0 h
 unfold Qdd
 simp only [Qf0 ho,Xad,h]
 cases l with
 |nil=>
  have hd':ds[off]? = some V.nils:=hd
  have e2:ds.set off .nils=ds:=by
   obtain ⟨hl',e⟩:=Xaf.1 hd'
   rw [←e];exact Xcb _
  show (if (stable (B ++ .cells (cs.set off .nils)::ψ) (B' ++ .cells ds::ψ') (.same true o off 1)&&true)=true then some (B'++O.cells ds::ψ') else none)=some (B'++O.cells (ds.set off .nils)::ψ')
  have e:stable (B ++ .cells (cs.set off .nils)::ψ) (B' ++ .cells ds::ψ') (.same true o off 1)=true:=by
   have q1:((cs.set off V.nils).drop off).take 1=[V.nils]:=Qt8 (Xaq hl)
   have q2:(ds.drop off).take 1=[V.nils]:=Qt8 hd'
   simp only [stable,Qf0 ho,Qf0 ho',Xdb,hlen,decide_true,Xa0,if_true,q1,q2]
   exact V.beqs_refl _
  rw [e,e2];rfl
 |cons x r=>
  show (Qe0 (B' ++ .cells ds::ψ') [(o,off)]).bind _=_
  have hd':ds[off]? = some (V.sl ((x::r).map f) .lk):=hd
  unfold Qe0
  simp only [Qf0 ho',hd']
  show (Qe0 ((B' ++ .cells ds::ψ').set o _) []).bind _=_
  rw [Qmu ho']
  rfl
end
end Go.Ev
namespace Go.Proofs.YtapnplljnpconaaGreatDoor
open Go.Ev
def Qfs (n:Nms) {k:Nat} : Pln→List (List Int)→Nat→List (Sl (Cx k))→Sum (Pln×List (List Int)) Nat
 |p,L,i,[]=>.inl (p,L)
 |p,L,i,s::r=>if chkS n s=0 then Qfs n (rwsN n k p s).2 (L++[(rwsN n k p s).1]) (i+1) r else .inr i
def plC (p:Pln) (L:List (List Int)):List V:=[vSl vAtm (slo p.atoms),vSl vRw (slo p.rows),vSl vCtr (slo p.ctrs),vSl vIs (slo L),.int .i64 p.steps]
def plZ:List V:=[.nils,.nils,.nils,.nils,.int .i64 0]
def p0:Pln:=⟨[],[],[],0⟩
def errW (i:Nat) (c:Int):V:=.ifc 98 (.eptr [.int .i64 1,.int .i64 i,errZ c] 0)
theorem Wan {k:Nat} {c:Int} : V.rb k (errZ c)=true:=by unfold errZ;split <;> rfl
theorem Qoi {k i:Nat} {c:Int} : V.rb k (errW i c)=true:=by
 show V.rbs k [.int .i64 1,.int .i64 i,errZ c]=true
 simp only [Qag,Qdh,Wan,Qby,Xau]
def wA {k:Nat} : List (Sl (Cx k))→Nat
 |[]=>0
 |s::r=>wN k s+wA r
def Wd0 (n:Nms) {k:Nat} (L:List (Sl (Cx k))) (x:V):Prop:=
 (okN n=false∧x = .tup [.agg plZ,errN 11])∨(okN n=true∧((∃i,Qfs n p0 [] 0 L = .inr i∧x = .tup [.agg plZ,errW i (chkS n (L.getD i .nil))])∨∃q,Qfs n p0 [] 0 L = .inl q∧x = .tup [.agg (plC q.1 q.2),.nili]))
theorem Qcl {k:Nat} {p:Pln} {L:List (List Int)} : V.rbs k (plC p L)=true:=by
 simp only [plC,Qag,Qdh,Qby,Qaj (fun n x=>Qll (n:=n) (a:=x)),Qaj (fun n x=>Qv7 (n:=n) (r:=x)),Qaj (fun n x=>Qtx (n:=n) (c:=x)),Qaj (fun n x=>Qdp (n:=n) (l:=x)),Xau]
theorem Qwc {p:Pln} {L:List (List Int)} : Qan (plC p L)=true:=by simp only [plC,Qcb,Qdm,Qc9,Qc2,Xau]
theorem Qqb {p:Pln} {L:List (List Int)} : (plC p L).map V.ng=plC p L:=by simp only [plC,Xak,Xa8,Ql2,Qaf]
theorem Wl4 (i:Nat) (c:Int) (U:Objs) (hσ:Wf U):E cx 31 [.int .i64 1,.int .i64 i,errZ c] U=some (errW i c,U):=by
 refine Qbe Qbb ?_ (by simp only [Qag,Qdh,Wan,Qby,Xau]) Qoi U hσ
 rw [e_Z15]
 unfold errW errZ
 split <;> simp +contextual -implicitDefEqProofs (disch:=try exact X0d) only [↓reduceIte,go_sem,s_Z15,errN]
section
variable {n:Nms} (hn:NmB n) {k:Nat}
include hn
theorem Qt9 (LL:Sl (Sl (Cx k))) (hLL:LL.l.length≤4) (hB:∀s∈LL.l,Bd 41 k s):∀(r q:List (Sl (Cx k))) (p:Pln) (m:Nat) (L:List (List Int)),LL.l=q++r→Pz p m→m+wA r≤800000→L.length=q.length→
  l_Z18_0 (Mi cx) 0 3 [.ptr 0 0,.ptr 1 0,.ptr 2 0,vSl (vSl (vCx k)) LL,.int .i64 LL.l.length,.int .i64 q.length] [.cells (Qaa n),.cells plZ,.cells (mkC n p (vG vIs 1 L))]=
   some (match Qfs n p L q.length r with
    | .inl y=>.tup [.agg (plC y.1 y.2),.nili]
    | .inr i=>.tup [.agg plZ,errW i (chkS n (LL.l.getD i .nil))],[])
 |[],q,p,m,L,hq,hp,hm,hL=>by
  have hlen:LL.l.length=q.length:=by rw [hq];simp
  have e1:¬(q.length:Int)<LL.l.length:=by omega
  show _=some (V.tup [V.agg (plC p L),V.nili],[])
  have cl3:Cl0 [.cells (Qaa n),.cells plZ,.cells (mkC n p (vG vIs 1 L))]:=Qab Qak (Qab rfl (Qab (Qay (Qdv fun x=>Qdp)) Qaq))
  have c3:cuO 3 [.cells (Qaa n),.cells plZ,.cells (mkC n p (vG vIs 1 L))]=some [.cells (Qaa n),.cells plZ,.cells (mkC n p (vG vIs 1 L))]:=Qcz (Qa9 cl3)
  have l1:eL [.cells (Qaa n),.cells plZ,.cells (mkC n p (vG vIs 1 L))] true 5 (.ptr 2 4)=some (.agg (plC p L)):=by
   show some (V.agg [(vG vAtm 7 p.atoms).ng,(vG vRw 3 p.rows).ng,(vG vCtr 3 p.ctrs).ng,(vG vIs 1 L).ng,(V.int .i64 p.steps).ng])=_
   rw [n_vG,n_vG,n_vG,n_vG];rfl
  have s1:stV [.cells (Qaa n),.cells plZ,.cells (mkC n p (vG vIs 1 L))] 5 (.ptr 1 0) (.agg (plC p L)) (.agg (plC p L))=some (.undef,[.cells (Qaa n),.cells (plC p L),.cells (mkC n p (vG vIs 1 L))]):=Qc7 rfl rfl rfl Qwc Qqb
  have r1:∀(O1 O3:O),resC [O1,.cells (plC p L),O3] true 5 (.ptr 1 0)=some (.agg (plC p L)):=fun O1 O3=>by
   rw [Qrx]
   show Ev.part true 5 (plC p L) 0=_
   exact Qlm rfl Qqb
  have e0:V.rb 0 (.tup [.agg (plC p L),.nili])=true:=by
   show V.rbs 0 [.agg (plC p L),.nili]=true
   simp only [Qag,Qa0,Qcl];rfl
  rw [u_Z18_0]
  generalize plC p L=P at *
  generalize mkC n p (vG vIs 1 L)=M at *
  generalize Qaa n=N at *
  simp +contextual -implicitDefEqProofs (disch:=try exact X0d) only [↓reduceIte,go_sem,b_Z18_0,e1,c3,l1,s1,r1]
 |s::r,q,p,m,L,hq,hp,hm,hL=>by
  have hlen:LL.l.length=q.length+r.length+1:=by rw [hq];simp;omega
  have hm':m+(wN k s+wA r)≤800000:=hm
  have e1:(q.length:Int)<LL.l.length:=by omega
  have i1:eI 1 (.int .i64 q.length) (vSl (vSl (vCx k)) LL)=some (.eptr [vSl (vCx k) s] 0):=by
   have:=Qax (f:=vSl (vCx k)) (sz:=1) (k:=.i64) hq rfl (by rw [Qbw];rfl)
   rw [Qbw] at this
   exact this
  have i2:∀U,eL U false 1 (.eptr [vSl (vCx k) s] 0)=some (vSl (vCx k) s):=fun U=>by
   show Option.map V.ng (some (vSl (vCx k) s))=_
   rw [Qal,Qaf]
  have l0:∀H:Objs,eL (.cells (Qaa n)::H) true 4 (.ptr 0 0)=some (.agg (Qaa n)):=fun H=>Qbf rfl rfl no_n
  have cl3:∀p X,V.rb 0 X=true→Cl0 [.cells (Qaa n),.cells plZ,.cells (mkC n p X)]:=fun p X hX=>Qab Qak (Qab rfl (Qab (Qay hX) Qaq))
  have rbL:∀L:List (List Int),V.rb 0 (vG vIs 1 L)=true:=fun L=>Qdv fun x=>Qdp
  have w3:=Qa9 (cl3 p _ (rbL L))
  have k1:=Qv6 hn s (d:=41) X0o (hB s (by rw [hq];simp)) _ w3
  have c3:∀p L,cuO 3 [.cells (Qaa n),.cells plZ,.cells (mkC n p (vG vIs 1 L))]=some [.cells (Qaa n),.cells plZ,.cells (mkC n p (vG vIs 1 L))]:=fun p L=>Qcz (Qa9 (cl3 p _ (rbL L)))
  have c3p:=c3 p L
  have f2:∀k' U,fz k' U fzD (vSl (vSl (vCx k)) LL)=some (vSl (vSl (vCx k)) LL):=fun k' U=>Qar (Qaj fun _ _=>Qc4)
  rw [u_Z18_0]
  unfold Qfs
  by_cases c1:chkS n s=0
  ·rw [if_pos c1]
   have k1':E cx 30 [vSl (vCx k) s,.agg (Qaa n)] [.cells (Qaa n),.cells plZ,.cells (mkC n p (vG vIs 1 L))]=some (.nili,[.cells (Qaa n),.cells plZ,.cells (mkC n p (vG vIs 1 L))]):=by
    rw [k1,c1];rfl
   obtain ⟨q0,q1,q2⟩:=Qji hn k p s m (vK vIs L) (Wdt fun x=>Qdp) hp X0o
   have ih:=Qt9 LL hLL hB r (q++[s]) (rwsN n k p s).2 (m+wN k s) (L++[(rwsN n k p s).1]) (by rw [hq];simp) q1 X0o (by simp;omega)
   rw [show ((q++[s]).length:Int)=q.length+1 by simp,show (q++[s]).length=q.length+1 by simp] at ih
   have k2:E cx 32 [.ptr 2 0,vSl (vCx k) s] [.cells (Qaa n),.cells plZ,.cells (mkC n p (vK vIs L))]=some (vIs (rwsN n k p s).1,[.cells (Qaa n),.cells plZ,.cells (mkC n (rwsN n k p s).2 (vK vIs L))]):=
    E_at q0 (by simp only [Qag,Qc4];rfl) (Qay (Wdt fun x=>Qdp)) (Qay (Wdt fun x=>Qdp)) Qdp [.cells (Qaa n),.cells plZ] (Qab Qak (Qab rfl Qaq))
   have ld:Qbt [.cells (Qaa n),.cells plZ,.cells (mkC n p (vG vIs 1 L))] (.ptr 2 7)=some (vG vIs 1 L,[.cells (Qaa n),.cells plZ,.cells (mkC n p (vSl vIs (slo L)))]):=Qfr (B:=[_,_]) (cs:=mkC n p (vG vIs 1 L)) rfl rfl
   have lk:Qgd [Qdd [.cells (Qaa n),.cells plZ,.cells (mkC n p (vG vIs 1 L))] (.ptr 2 7)] [.cells (Qaa n),.cells plZ,.cells (mkC n p (vSl vIs (slo L)))]=some [.cells (Qaa n),.cells plZ,.cells (mkC n p (vK vIs L))]:=Wab (sz:=1) (B:=[_,_]) (cs:=mkC n p (vG vIs 1 L)) (off:=7) rfl rfl
   generalize rwsN n k p s=y at *
   have op:Qei [Qdd [.cells (Qaa n),.cells plZ,.cells (mkC n p (vG vIs 1 L))] (.ptr 2 7)] [.cells (Qaa n),.cells plZ,.cells (mkC n p (vSl vIs (slo L)))] [.cells (Qaa n),.cells plZ,.cells (mkC n y.2 (vK vIs L))]=some [.cells (Qaa n),.cells plZ,.cells (mkC n y.2 (vSl vIs (slo L)))]:=by
    exact Wdz (sz:=1) (B:=[_,_]) (B':=[_,_]) (cs:=mkC n p (vG vIs 1 L)) (ds:=mkC n y.2 (vK vIs L)) (off:=7) rfl rfl rfl rfl rfl
   have a1:∀U,appV false false 1 24 U (vG vIs 1 L) (.sl [vIs y.1] .no)=some (vG vIs 1 (L++[y.1])):=fun U=>by
    refine Qfh (f:=vIs) (fun _=>by rw [Qbw];rfl) (fun x=>by rw [Qbw,Qcb,Qc2];rfl) (fun _=>Qti) ?_
    unfold Qbj
    omega
   have b1:Qam false 1 1 .nils [(0,vIs y.1)]=some (.sl [vIs y.1] .fx):=by
    generalize hs:slo y.1=z
    unfold vIs
    rw [hs]
    cases z <;> rfl
   have s1:stV [.cells (Qaa n),.cells plZ,.cells (mkC n y.2 (vSl vIs (slo L)))] 1 (.ptr 2 7) (vSl vIs (slo (L++[y.1]))) (vG vIs 1 (L++[y.1]))=some (.undef,[.cells (Qaa n),.cells plZ,.cells (mkC n y.2 (vG vIs 1 (L++[y.1])))]):=Qrz (B:=[_,_]) (cs:=mkC n y.2 (vSl vIs (slo L))) rfl (show 7<9 by decide)
   have c3q:=c3 y.2 (L++[y.1])
   have hZ:V.rb 0 (vSl vIs (slo L))=true:=Qaj fun n x=>Qdp
   clear c3 cl3 k1 rbL
   generalize Qfs n y.2 (L++[y.1]) (q.length+1) r=RES at *
   generalize mkC n y.2 (vG vIs 1 (L++[y.1]))=M5 at *
   generalize mkC n y.2 (vSl vIs (slo L))=M4 at *
   generalize mkC n y.2 (vK vIs L)=M3 at *
   generalize mkC n p (vK vIs L)=M2 at *
   generalize mkC n p (vSl vIs (slo L))=M1 at *
   generalize mkC n p (vG vIs 1 L)=M at *
   generalize Qaa n=N at *
   generalize L++[y.1]=L' at *
   generalize plZ=Zww at *
   simp +contextual -implicitDefEqProofs (disch:=try exact X0d) only [↓reduceIte,go_sem,b_Z18_0,e1,i1,i2,l0,k1',k2,ld,lk,op,a1,b1,s1,c3q,f2,Qaf,n_vG,ih]
  ·rw [if_neg c1]
   have eG:LL.l.getD q.length .nil=s:=by rw [hq];simp
   simp only [eG]
   have k2:=Wl4 q.length (chkS n s) _ w3
   have ne:errZ (chkS n s)=errN (chkS n s):=by unfold errZ;rw [if_neg c1]
   rw [ne] at k1 k2
   unfold errN at k1 k2
   have s1:stV [.cells (Qaa n),.cells plZ,.cells (mkC n p (vG vIs 1 L))] 5 (.ptr 1 0) (.agg plZ) (.agg plZ)=some (.undef,[.cells (Qaa n),.cells plZ,.cells (mkC n p (vG vIs 1 L))]):=rfl
   have b1:Qaw [.nils,.nils,.nils,.nils,.int .i64 0] []=some (.agg plZ):=rfl
   have r1:∀(O1 O3:O),resC [O1,.cells plZ,O3] true 5 (.ptr 1 0)=some (.agg plZ):=fun O1 O3=>rfl
   have fW:∀U,fz 3 U fzD (errW q.length (chkS n s))=some (errW q.length (chkS n s)):=fun U=>Qar Qoi
   have nW:(errW q.length (chkS n s)).ng=errW q.length (chkS n s):=rfl
   have e0:V.rb 0 (.tup [.agg plZ,errW q.length (chkS n s)])=true:=by
    show V.rbs 0 [.agg plZ,errW q.length (chkS n s)]=true
    simp only [Qag,Qa0,Qoi];rfl
   clear c3 cl3 rbL
   generalize errW q.length (chkS n s)=W at *
   generalize mkC n p (vG vIs 1 L)=M at *
   generalize Qaa n=N at *
   generalize plZ=Zww at *
   simp +contextual -implicitDefEqProofs (disch:=try exact X0d) only [↓reduceIte,go_sem,b_Z18_0,e1,i1,i2,l0,k1,k2,b1,s1,r1,c3p,fW,nW,f2,Qaf]
theorem Wl5 (LL:Sl (Sl (Cx k))) (hLL:LL.l.length≤4) (hB:∀s∈LL.l,Bd 41 k s) (hw:wA LL.l≤800000):∃x,Wd0 n LL.l x∧∀U,Wf U→E cx 8 [vSl (vSl (vCx k)) LL,.agg (Qaa n)] U=some (x,U):=by
 have h1:boxV [] (.agg (Qaa n))=some (.ptr 0 0,[.cells (Qaa n)]):=Qau ok_n no_n
 have l0:∀H:Objs,eL (.cells (Qaa n)::H) true 4 (.ptr 0 0)=some (.agg (Qaa n)):=fun H=>Qbf rfl rfl no_n
 have w2:Wf [.cells (Qaa n),.cells [.nils,.nils,.nils,.nils,.int .i64 0]]:=Qa9 (Qab Qak (Qab rfl Qaq))
 have k1:=Qjz hn _ w2
 have k1':E cx 29 [.agg (Qaa n)] [.cells (Qaa n),.cells [.nils,.nils,.nils,.nils,.int .i64 0]]=_:=k1
 have hargs:V.rbs 0 [vSl (vSl (vCx k)) LL,.agg (Qaa n)]=true:=by simp only [Qag,Qa0,Qak,Qaj (fun _ _=>Qc4 (k:=k))];rfl
 clear k1
 cases c1:okN n with
 |false=>
  refine ⟨.tup [.agg plZ,errN 11],.inl ⟨c1,rfl⟩,fun U hσ=>Qbe Qbb ?_ hargs rfl U hσ⟩
  rw [c1,if_neg (by decide)] at k1'
  unfold errN at *
  rw [e_Z18]
  unfold plZ
  generalize Qaa n=N at *
  simp +contextual -implicitDefEqProofs (disch:=try exact X0d) only [↓reduceIte,go_sem,s_Z18,h1,l0,k1']
 |true=>
  rw [c1,if_pos rfl] at k1'
  have lp:=Qt9 hn LL hLL hB LL.l [] p0 0 [] rfl ⟨Xai _,Xai _,Xai _,Xc7 _,Xc7 _⟩ X0o rfl
  have lp':l_Z18_0 (Mi cx) 0 3 [.ptr 0 0,.ptr 1 0,.ptr 2 0,vSl (vSl (vCx k)) LL,.int .i64 LL.l.length,.int .i64 0] [.cells (Qaa n),.cells [.nils,.nils,.nils,.nils,.int .i64 0],.cells (mkC n p0 .nils)]=_:=lp
  clear lp
  have b1:Qaw [.bool false,.str [],.nils,.nils,.nils,.nils,.nils,.nils,.int .i64 0] [(0,4,.agg (Qaa n))]=some (.agg (mkC n p0 .nils)):=by
   rw [Qke,Qkf (by rfl) (by decide) (by rw [Qbv];exact ok_n),Qnk,Qbv,no_n]
   rfl
  have o1:Qan (mkC n p0 .nils)=true:=by
   show Qan [.bool n.has,.str n.dflt,Qbx n.pres,Qbx n.spaces,.nils,.nils,.nils,.nils,.int .i64 0]=true
   simp only [Qcb,Qdm,Qc9,Qgz,Qgf,Qc2,Xau];rfl
  have n1:(mkC n p0 .nils).map V.ng=mkC n p0 .nils:=by
   show List.map V.ng [.bool n.has,.str n.dflt,Qbx n.pres,Qbx n.spaces,.nils,.nils,.nils,.nils,.int .i64 0]=[.bool n.has,.str n.dflt,Qbx n.pres,Qbx n.spaces,.nils,.nils,.nils,.nils,.int .i64 0]
   simp only [Xak,Xa8,Ql2,Qva,Qo7,Qaf];rfl
  have h2:boxV [.cells (Qaa n),.cells [.nils,.nils,.nils,.nils,.int .i64 0]] (.agg (mkC n p0 .nils))=some (.ptr 2 0,[.cells (Qaa n),.cells [.nils,.nils,.nils,.nils,.int .i64 0],.cells (mkC n p0 .nils)]):=Qau o1 n1
  have f2:∀k' U,fz k' U fzD (vSl (vSl (vCx k)) LL)=some (vSl (vSl (vCx k)) LL):=fun k' U=>Qar (Qaj fun _ _=>Qc4)
  have fin:∀x,Wd0 n LL.l x→V.rb 0 x=true→l_Z18_0 (Mi cx) 0 3 [.ptr 0 0,.ptr 1 0,.ptr 2 0,vSl (vSl (vCx k)) LL,.int .i64 LL.l.length,.int .i64 0] [.cells (Qaa n),.cells [.nils,.nils,.nils,.nils,.int .i64 0],.cells (mkC n p0 .nils)]=some (x,[])→∃x,Wd0 n LL.l x∧∀U,Wf U→E cx 8 [vSl (vSl (vCx k)) LL,.agg (Qaa n)] U=some (x,U):=by
   intro x hx hrx hl
   refine ⟨x,hx,fun U hσ=>Qbe Qbb ?_ hargs hrx U hσ⟩
   rw [e_Z18]
   clear lp' hx
   generalize mkC n p0 .nils=M at *
   generalize Qaa n=N at *
   simp +contextual -implicitDefEqProofs (disch:=try exact X0d) only [↓reduceIte,go_sem,s_Z18,h1,l0,k1',b1,h2,f2,Qaf,Qah,hl]
  cases c2:Qfs n p0 [] 0 LL.l with
  |inl q=>
   refine fin _ (.inr ⟨c1,.inr ⟨q,c2,rfl⟩⟩) (by show V.rbs 0 [.agg (plC q.1 q.2),.nili]=true;simp only [Qag,Qa0,Qcl];rfl) ?_
   rw [lp']
   have c2':Qfs n p0 [] ([]:List (Sl (Cx k))).length LL.l = .inl q:=c2
   rw [c2']
  |inr i=>
   have c2':Qfs n p0 [] ([]:List (Sl (Cx k))).length LL.l = .inr i:=c2
   rw [c2'] at lp'
   have hx:Wd0 n LL.l (.tup [.agg plZ,errW i (chkS n (LL.l.getD i .nil))]):=.inr ⟨c1,.inl ⟨i,c2,rfl⟩⟩
   refine fin (.tup [.agg plZ,errW i (chkS n (LL.l.getD i .nil))]) hx ?_ lp'
   show V.rbs 0 [.agg plZ,errW i _]=true
   simp only [Qag,Qa0,Qoi];rfl
end
def OkK (A:Nat) (C:List Ctr) (row:Int) (k i:Int) (len:Nat):Prop:=len≤800000∧
 ((k=1∧0≤i∧i<A)∨(k=2∧0≤i∧i<row)∨(k=3∧len=1)∨(k=5∧0≤i∧∃c,C[i.toNat]? = some c∧c.rows.length≤800000∧∀r∈c.rows,0≤r∧r<row)∨k=4∨k=6∨k=7)
def OkD (A:Nat) (C:List Ctr) (row:Int):Nat→Trm→Prop
 |0,_=>False
 |d+1,.mk k i ts=>OkK A C row k i ts.length∧∀t∈ts,OkD A C row d t
section
variable {p:Pln} {L:List (List Int)} {row:Int}
end
theorem Qqc (s:Sl (List UInt8)) (t:List UInt8) (hs:s.l.length≤1000000000):∀(r q:List (List UInt8)),s.l=q++r→
  l_Z3b_0 (Mi cx) 0 0 [Qbx s,.str t,.int .i64 q.length] []=some (.bool (hasS r t),[])
 |[],q,hq=>by
  have hlen:s.l.length=q.length:=by rw [hq];simp
  have e1:¬(q.length:Int)<s.l.length:=by omega
  rw [u_Z3b_0]
  show _=some (V.bool false,[])
  simp +contextual -implicitDefEqProofs (disch:=try exact X0d) only [↓reduceIte,go_sem,b_Z3b_0,Qah,Qaf,e1]
 |x::r,q,hq=>by
  have hlen:s.l.length=q.length+r.length+1:=by rw [hq];simp;omega
  have e1:(q.length:Int)<s.l.length:=by omega
  have i1:eI 1 (.int .i64 q.length) (Qbx s)=some (.eptr [.str x] 0):=Qax (f:=V.str) hq rfl rfl
  have ih:=Qqc s t hs r (q++[x]) (by rw [hq];simp)
  rw [show ((q++[x]).length:Int)=q.length+1 by simp] at ih
  rw [u_Z3b_0]
  show _=some (V.bool (decide (t=x)||hasS r t),[])
  by_cases c:x=t
  ·subst c
   rw [decide_eq_true rfl,Xco]
   simp +contextual -implicitDefEqProofs (disch:=try exact X0d) only [↓reduceIte,go_sem,b_Z3b_0,Qah,Qaf,e1,i1]
  ·rw [decide_eq_false (fun h=>c h.symm),Xc2]
   simp +contextual -implicitDefEqProofs (disch:=try exact X0d) only [↓reduceIte,go_sem,b_Z3b_0,Qah,Qaf,e1,i1,c,ih]
theorem Qis (s:Sl (List UInt8)) (t:List UInt8) (hs:s.l.length≤1000000000) (U:Objs) (hσ:Wf U):E cx 39 [Qbx s,.str t] U=some (.bool (hasS s.l t),U):=by
 refine Qbe Qbb ?_ (by rw [Qag,Qgk];rfl) rfl U hσ
 have h:l_Z3b_0 (Mi cx) 0 0 [Qbx s,.str t,.int .i64 0] []=some (.bool (hasS s.l t),[]):=Qqc s t hs s.l [] rfl
 rw [e_Z3b]
 simp +contextual -implicitDefEqProofs (disch:=try exact X0d) only [↓reduceIte,go_sem,s_Z3b,h]
theorem Qwd (t:List UInt8) (U:Objs) (hσ:Wf U):E cx 34 [.str t] U=some (.bool (Qhh t),U):=by
 have b1:Qam false 1 10 (.str []) [(0,.str [104,111,118,101,114]),(1,.str [97,99,116,105,118,101]),(2,.str [102,111,99,117,115]),(3,.str [102,111,99,117,115,45,118,105,115,105,98,108,101]),(4,.str [118,105,115,105,116,101,100]),(5,.str [108,105,110,107]),(6,.str [99,104,101,99,107,101,100]),(7,.str [100,105,115,97,98,108,101,100]),(8,.str [101,110,97,98,108,101,100]),(9,.str [116,97,114,103,101,116])]=some (.sl (Qci.map V.str) .fx):=rfl
 have h2:∀U,Wf U→E cx 39 [.sl (Qci.map V.str) .no,.str t] U=some (.bool (Qhh t),U):=fun U hσ=>Qis (.row Qci) t (by decide) U hσ
 have n1:(V.sl (Qci.map V.str) .fx).ng = .sl (Qci.map V.str) .no:=rfl
 rw [e_Z3h]
 generalize Qci.map V.str=S at *
 simp +contextual -implicitDefEqProofs (disch:=try exact X0d) only [↓reduceIte,go_sem,s_Z3h,b1,h2]
def AtOk (a:Atm):Prop:=a.space.length≤1000∧a.text.length≤1000∧a.name.length≤1000∧Qej a.space=true∧Qej a.text=true∧Qej a.name=true∧
 (a.kind=1∨(a.kind=2∧¬a.name=[])∨(a.kind=3∧Qhh a.name=true))
section
variable {n:Nms} (hn:NmB n)
include hn
theorem Qua (hl:n.pres.l.length=n.spaces.l.length):∀(f i:Nat),n.pres.l.length<f+i→i≤n.pres.l.length→
  l_Z3c_0 (Mi cx) 0 1 [.ptr 0 0,.int .i64 i] [.cells (Qaa n)]=some (.bool (okF n f i),[])
 |0,i,hf,hi=>by omega
 |f+1,i,hf,hi=>by
  obtain ⟨b1,b2,b3,b4,b5⟩:=id hn
  have h2:eL [.cells (Qaa n)] false 1 (.ptr 0 2)=some (Qbx n.pres):=by
   show Option.map V.ng (some (Qbx n.pres))=_
   rw [Qal,Qaf]
  have h3:eL [.cells (Qaa n)] false 1 (.ptr 0 3)=some (Qbx n.spaces):=by
   show Option.map V.ng (some (Qbx n.spaces))=_
   rw [Qal,Qaf]
  have hw:V.rbs 1 (Qaa n)=true:=Qak
  have hW:Wf [.cells (Qaa n)]:=by rw [Qeo];exact hw
  rw [u_Z3c_0]
  unfold okF
  by_cases c1:(i:Int)<n.pres.l.length
  ·have c1':i<n.pres.l.length:=by omega
   have hx:=Qcv (f:=V.str) (s:=n.pres) (k:=.i64) (i:=(i:Int)) (Qex X0o []) X0o (sz:=1) rfl
   rw [Xbf] at hx
   have hy:=Qcv (f:=V.str) (s:=n.spaces) (k:=.i64) (i:=(i:Int)) (Qex X0o []) X0o (sz:=1) rfl
   rw [Xbf] at hy
   rw [if_pos c1']
   have k1:=Qp1 (n.pres.l.getD i []) (Qn6 b4 i) _ hW
   have k2:=Qis (n.pres.take i) (n.pres.l.getD i []) (by rw [Sl.take_l,Xbh];omega) _ hW
   rw [Sl.take_l] at k2
   have k3:=Qg6 (n.spaces.l.getD i []) (Qn6 b5 i) _ hW
   have hc:=Qmo (f:=V.str) (s:=n.pres) (sz:=1) (fun _=>rfl) (k:=.i64) (b:=(i:Int)) X0o
   rw [Xbf] at hc
   have ih:=Qua hl f (i+1) X0o X0o
   rw [Xct] at ih
   unfold okAt
   generalize okF n f (i+1)=R at *
   generalize Qaa n=N at *
   generalize n.pres.take i=TK at *
   generalize hasS (n.pres.l.take i) (n.pres.l.getD i [])=g2 at *
   generalize n.pres.l.getD i []=px at *
   generalize n.spaces.l.getD i []=sx at *
   cases g1:Qir px with
   |false=>
    rw [g1] at k1
    simp +contextual -implicitDefEqProofs (disch:=try exact X0d) only [↓reduceIte,go_sem,b_Z3c_0,Qah,Qaf,h2,h3,c1,hx,k1]
   |true=>
    rw [g1] at k1
    cases g2 with
    |true=>simp +contextual -implicitDefEqProofs (disch:=try exact X0d) only [↓reduceIte,go_sem,b_Z3c_0,Qah,Qaf,h2,h3,c1,hx,hc,k1,k2]
    |false=>
     cases g3:Qej sx with
     |false=>
      rw [g3] at k3
      simp +contextual -implicitDefEqProofs (disch:=try exact X0d) only [↓reduceIte,go_sem,b_Z3c_0,Qah,Qaf,h2,h3,c1,hx,hy,hc,k1,k2,k3]
     |true=>
      rw [g3] at k3
      simp +contextual -implicitDefEqProofs (disch:=try exact X0d) only [↓reduceIte,go_sem,b_Z3c_0,Qah,Qaf,h2,h3,c1,hx,hy,hc,k1,k2,k3,ih]
  ·have c1':¬i<n.pres.l.length:=by omega
   rw [if_neg c1']
   generalize Qaa n=N at *
   simp +contextual -implicitDefEqProofs (disch:=try exact X0d) only [↓reduceIte,go_sem,b_Z3c_0,Qah,Qaf,h2,h3,c1]
theorem Qmx (U:Objs) (hσ:Wf U):E cx 14 [.agg (Qaa n)] U=some (.bool (okN n),U):=by
 refine Qbe Qbb ?_ (by simp only [Qag,Qa0,Qak];rfl) rfl U hσ
 have h1:boxV [] (.agg (Qaa n))=some (.ptr 0 0,[.cells (Qaa n)]):=Qau ok_n no_n
 have h2:eL [.cells (Qaa n)] false 1 (.ptr 0 2)=some (Qbx n.pres):=by
  show Option.map V.ng (some (Qbx n.pres))=_
  rw [Qal,Qaf]
 have h3:eL [.cells (Qaa n)] false 1 (.ptr 0 3)=some (Qbx n.spaces):=by
  show Option.map V.ng (some (Qbx n.spaces))=_
  rw [Qal,Qaf]
 have l1:eL [.cells (Qaa n)] false 1 (.ptr 0 1)=some (.str n.dflt):=rfl
 have hw:V.rbs 1 (Qaa n)=true:=Qak
 have hW:Wf [.cells (Qaa n)]:=by rw [Qeo];exact hw
 have k1:=Qg6 n.dflt (by have:=hn.1;omega) _ hW
 have lp:=fun hl=>Qua hn hl (n.pres.l.length+1) 0 X0o X0o
 rw [e_Z3c]
 unfold okN okN0
 by_cases c:(n.pres.l.length:Int)=n.spaces.l.length
 ·have c':n.pres.l.length=n.spaces.l.length:=by omega
  have lp':l_Z3c_0 (Mi cx) 0 1 [.ptr 0 0,.int .i64 0] [.cells (Qaa n)]=some (.bool (okF n (n.pres.l.length+1) 0),[]):=lp c'
  rw [decide_eq_true c',Xa0]
  clear lp
  generalize okF n (n.pres.l.length+1) 0=R at *
  generalize Qaa n=N at *
  cases g:Qej n.dflt <;> rw [g] at k1 <;> simp +contextual -implicitDefEqProofs (disch:=try exact X0d) only [↓reduceIte,go_sem,s_Z3c,h1,h2,h3,l1,Qah,Qaf,c,k1,lp']
 ·have c':¬n.pres.l.length=n.spaces.l.length:=by omega
  rw [decide_eq_false c',Xbt,Xbt]
  clear lp
  generalize Qaa n=N at *
  simp +contextual -implicitDefEqProofs (disch:=try exact X0d) only [↓reduceIte,go_sem,s_Z3c,h1,h2,h3,Qah,Qaf,c]
end
theorem Qqd (t:List UInt8) (U:Objs) (hσ:Wf U):E cx 82 [.str t] U=some (.bool (Qoa t),U):=by
 have b1:Qam false 1 8 (.str []) [(0,.str [98,101,102,111,114,101]),(1,.str [97,102,116,101,114]),(2,.str [102,105,114,115,116,45,108,105,110,101]),(3,.str [102,105,114,115,116,45,108,101,116,116,101,114]),(4,.str [109,97,114,107,101,114]),(5,.str [115,101,108,101,99,116,105,111,110]),(6,.str [112,108,97,99,101,104,111,108,100,101,114]),(7,.str [98,97,99,107,100,114,111,112])]=some (.sl (Qbs.map V.str) .fx):=rfl
 have h2:∀U,Wf U→E cx 39 [.sl (Qbs.map V.str) .no,.str t] U=some (.bool (Qoa t),U):=fun U hσ=>Qis (.row Qbs) t (by decide) U hσ
 rw [e_Z39]
 generalize Qbs.map V.str=S at *
 simp +contextual -implicitDefEqProofs (disch:=try exact X0d) only [↓reduceIte,go_sem,s_Z39,b1,h2]
def Qgo (a:Int):Bool:=decide (-1000000≤a)&&decide (a≤1000000)
theorem Wao (a:Int) (U:Objs) (hσ:Wf U):E cx 83 [.int .i64 a] U=some (.bool (Qgo a),U):=by
 rw [e_Z3n]
 unfold Qgo
 by_cases c1:-1000000≤a
 ·simp +contextual -implicitDefEqProofs (disch:=try exact X0d) only [↓reduceIte,go_sem,s_Z3n,c1]
 ·simp +contextual -implicitDefEqProofs (disch:=try exact X0d) only [↓reduceIte,go_sem,s_Z3n,c1]
section
variable {α:Type} {v:α→V} (hv:∀n x,V.rb n (v x)=true) {n:Nms} (hn:NmB n)
include hv
theorem Wap (s:Sm α) (hs:SmB s) (U:Objs) (hσ:Wf U):E cx 81 [.agg (smC v s)] U=some (.bool (Qob s),U):=by
 refine Qbe Qbb ?_ (by simp only [Qag,Qa0,Qbd hv];rfl) rfl U hσ
 have h1:boxV [] (.agg (smC v s))=some (.ptr 0 0,[.cells (smC v s)]):=Qau Qf2 Qc6
 have hw:V.rbs 1 (smC v s)=true:=Qbd hv
 have hW:Wf [.cells (smC v s)]:=by rw [Qeo];exact hw
 have h4:=Qg6 s.text (by have:=hs.2.2;omega) _ hW
 have l4:eL [.cells (smC v s)] false 1 (.ptr 0 4)=some (.int .i64 s.op):=rfl
 have l5:eL [.cells (smC v s)] false 1 (.ptr 0 5)=some (.str s.text):=rfl
 have l6:eL [.cells (smC v s)] false 1 (.ptr 0 6)=some (.bool s.fold):=rfl
 have l7:eL [.cells (smC v s)] false 1 (.ptr 0 7)=some (.int .i64 s.mark):=rfl
 rw [e_Z3i]
 unfold Qob
 generalize smC v s=S at *
 obtain ⟨kind,ns,pre,name,op,text,fold,mark,a,b,of⟩:=s
 simp only at *
 by_cases c1:op<1
 case pos=>simp +contextual -implicitDefEqProofs (disch:=try exact X0d) only [↓reduceIte,go_sem,s_Z3i,h1,l4,c1,true_or]
 by_cases c2:7<op
 case pos=>simp +contextual -implicitDefEqProofs (disch:=try exact X0d) only [↓reduceIte,go_sem,s_Z3i,h1,l4,c1,c2,true_or,or_true]
 cases c3:Qej text with
 |false=>
  rw [c3] at h4
  simp +contextual -implicitDefEqProofs (disch:=try exact X0d) only [↓reduceIte,go_sem,s_Z3i,h1,l4,l5,h4,c1,c2,true_or,or_true]
 |true=>
  rw [c3] at h4
  by_cases c4:mark<0
  case pos=>simp +contextual -implicitDefEqProofs (disch:=try exact X0d) only [↓reduceIte,go_sem,s_Z3i,h1,l4,l5,l7,h4,c1,c2,c4,true_or,or_true]
  by_cases c5:2<mark
  case pos=>simp +contextual -implicitDefEqProofs (disch:=try exact X0d) only [↓reduceIte,go_sem,s_Z3i,h1,l4,l5,l7,h4,c1,c2,c4,c5,true_or,or_true]
  by_cases c6:op=1
  case neg=>simp +contextual -implicitDefEqProofs (disch:=try exact X0d) only [↓reduceIte,go_sem,s_Z3i,h1,l4,l5,l6,l7,h4,c1,c2,c4,c5,c6]
  subst c6
  by_cases c7:text=[]
  case neg=>simp +contextual -implicitDefEqProofs (disch:=try exact X0d) only [↓reduceIte,go_sem,s_Z3i,h1,l4,l5,l6,l7,h4,c4,c5,c7]
  subst c7
  by_cases c8:mark=0
  case neg=>simp +contextual -implicitDefEqProofs (disch:=try exact X0d) only [↓reduceIte,go_sem,s_Z3i,h1,l4,l5,l6,l7,h4,c4,c5,c8]
  subst c8
  simp +contextual -implicitDefEqProofs (disch:=try exact X0d) only [↓reduceIte,go_sem,s_Z3i,h1,l4,l5,l6,l7,h4]
def pNs (s:Sm α):Bool:=!(decide (s.ns=0)&&decide (s.pre=[]))
def Qgp (s:Sm α):Bool:=!(decide (s.op=0)&&decide (s.text=[])&&decide (s.fold=false)&&decide (s.mark=0))
def pAb (s:Sm α):Bool:=!(decide (s.a=0)&&decide (s.b=0))
theorem Wie (s:Sm α) (U:Objs) (hσ:Wf U):E cx 79 [.agg (smC v s)] U=some (.tup [.bool (pNs s),.bool (!decide (s.name=[])),.bool (Qgp s),.bool (pAb s),.bool (decide (0<(s.of.l.length:Int)))],U):=by
 refine Qbe Qbb ?_ (by simp only [Qag,Qa0,Qbd hv];rfl) rfl U hσ
 have h1:boxV [] (.agg (smC v s))=some (.ptr 0 0,[.cells (smC v s)]):=Qau Qf2 Qc6
 have hw:V.rbs 1 (smC v s)=true:=Qbd hv
 have l1:eL [.cells (smC v s)] false 1 (.ptr 0 1)=some (.int .i64 s.ns):=rfl
 have l2:eL [.cells (smC v s)] false 1 (.ptr 0 2)=some (.str s.pre):=rfl
 have l3:eL [.cells (smC v s)] false 1 (.ptr 0 3)=some (.str s.name):=rfl
 have l4:eL [.cells (smC v s)] false 1 (.ptr 0 4)=some (.int .i64 s.op):=rfl
 have l5:eL [.cells (smC v s)] false 1 (.ptr 0 5)=some (.str s.text):=rfl
 have l6:eL [.cells (smC v s)] false 1 (.ptr 0 6)=some (.bool s.fold):=rfl
 have l7:eL [.cells (smC v s)] false 1 (.ptr 0 7)=some (.int .i64 s.mark):=rfl
 have l8:eL [.cells (smC v s)] false 1 (.ptr 0 8)=some (.int .i64 s.a):=rfl
 have l9:eL [.cells (smC v s)] false 1 (.ptr 0 9)=some (.int .i64 s.b):=rfl
 have l10:eL [.cells (smC v s)] false 1 (.ptr 0 10)=some (vSl v s.of):=by
  show Option.map V.ng (some (vSl v s.of))=_
  rw [Qal,Qaf]
 rw [e_Z3l]
 unfold pNs Qgp pAb
 generalize smC v s=S at *
 obtain ⟨kind,ns,pre,name,op,text,fold,mark,a,b,of⟩:=s
 simp only at *
 by_cases c1:ns=0 <;> by_cases c2:op=0 <;> by_cases c3:text=[] <;> cases fold <;> by_cases c4:a=0 <;> simp +contextual -implicitDefEqProofs (disch:=try exact X0d) only [↓reduceIte,go_sem,s_Z3l,h1,l1,l2,l3,l4,l5,l6,l7,l8,l9,l10,Qah,Qaf,c1,c2,c3,c4,decide_not]
include hn
theorem Qwe (s:Sm α) (U:Objs) (hσ:Wf U):E cx 80 [.agg (smC v s),.agg (Qaa n)] U=some (.bool (Qff n s),U):=by
 refine Qbe Qbb ?_ (by simp only [Qag,Qa0,Qbd hv,Qak];rfl) rfl U hσ
 have h1:boxV [] (.agg (smC v s))=some (.ptr 0 0,[.cells (smC v s)]):=Qau Qf2 Qc6
 have h2:boxV [.cells (smC v s)] (.agg (Qaa n))=some (.ptr 1 0,[.cells (smC v s),.cells (Qaa n)]):=Qau ok_n no_n
 have hw:Wf [.cells (smC v s),.cells (Qaa n)]:=by rw [Qgl];exact ⟨Qbd hv,Qak⟩
 have h3:=Qis n.pres s.pre (by have:=hn.2.1;omega) _ hw
 have l1:eL [.cells (smC v s),.cells (Qaa n)] false 1 (.ptr 0 1)=some (.int .i64 s.ns):=rfl
 have l2:eL [.cells (smC v s),.cells (Qaa n)] false 1 (.ptr 0 2)=some (.str s.pre):=rfl
 have l3:eL [.cells (smC v s),.cells (Qaa n)] false 1 (.ptr 1 2)=some (Qbx n.pres):=by
  show Option.map V.ng (some (Qbx n.pres))=_
  rw [Qal,Qaf]
 rw [e_Z3o]
 unfold Qff
 generalize hasS n.pres.l s.pre=g at *
 generalize Qaa n=N at *
 generalize smC v s=S at *
 generalize s.ns=ns at *
 generalize s.pre=pre at *
 by_cases c1:ns=3
 case pos=>
  subst c1
  simp +contextual -implicitDefEqProofs (disch:=try exact X0d) only [↓reduceIte,go_sem,s_Z3o,h1,h2,h3,l1,l2,l3,Qaf]
 by_cases c2:0≤ns
 case neg=>simp +contextual -implicitDefEqProofs (disch:=try exact X0d) only [↓reduceIte,go_sem,s_Z3o,h1,h2,l1,c1,c2]
 by_cases c3:ns<3
 case neg=>simp +contextual -implicitDefEqProofs (disch:=try exact X0d) only [↓reduceIte,go_sem,s_Z3o,h1,h2,l1,c1,c2,c3]
 simp +contextual -implicitDefEqProofs (disch:=try exact X0d) only [↓reduceIte,go_sem,s_Z3o,h1,h2,l1,l2,c1,c2,c3]
end
def refB (kind:Int) (q1 q2 q3 q4 q5 q6 q7 p1 p2 p3 p4 p5 ok:Bool):Bool:=
 if kind=1 then q1&&q2 && !p3 && !p4 && !p5
 else if kind=2 then q1&&p2 && !p3 && !p4 && !p5
 else if kind=5 then q1&&q2&&q5 && !p4 && !p5
 else if (p1||p3)=true then false
 else if kind=3∨kind=4 then q2 && !p4 && !p5
 else if kind=11 then q3 && !p4 && !p5
 else if kind=13 then q4 && !p4 && !p5
 else if p2=false then false
 else if kind=6∨kind=12 then !p4 && !p5
 else if kind=7 then q6&&q7&&(!p5||ok)
 else if kind=8∨kind=9∨kind=10 then !p4&&ok
 else false
section
variable {α:Type} {v:α→V} (hv:∀n x,V.rb n (v x)=true) {n:Nms} (hn:NmB n)
theorem Waq (a b:Int):nthS a b=(Qgo a&&Qgo b):=by
 unfold nthS Qgo
 generalize decide (a≤1000000)=x
 generalize decide (b≤1000000)=y
 generalize decide (-1000000≤a)=z
 generalize decide (-1000000≤b)=w
 revert x y z w
 decide
theorem Wd1 (s:Sm α) (ok:Bool):Qek n ok s=refB s.kind (Qff n s) (Qir s.name) (Qhh s.name) (Qoa s.name) (Qob s) (Qgo s.a) (Qgo s.b) (pNs s) (decide (s.name=[])) (Qgp s) (pAb s) (decide (0<(s.of.l.length:Int))) ok:=by
 have e0:decide (0<(s.of.l.length:Int)) = !decide ((s.of.l.length:Int)=0):=by
  by_cases c:(s.of.l.length:Int)=0
  ·rw [decide_eq_true c,decide_eq_false X0o];rfl
  ·rw [decide_eq_false c,decide_eq_true X0o];rfl
 have d1:Qcr (rOne s)=(!Qgp s && !pAb s&&decide ((s.of.l.length:Int)=0)):=by
  unfold Qcr Qgp pAb
  simp only [rOne,decide_true,Xa0]
  generalize decide (s.op=0)=x1;generalize decide (s.text=[])=x2;generalize decide (s.fold=false)=x3;generalize decide (s.mark=0)=x4;generalize decide (s.a=0)=x5;generalize decide (s.b=0)=x6;generalize decide ((s.of.l.length:Int)=0)=x7
  revert x1 x2 x3 x4 x5 x6 x7
  decide
 have d2:Qcr (Qef s)=(decide (s.name=[]) && !Qgp s && !pAb s&&decide ((s.of.l.length:Int)=0)):=by
  unfold Qcr Qgp pAb
  simp only [Qef,decide_true,Xa0]
  generalize decide (s.name=[])=x0;generalize decide (s.op=0)=x1;generalize decide (s.text=[])=x2;generalize decide (s.fold=false)=x3;generalize decide (s.mark=0)=x4;generalize decide (s.a=0)=x5;generalize decide (s.b=0)=x6;generalize decide ((s.of.l.length:Int)=0)=x7
  revert x0 x1 x2 x3 x4 x5 x6 x7
  decide
 have d3:Qcr (Qfe s)=(!pNs s && !Qgp s && !pAb s&&decide ((s.of.l.length:Int)=0)):=by
  unfold Qcr pNs Qgp pAb
  simp only [Qfe,decide_true,Xau]
  generalize decide (s.ns=0)=y0;generalize decide (s.pre=[])=x0;generalize decide (s.op=0)=x1;generalize decide (s.text=[])=x2;generalize decide (s.fold=false)=x3;generalize decide (s.mark=0)=x4;generalize decide (s.a=0)=x5;generalize decide (s.b=0)=x6;generalize decide ((s.of.l.length:Int)=0)=x7
  revert y0 x0 x1 x2 x3 x4 x5 x6 x7
  decide
 have d4:Qcr (rTwo s)=(!pAb s&&decide ((s.of.l.length:Int)=0)):=by
  unfold Qcr pAb
  simp only [rTwo,decide_true,Xa0]
  generalize decide (s.a=0)=x5;generalize decide (s.b=0)=x6;generalize decide ((s.of.l.length:Int)=0)=x7
  revert x5 x6 x7
  decide
 have d5:Qcr s=(!pNs s&&decide (s.name=[]) && !Qgp s && !pAb s&&decide ((s.of.l.length:Int)=0)):=by
  unfold Qcr pNs Qgp pAb
  generalize decide (s.name=[])=z0;generalize decide (s.ns=0)=y0;generalize decide (s.pre=[])=x0;generalize decide (s.op=0)=x1;generalize decide (s.text=[])=x2;generalize decide (s.fold=false)=x3;generalize decide (s.mark=0)=x4;generalize decide (s.a=0)=x5;generalize decide (s.b=0)=x6;generalize decide ((s.of.l.length:Int)=0)=x7
  revert z0 y0 x0 x1 x2 x3 x4 x5 x6 x7
  decide
 have d6:Qcr (Qn8 s)=(!pNs s&&decide (s.name=[]) && !Qgp s):=by
  unfold Qcr pNs Qgp
  have e:decide ((((Qn8 s).of).l.length:Int)=0)=true:=rfl
  rw [e]
  simp only [Qn8,decide_true,Xau]
  generalize decide (s.name=[])=z0;generalize decide (s.ns=0)=y0;generalize decide (s.pre=[])=x0;generalize decide (s.op=0)=x1;generalize decide (s.text=[])=x2;generalize decide (s.fold=false)=x3;generalize decide (s.mark=0)=x4
  revert z0 y0 x0 x1 x2 x3 x4
  decide
 have d7:Qcr (Qhg s)=(!pNs s&&decide (s.name=[]) && !Qgp s && !pAb s):=by
  unfold Qcr pNs Qgp pAb
  have e:decide ((((Qhg s).of).l.length:Int)=0)=true:=rfl
  rw [e]
  simp only [Qhg,Xau]
  generalize decide (s.name=[])=z0;generalize decide (s.ns=0)=y0;generalize decide (s.pre=[])=x0;generalize decide (s.op=0)=x1;generalize decide (s.text=[])=x2;generalize decide (s.fold=false)=x3;generalize decide (s.mark=0)=x4;generalize decide (s.a=0)=x5;generalize decide (s.b=0)=x6
  revert z0 y0 x0 x1 x2 x3 x4 x5 x6
  decide
 unfold Qek refB
 rw [d1,d2,d3,d4,d5,d6,d7,e0,Waq]
 generalize Qff n s=q1;generalize Qir s.name=q2;generalize Qhh s.name=q3;generalize Qoa s.name=q4;generalize Qob s=q5;generalize Qgo s.a=q6;generalize Qgo s.b=q7
 generalize pNs s=p1;generalize decide (s.name=[])=p2;generalize Qgp s=p3;generalize pAb s=p4;generalize decide ((s.of.l.length:Int)=0)=p5
 generalize s.kind=kind
 clear d1 d2 d3 d4 d5 d6 d7 e0
 by_cases c1:kind=1
 ·rw [if_pos c1,if_pos c1];revert q1 q2 p3 p4 p5;decide
 rw [if_neg c1,if_neg c1]
 by_cases c2:kind=2
 ·rw [if_pos c2,if_pos c2];revert q1 p2 p3 p4 p5;decide
 rw [if_neg c2,if_neg c2]
 by_cases c34:kind=3∨kind=4
 ·rw [if_pos c34,if_neg (show ¬kind=5 by omega),if_pos c34];revert q2 p1 p3 p4 p5;decide
 rw [if_neg c34]
 by_cases c11:kind=11
 ·rw [if_pos c11,if_neg (show ¬kind=5 by omega),if_neg c34,if_pos c11];revert q3 p1 p3 p4 p5;decide
 rw [if_neg c11]
 by_cases c13:kind=13
 ·rw [if_pos c13,if_neg (show ¬kind=5 by omega),if_neg c34,if_neg c11,if_pos c13];revert q4 p1 p3 p4 p5;decide
 rw [if_neg c13]
 by_cases c5:kind=5
 ·rw [if_pos c5,if_pos c5];revert q1 q2 q5 p4 p5;decide
 rw [if_neg c5,if_neg c5,if_neg c34,if_neg c11,if_neg c13]
 by_cases c6:kind=6∨kind=12
 ·rw [if_pos c6,if_pos c6];revert p1 p2 p3 p4 p5;decide
 rw [if_neg c6,if_neg c6]
 by_cases c7:kind=7
 ·rw [if_pos c7,if_pos c7];revert q6 q7 p1 p2 p3 p5 ok;decide
 rw [if_neg c7,if_neg c7]
 by_cases c8:kind=8∨kind=9∨kind=10
 ·rw [if_pos c8,if_pos c8];revert p1 p2 p3 p4 ok;decide
 rw [if_neg c8,if_neg c8]
 revert p1 p2 p3
 decide
include hv hn
theorem Qr1 (s:Sm α) (hs:SmB s) (ok:Bool) (hL:∀U,Wf U→E cx 36 [vSl v s.of,.agg (Qaa n),.bool false] U=some (.bool ok,U)) (U:Objs) (hσ:Wf U):
  E cx 57 [.agg (smC v s),.agg (Qaa n)] U=some (.bool (Qek n ok s),U):=by
 refine Qbe Qbb ?_ (by simp only [Qag,Qa0,Qbd hv,Qak];rfl) rfl U hσ
 have h1:boxV [] (.agg (smC v s))=some (.ptr 0 0,[.cells (smC v s)]):=Qau Qf2 Qc6
 have h2:boxV [.cells (smC v s)] (.agg (Qaa n))=some (.ptr 1 0,[.cells (smC v s),.cells (Qaa n)]):=Qau ok_n no_n
 have hw:Wf [.cells (smC v s),.cells (Qaa n)]:=by rw [Qgl];exact ⟨Qbd hv,Qak⟩
 have l11:eL [.cells (smC v s),.cells (Qaa n)] true 11 (.ptr 0 0)=some (.agg (smC v s)):=Qbf rfl rfl Qc6
 have l4:eL [.cells (smC v s),.cells (Qaa n)] true 4 (.ptr 1 0)=some (.agg (Qaa n)):=Qbf rfl rfl no_n
 have l0:eL [.cells (smC v s),.cells (Qaa n)] false 1 (.ptr 0 0)=some (.int .i64 s.kind):=rfl
 have l3:eL [.cells (smC v s),.cells (Qaa n)] false 1 (.ptr 0 3)=some (.str s.name):=rfl
 have l8:eL [.cells (smC v s),.cells (Qaa n)] false 1 (.ptr 0 8)=some (.int .i64 s.a):=rfl
 have l9:eL [.cells (smC v s),.cells (Qaa n)] false 1 (.ptr 0 9)=some (.int .i64 s.b):=rfl
 have l10:eL [.cells (smC v s),.cells (Qaa n)] false 1 (.ptr 0 10)=some (vSl v s.of):=by
  show Option.map V.ng (some (vSl v s.of))=_
  rw [Qal,Qaf]
 have kp:=Wie hv s _ hw
 have k1:=Qwe hv hn s _ hw
 have k2:=Qp1 s.name (by have:=hs.2.1;omega) _ hw
 have k3:=Qwd s.name _ hw
 have k4:=Qqd s.name _ hw
 have k5:=Wap hv s hs _ hw
 have k6:=Wao s.a _ hw
 have k7:=Wao s.b _ hw
 have kr:=hL _ hw
 have nOF:(vSl v s.of).ng=vSl v s.of:=Qaf
 rw [e_Z3f,Wd1]
 clear hL hs
 unfold refB
 generalize Qff n s=q1 at *; generalize Qir s.name=q2 at *; generalize Qhh s.name=q3 at *; generalize Qoa s.name=q4 at *; generalize Qob s=q5 at *; generalize Qgo s.a=q6 at *; generalize Qgo s.b=q7 at *
 generalize pNs s=p1 at *; generalize decide (s.name=[])=p2 at *; generalize Qgp s=p3 at *; generalize pAb s=p4 at *; generalize decide (0<(s.of.l.length:Int))=p5 at *
 generalize s.kind=kind at *
 generalize smC v s=S at *
 generalize Qaa n=N at *
 generalize vSl v s.of=OF at *
 by_cases c1:kind=1
 ·subst c1
  cases q1 <;> cases q2 <;> cases p3 <;> cases p4 <;> simp +contextual -implicitDefEqProofs (disch:=try exact X0d) only [↓reduceIte,go_sem,s_Z3f,h1,h2,l11,l4,l0,l3,kp,k1,k2]
 by_cases c2:kind=2
 ·subst c2
  cases q1 <;> cases p2 <;> cases p3 <;> cases p4 <;> simp +contextual -implicitDefEqProofs (disch:=try exact X0d) only [↓reduceIte,go_sem,s_Z3f,h1,h2,l11,l4,l0,l3,kp,k1]
 by_cases c5:kind=5
 ·subst c5
  cases q1 <;> cases q2 <;> cases q5 <;> cases p4 <;> simp +contextual -implicitDefEqProofs (disch:=try exact X0d) only [↓reduceIte,go_sem,s_Z3f,h1,h2,l11,l4,l0,l3,kp,k1,k2,k5]
 cases p1 with
 |true=>simp +contextual -implicitDefEqProofs (disch:=try exact X0d) only [↓reduceIte,go_sem,s_Z3f,h1,h2,l11,l4,l0,kp,c1,c2,c5]
 |false=>
 cases p3 with
 |true=>simp +contextual -implicitDefEqProofs (disch:=try exact X0d) only [↓reduceIte,go_sem,s_Z3f,h1,h2,l11,l4,l0,kp,c1,c2,c5]
 |false=>
 by_cases c3:kind=3
 ·subst c3
  cases q2 <;> cases p4 <;> simp +contextual -implicitDefEqProofs (disch:=try exact X0d) only [↓reduceIte,go_sem,s_Z3f,h1,h2,l11,l4,l0,l3,kp,k2]
 by_cases c4:kind=4
 ·subst c4
  cases q2 <;> cases p4 <;> simp +contextual -implicitDefEqProofs (disch:=try exact X0d) only [↓reduceIte,go_sem,s_Z3f,h1,h2,l11,l4,l0,l3,kp,k2]
 by_cases c11:kind=11
 ·subst c11
  cases q3 <;> cases p4 <;> simp +contextual -implicitDefEqProofs (disch:=try exact X0d) only [↓reduceIte,go_sem,s_Z3f,h1,h2,l11,l4,l0,l3,kp,k3]
 by_cases c13:kind=13
 ·subst c13
  cases q4 <;> cases p4 <;> simp +contextual -implicitDefEqProofs (disch:=try exact X0d) only [↓reduceIte,go_sem,s_Z3f,h1,h2,l11,l4,l0,l3,kp,k4]
 cases p2 with
 |false=>simp +contextual -implicitDefEqProofs (disch:=try exact X0d) only [↓reduceIte,go_sem,s_Z3f,h1,h2,l11,l4,l0,kp,c1,c2,c5,c3,c4,c11,c13]
 |true=>
 by_cases c6:kind=6
 ·subst c6
  cases p4 <;> simp +contextual -implicitDefEqProofs (disch:=try exact X0d) only [↓reduceIte,go_sem,s_Z3f,h1,h2,l11,l4,l0,kp]
 by_cases c12:kind=12
 ·subst c12
  cases p4 <;> simp +contextual -implicitDefEqProofs (disch:=try exact X0d) only [↓reduceIte,go_sem,s_Z3f,h1,h2,l11,l4,l0,kp]
 by_cases c7:kind=7
 ·subst c7
  cases q6 <;> cases q7 <;> cases p5 <;> simp +contextual -implicitDefEqProofs (disch:=try exact X0d) only [↓reduceIte,go_sem,s_Z3f,h1,h2,l11,l4,l0,l8,l9,l10,kp,k6,k7,kr,nOF]
 by_cases c8:kind=8
 ·subst c8
  cases p4 <;> simp +contextual -implicitDefEqProofs (disch:=try exact X0d) only [↓reduceIte,go_sem,s_Z3f,h1,h2,l11,l4,l0,l10,kp,kr,nOF]
 by_cases c9:kind=9
 ·subst c9
  cases p4 <;> simp +contextual -implicitDefEqProofs (disch:=try exact X0d) only [↓reduceIte,go_sem,s_Z3f,h1,h2,l11,l4,l0,l10,kp,kr,nOF]
 by_cases c10:kind=10
 ·subst c10
  cases p4 <;> simp +contextual -implicitDefEqProofs (disch:=try exact X0d) only [↓reduceIte,go_sem,s_Z3f,h1,h2,l11,l4,l0,l10,kp,kr,nOF]
 simp +contextual -implicitDefEqProofs (disch:=try exact X0d) only [↓reduceIte,go_sem,s_Z3f,h1,h2,l11,l4,l0,kp,c1,c2,c5,c3,c4,c11,c13,c6,c12,c7,c8,c9,c10]
end
section
variable {α:Type} {v:α→V} (hv:∀n x,V.rb n (v x)=true) {n:Nms} (hn:NmB n)
def SmR (v:α→V) (n:Nms) (okl:Sl α→Bool) (s:Sm α):Prop:=SmB s∧∀U,Wf U→E cx 36 [vSl v s.of,.agg (Qaa n),.bool false] U=some (.bool (okl s.of),U)
def CpR (v:α→V) (n:Nms) (okl:Sl α→Bool) (x:Cp α):Prop:=x.list.l.length≤1000∧∀s∈x.list.l,SmR v n okl s
def CoR (v:α→V) (n:Nms) (okl:Sl α→Bool) (c:Co α):Prop:=c.list.l.length≤1000∧∀x∈c.list.l,CpR v n okl x
include hv hn
theorem Wl6 (okl:Sl α→Bool) (outer:Bool) (c:Co α) (hcl:c.list.l.length≤1000) (LV:V) (hLV:∀k,V.rb k LV=true) (hLn:LV.ng=LV) (i:Int) (k:Int) (x:Cp α) (hk:0≤k∧k≤1000)
  (hic:eI 2 (.int .i64 k) (vSl (vCp v) c.list)=some (.eptr (cpC v x) 0)) (hx:CpR v n okl x) (hne:0<x.list.l.length) (r1 r2:Rk):∀(r q:List (Sm α)),x.list.l=q++r→
  l_Z3e_2 (Mi cx) 0 1 r1 1 r2 1 [LV,.bool outer,.ptr 0 0,.int .i64 i,vSl (vCp v) c.list,.int .i64 k,.int .i64 q.length] [.cells (Qaa n)]=
   if cmpR n okl (outer&&decide (k=(c.list.l.length:Int) - 1)) x.list.l.length q.length r=true then r2 [LV,.bool outer,.ptr 0 0,.int .i64 i,vSl (vCp v) c.list,.int .i64 (k+1)] [.cells (Qaa n)] else some (.bool false,[])
 |[],q,hq=>by
  have hlen:x.list.l.length=q.length:=by rw [hq];simp
  have e1:¬(q.length:Int)<x.list.l.length:=by omega
  have e2:cmpR n okl (outer&&decide (k=(c.list.l.length:Int) - 1)) x.list.l.length q.length []=true:=decide_eq_true X0o
  have hN:V.rbs 1 (Qaa n)=true:=Qak
  have l1:∀U,eL U false 1 (.eptr (cpC v x) 1)=some (vSl (vSm v) x.list):=fun U=>by
   show Option.map V.ng (some (vSl (vSm v) x.list))=_
   rw [Qal,Qaf]
  have f1:∀k U,fz k U fzD LV=some LV:=fun k U=>Qar (hLV k)
  have f2:∀k U,fz k U fzD (vSl (vCp v) c.list)=some (vSl (vCp v) c.list):=fun k U=>Qar (Qaj (Qe8 hv))
  rw [u_Z3e_2,e2,if_pos rfl]
  clear hx e2
  generalize Qaa n=N at *
  generalize cpC v x=Y at *
  simp +contextual -implicitDefEqProofs (disch:=try exact X0d) only [↓reduceIte,go_sem,b_Z3e_2,e1,hic,l1,f1,f2,Qah,Qaf]
 |s::r,q,hq=>by
  have hlen:x.list.l.length=q.length+r.length+1:=by rw [hq];simp;omega
  have hxl:=hx.1
  obtain ⟨hs,hR⟩:=hx.2 s (by rw [hq];simp)
  have e1:(q.length:Int)<x.list.l.length:=by omega
  have hN:V.rbs 1 (Qaa n)=true:=Qak
  have l1:∀U,eL U false 1 (.eptr (cpC v x) 1)=some (vSl (vSm v) x.list):=fun U=>by
   show Option.map V.ng (some (vSl (vSm v) x.list))=_
   rw [Qal,Qaf]
  have f1:∀k U,fz k U fzD LV=some LV:=fun k U=>Qar (hLV k)
  have f2:∀k U,fz k U fzD (vSl (vCp v) c.list)=some (vSl (vCp v) c.list):=fun k U=>Qar (Qaj (Qe8 hv))
  have i1:eI 11 (.int .i64 q.length) (vSl (vSm v) x.list)=some (.eptr (smC v s) 0):=Qax (f:=vSm v) hq rfl rfl
  have i2:∀U,eL U true 11 (.eptr (smC v s) 0)=some (.agg (smC v s)):=fun U=>Qc3 rfl Qc6
  have y1:(smC v s).length=11:=rfl
  have y2:Qan (smC v s)=true:=Qf2
  have y3:(smC v s).map V.ng=smC v s:=Qc6
  have hw:Wf [.cells (Qaa n),.cells (smC v s)]:=by rw [Qgl];exact ⟨Qak,Qbd hv⟩
  have k1:=Qr1 hv hn s hs (okl s.of) hR _ hw
  have l4:eL [.cells (Qaa n),.cells (smC v s)] true 4 (.ptr 0 0)=some (.agg (Qaa n)):=Qbf rfl rfl no_n
  have l11:eL [.cells (Qaa n),.cells (smC v s)] true 11 (.ptr 1 0)=some (.agg (smC v s)):=Qbf rfl rfl Qc6
  have l0:eL [.cells (Qaa n),.cells (smC v s)] false 1 (.ptr 1 0)=some (.int .i64 s.kind):=rfl
  have c1:∀H:Objs,cuO 1 (.cells (Qaa n)::H)=some [.cells (Qaa n)]:=fun H=>Qda hN
  have ih:=Wl6 okl outer c hcl LV hLV hLn i k x hk hic hx hne r1 r2 r (q++[s]) (by rw [hq];simp)
  rw [show ((q++[s]).length:Int)=q.length+1 by simp,show (q++[s]).length=q.length+1 by simp] at ih
  rw [u_Z3e_2]
  unfold cmpR
  generalize Qek n (okl s.of) s=sb at *
  clear hx hR hs
  have hQ:0≤(q.length:Int)∧(q.length:Int)≤1000:=by omega
  have hl2:(q.length:Int)≤x.list.l.length - 1:=by omega
  generalize cmpR n okl (outer&&decide (k=(c.list.l.length:Int) - 1)) x.list.l.length (q.length+1) r=CR at *
  generalize s.kind=kind at *
  generalize Qaa n=N at *
  generalize cpC v x=Y at *
  generalize smC v s=S at *
  cases sb with
  |false=>
   cases d5:decide (k=(c.list.l.length:Int) - 1) <;> simp +contextual -implicitDefEqProofs (disch:=try exact X0d) only [↓reduceIte,go_sem,b_Z3e_2,j_Z3e_1,j_Z3e_0,e1,hic,l1,f1,f2,Qah,Qaf,hLn,i1,i2,k1,l4,l11,l0,c1,d5]
  |true=>
   by_cases g1:0<(q.length:Int)∧(kind=1∨kind=2)
   ·obtain ⟨g2,g3⟩:=g1
    rw [if_neg (show ¬(true=false) by decide),if_pos (show 0<(q.length:Int)∧(kind=1∨kind=2) from ⟨g2,g3⟩)]
    cases d5:decide (k=(c.list.l.length:Int) - 1) <;> rcases g3 with rfl|rfl <;> simp +contextual -implicitDefEqProofs (disch:=try exact X0d) only [↓reduceIte,go_sem,b_Z3e_2,j_Z3e_1,j_Z3e_0,e1,hic,l1,f1,f2,Qah,Qaf,hLn,i1,i2,k1,l4,l11,l0,c1,d5,g2]
   ·rw [if_neg (show ¬(true=false) by decide),if_neg g1]
    by_cases g13:kind=13
    ·subst g13
     cases outer with
     |false=>
      rw [Xbt,if_pos (show (13:Int)=13∧(false=false∨(q.length:Int)<(x.list.l.length:Int) - 1) from ⟨rfl,.inl rfl⟩)]
      by_cases g2:0<(q.length:Int) <;> cases d5:decide (k=(c.list.l.length:Int) - 1) <;> simp +contextual -implicitDefEqProofs (disch:=try exact X0d) only [↓reduceIte,go_sem,b_Z3e_2,j_Z3e_1,j_Z3e_0,e1,hic,l1,f1,f2,Qah,Qaf,hLn,i1,i2,k1,l4,l11,l0,c1,d5,g2]
     |true=>
      rw [Xa0] at *
      cases d5:decide (k=(c.list.l.length:Int) - 1) with
      |false=>
       rw [if_pos (show (13:Int)=13∧(false=false∨(q.length:Int)<(x.list.l.length:Int) - 1) from ⟨rfl,.inl rfl⟩)]
       by_cases g2:0<(q.length:Int) <;> simp +contextual -implicitDefEqProofs (disch:=try exact X0d) only [↓reduceIte,go_sem,b_Z3e_2,j_Z3e_1,j_Z3e_0,e1,hic,l1,f1,f2,Qah,Qaf,hLn,i1,i2,k1,l4,l11,l0,c1,d5,g2]
      |true=>
       by_cases g6:(q.length:Int)<x.list.l.length - 1
       ·rw [if_pos (show (13:Int)=13∧(true=false∨(q.length:Int)<(x.list.l.length:Int) - 1) from ⟨rfl,.inr g6⟩)]
        have g7:decide ((q.length:Int)=(x.list.l.length:Int) - 1)=false:=decide_eq_false X0o
        by_cases g2:0<(q.length:Int) <;> simp +contextual -implicitDefEqProofs (disch:=try exact X0d) only [↓reduceIte,go_sem,b_Z3e_2,j_Z3e_1,j_Z3e_0,e1,hic,l1,f1,f2,Qah,Qaf,hLn,i1,i2,k1,l4,l11,l0,c1,d5,g2,g7]
       ·rw [if_neg (show ¬((13:Int)=13∧(true=false∨(q.length:Int)<(x.list.l.length:Int) - 1)) from fun h=>h.2.elim (fun h=>by cases h) g6)]
        have g7:decide ((q.length:Int)=(x.list.l.length:Int) - 1)=true:=decide_eq_true X0o
        by_cases g2:0<(q.length:Int) <;> simp +contextual -implicitDefEqProofs (disch:=try exact X0d) only [↓reduceIte,go_sem,b_Z3e_2,j_Z3e_1,j_Z3e_0,e1,hic,l1,f1,f2,Qah,Qaf,hLn,i1,i2,k1,l4,l11,l0,c1,d5,g2,g7,ih]
    ·rw [if_neg (show ¬(kind=13∧((outer&&decide (k=(c.list.l.length:Int) - 1))=false∨(q.length:Int)<(x.list.l.length:Int) - 1)) from fun h=>g13 h.1)]
     by_cases g2:0<(q.length:Int)
     ·have g3:¬kind=1:=fun h=>g1 ⟨g2,.inl h⟩
      have g4:¬kind=2:=fun h=>g1 ⟨g2,.inr h⟩
      clear g1
      cases d5:decide (k=(c.list.l.length:Int) - 1) <;> cases d6:decide ((q.length:Int)=(x.list.l.length:Int) - 1) <;> simp +contextual -implicitDefEqProofs (disch:=try exact X0d) only [↓reduceIte,go_sem,b_Z3e_2,j_Z3e_1,j_Z3e_0,e1,hic,l1,f1,f2,Qah,Qaf,hLn,i1,i2,k1,l4,l11,l0,c1,d5,d6,g2,g3,g4,g13,ih]
     ·clear g1
      cases d5:decide (k=(c.list.l.length:Int) - 1) <;> cases d6:decide ((q.length:Int)=(x.list.l.length:Int) - 1) <;> simp +contextual -implicitDefEqProofs (disch:=try exact X0d) only [↓reduceIte,go_sem,b_Z3e_2,j_Z3e_1,j_Z3e_0,e1,hic,l1,f1,f2,Qah,Qaf,hLn,i1,i2,k1,l4,l11,l0,c1,d5,d6,g2,g13,ih]
end
section
variable {α:Type} {v:α→V} (hv:∀n x,V.rb n (v x)=true) {n:Nms} (hn:NmB n)
include hv hn
theorem Wl7 (okl:Sl α→Bool) (outer:Bool) (c:Co α) (hc:CoR v n okl c) (LV:V) (hLV:∀k,V.rb k LV=true) (hLn:LV.ng=LV) (i:Int) (hi:0≤i∧i≤100000) (r1:Rk):∀(r q:List (Cp α)),c.list.l=q++r→
  l_Z3e_1 (Mi cx) 0 1 r1 1 [LV,.bool outer,.ptr 0 0,.int .i64 i,vSl (vCp v) c.list,.int .i64 q.length] [.cells (Qaa n)]=
   if (innR n okl outer c.list.l.length q.length r&&decide (¬(c.list.l.length:Int)=0))=true then r1 [LV,.bool outer,.ptr 0 0,.int .i64 (i+1)] [.cells (Qaa n)] else some (.bool false,[])
 |[],q,hq=>by
  have hlen:c.list.l.length=q.length:=by rw [hq];simp
  have e1:¬(q.length:Int)<c.list.l.length:=by omega
  have hN:V.rbs 1 (Qaa n)=true:=Qak
  have c1:∀H:Objs,cuO 1 (.cells (Qaa n)::H)=some [.cells (Qaa n)]:=fun H=>Qda hN
  have f1:∀k U,fz k U fzD LV=some LV:=fun k U=>Qar (hLV k)
  have f2:∀k U,fz k U fzD (vSl (vCp v) c.list)=some (vSl (vCp v) c.list):=fun k U=>Qar (Qaj (Qe8 hv))
  have e2:innR n okl outer c.list.l.length q.length []=true:=rfl
  rw [u_Z3e_1,e2,Xa0]
  clear hc
  generalize Qaa n=N at *
  by_cases g:(c.list.l.length:Int)=0
  ·rw [if_neg (by simp [g])]
   simp +contextual -implicitDefEqProofs (disch:=try exact X0d) only [↓reduceIte,go_sem,b_Z3e_1,j_Z3e_0,e1,f1,f2,c1,Qah,Qaf,hLn,g]
  ·rw [if_pos (show decide (¬(c.list.l.length:Int)=0)=true from decide_eq_true g)]
   simp +contextual -implicitDefEqProofs (disch:=try exact X0d) only [↓reduceIte,go_sem,b_Z3e_1,j_Z3e_0,e1,f1,f2,c1,Qah,Qaf,hLn,g]
 |x::r,q,hq=>by
  have hlen:c.list.l.length=q.length+r.length+1:=by rw [hq];simp;omega
  have hcl:=hc.1
  have hx:=hc.2 x (by rw [hq];simp)
  have e1:(q.length:Int)<c.list.l.length:=by omega
  have hN:V.rbs 1 (Qaa n)=true:=Qak
  have c1:∀H:Objs,cuO 1 (.cells (Qaa n)::H)=some [.cells (Qaa n)]:=fun H=>Qda hN
  have f1:∀k U,fz k U fzD LV=some LV:=fun k U=>Qar (hLV k)
  have f2:∀k U,fz k U fzD (vSl (vCp v) c.list)=some (vSl (vCp v) c.list):=fun k U=>Qar (Qaj (Qe8 hv))
  have i1:eI 2 (.int .i64 q.length) (vSl (vCp v) c.list)=some (.eptr (cpC v x) 0):=Qax (f:=vCp v) hq rfl rfl
  have l0:∀U,eL U false 1 (.eptr (cpC v x) 0)=some (.int .i64 x.comb):=fun U=>rfl
  have l1:∀U,eL U false 1 (.eptr (cpC v x) 1)=some (vSl (vSm v) x.list):=fun U=>by
   show Option.map V.ng (some (vSl (vSm v) x.list))=_
   rw [Qal,Qaf]
  have ih:=Wl7 okl outer c hc LV hLV hLn i hi r1 r (q++[x]) (by rw [hq];simp)
  rw [show ((q++[x]).length:Int)=q.length+1 by simp,show (q++[x]).length=q.length+1 by simp] at ih
  have k2:=fun hne=>Wl6 hv hn okl outer c hcl LV hLV hLn i q.length x X0o i1 hx hne r1 (l_Z3e_1 (Mi cx) 0 1 r1 1) x.list.l [] rfl
  rw [u_Z3e_1]
  unfold innR
  by_cases d1:x.comb<0∨4<x.comb
  ·rw [if_pos d1,Xbt,if_neg (by decide)]
   clear k2 ih hc hx
   generalize Qaa n=N at *
   generalize cpC v x=Y at *
   generalize x.comb=comb at *
   by_cases d2:comb<0
   ·simp +contextual -implicitDefEqProofs (disch:=try exact X0d) only [↓reduceIte,go_sem,b_Z3e_1,j_Z3e_1,j_Z3e_0,e1,f1,f2,c1,Qah,Qaf,hLn,i1,l0,d2]
   ·have d3:4<comb:=by omega
    simp +contextual -implicitDefEqProofs (disch:=try exact X0d) only [↓reduceIte,go_sem,b_Z3e_1,j_Z3e_1,j_Z3e_0,e1,f1,f2,c1,Qah,Qaf,hLn,i1,l0,d2,d3]
  rw [if_neg d1]
  have d2:¬x.comb<0:=by omega
  have d3:¬ 4<x.comb:=by omega
  by_cases d4:decide (x.comb=0)=decide ((q.length:Int)=0)
  case neg=>
   rw [if_pos d4,Xbt,if_neg (by decide)]
   clear k2 ih hc hx
   generalize Qaa n=N at *
   generalize cpC v x=Y at *
   generalize x.comb=comb at *
   cases g1:decide (comb=0) <;> cases g2:decide ((q.length:Int)=0) <;> first|(rw [g1,g2] at d4;exact absurd rfl d4)|simp +contextual -implicitDefEqProofs (disch:=try exact X0d) only [↓reduceIte,go_sem,b_Z3e_1,j_Z3e_1,j_Z3e_0,e1,f1,f2,c1,Qah,Qaf,hLn,i1,l0,d2,d3,g1,g2]
  rw [if_neg (show ¬ ¬(decide (x.comb=0)=decide ((q.length:Int)=0)) from fun h=>h d4)]
  by_cases d5:(x.list.l.length:Int)=0
  ·have e5:Qoc n okl (outer&&decide ((q.length:Int)=(c.list.l.length:Int) - 1)) x=false:=by
    unfold Qoc
    have:x.list.l=[]:=Xap.1 X0o
    rw [this];rfl
   rw [e5,if_pos (show (false=false) from rfl),Xbt,if_neg (by decide)]
   clear k2 ih hc hx e5
   generalize Qaa n=N at *
   generalize cpC v x=Y at *
   generalize x.comb=comb at *
   cases g1:decide (comb=0) <;> cases g2:decide ((q.length:Int)=0) <;> first|(rw [g1,g2] at d4;exact absurd d4 (by decide))|simp +contextual -implicitDefEqProofs (disch:=try exact X0d) only [↓reduceIte,go_sem,b_Z3e_1,j_Z3e_1,j_Z3e_0,e1,f1,f2,c1,Qah,Qaf,hLn,i1,l0,l1,d2,d3,d5,g1,g2]
  ·have k2':=k2 X0o
   have k3:l_Z3e_2 (Mi cx) 0 1 r1 1 (l_Z3e_1 (Mi cx) 0 1 r1 1) 1 [LV,.bool outer,.ptr 0 0,.int .i64 i,vSl (vCp v) c.list,.int .i64 q.length,.int .i64 0] [.cells (Qaa n)]=if Qoc n okl (outer&&decide ((q.length:Int)=(c.list.l.length:Int) - 1)) x=true then l_Z3e_1 (Mi cx) 0 1 r1 1 [LV,.bool outer,.ptr 0 0,.int .i64 i,vSl (vCp v) c.list,.int .i64 (q.length+1)] [.cells (Qaa n)] else some (.bool false,[]):=k2'
   rw [ih] at k3
   clear k2 k2' ih hc hx
   generalize innR n okl outer c.list.l.length (q.length+1) r=IR at *
   generalize Qoc n okl (outer&&decide ((q.length:Int)=(c.list.l.length:Int) - 1)) x=CS at *
   generalize Qaa n=N at *
   generalize cpC v x=Y at *
   generalize x.comb=comb at *
   cases CS with
   |false=>
    rw [if_neg (by decide)] at k3
    rw [if_pos (show (false=false) from rfl),Xbt,if_neg (by decide)]
    cases g1:decide (comb=0) <;> cases g2:decide ((q.length:Int)=0) <;> first|(rw [g1,g2] at d4;exact absurd d4 (by decide))|simp +contextual -implicitDefEqProofs (disch:=try exact X0d) only [↓reduceIte,go_sem,b_Z3e_1,j_Z3e_1,j_Z3e_0,e1,f1,f2,c1,Qah,Qaf,hLn,i1,l0,l1,d2,d3,d5,g1,g2,k3]
   |true=>
    rw [if_pos rfl] at k3
    rw [if_neg (show ¬(true=false) by decide)]
    generalize (if (IR&&decide (¬(c.list.l.length:Int)=0))=true then r1 [LV,.bool outer,.ptr 0 0,.int .i64 (i+1)] [.cells N] else some (.bool false,[]))=RES at *
    cases g1:decide (comb=0) <;> cases g2:decide ((q.length:Int)=0) <;> first|(rw [g1,g2] at d4;exact absurd d4 (by decide))|simp +contextual -implicitDefEqProofs (disch:=try exact X0d) only [↓reduceIte,go_sem,b_Z3e_1,j_Z3e_1,j_Z3e_0,e1,f1,f2,c1,Qah,Qaf,hLn,i1,l0,l1,d2,d3,d5,g1,g2,k3]
theorem Wl8 (okl:Sl α→Bool) (outer:Bool) (s:Sl (Co α)) (hs:s.l.length≤1000) (hc:∀c∈s.l,CoR v n okl c):∀(r q:List (Co α)),s.l=q++r→
  l_Z3e_0 (Mi cx) 0 1 [vSl (vCo v) s,.bool outer,.ptr 0 0,.int .i64 q.length] [.cells (Qaa n)]=some (.bool (lstR n okl outer s.l.length r),[])
 |[],q,hq=>by
  have hlen:s.l.length=q.length:=by rw [hq];simp
  have e1:¬(q.length:Int)<s.l.length:=by omega
  have hN:V.rbs 1 (Qaa n)=true:=Qak
  have f1:∀k U,fz k U fzD (vSl (vCo v) s)=some (vSl (vCo v) s):=fun k U=>Qar (Qaj (Qc0 hv))
  have e2:lstR n okl outer s.l.length []=decide (0<(s.l.length:Int)):=rfl
  rw [u_Z3e_0,e2]
  clear hc
  generalize Qaa n=N at *
  simp +contextual -implicitDefEqProofs (disch:=try exact X0d) only [↓reduceIte,go_sem,b_Z3e_0,e1,f1,Qah,Qaf]
 |c::r,q,hq=>by
  have hlen:s.l.length=q.length+r.length+1:=by rw [hq];simp;omega
  have e1:(q.length:Int)<s.l.length:=by omega
  have hN:V.rbs 1 (Qaa n)=true:=Qak
  have f1:∀k U,fz k U fzD (vSl (vCo v) s)=some (vSl (vCo v) s):=fun k U=>Qar (Qaj (Qc0 hv))
  have f2:∀k U,fz k U fzD (vSl (vCp v) c.list)=some (vSl (vCp v) c.list):=fun k U=>Qar (Qaj (Qe8 hv))
  have i1:eI 1 (.int .i64 q.length) (vSl (vCo v) s)=some (.eptr (coC v c) 0):=Qax (f:=vCo v) hq rfl rfl
  have l0:∀U,eL U false 1 (.eptr (coC v c) 0)=some (vSl (vCp v) c.list):=fun U=>by
   show Option.map V.ng (some (vSl (vCp v) c.list))=_
   rw [Qal,Qaf]
  have k1:=Wl7 hv hn okl outer c (hc c (by rw [hq];simp)) (vSl (vCo v) s) (fun k=>Qaj (Qc0 hv)) Qaf q.length X0o (l_Z3e_0 (Mi cx) 0 1) c.list.l [] rfl
  have ih:=Wl8 okl outer s hs hc r (q++[c]) (by rw [hq];simp)
  rw [show ((q++[c]).length:Int)=q.length+1 by simp] at ih
  rw [ih] at k1
  have k2:l_Z3e_1 (Mi cx) 0 1 (l_Z3e_0 (Mi cx) 0 1) 1 [vSl (vCo v) s,.bool outer,.ptr 0 0,.int .i64 q.length,vSl (vCp v) c.list,.int .i64 0] [.cells (Qaa n)]=some (.bool (lstR n okl outer s.l.length (c::r)),[]):=by
   refine k1.trans ?_
   unfold lstR
   show (if (innR n okl outer c.list.l.length 0 c.list.l&&decide (¬(c.list.l.length:Int)=0))=true then _ else _)=_
   by_cases g:(c.list.l.length:Int)=0
   ·rw [if_pos g,if_neg (by simp [g])]
   ·rw [if_neg g]
    cases hI:innR n okl outer c.list.l.length 0 c.list.l with
    |false=>rfl
    |true=>rw [Xa0,if_pos (show decide (¬(c.list.l.length:Int)=0)=true from decide_eq_true g),if_pos rfl];cases r <;> rfl
  rw [u_Z3e_0]
  clear hc k1 ih
  generalize lstR n okl outer s.l.length (c::r)=RES at *
  generalize Qaa n=N at *
  generalize coC v c=C at *
  simp +contextual -implicitDefEqProofs (disch:=try exact X0d) only [↓reduceIte,go_sem,b_Z3e_0,e1,f1,f2,i1,l0,Qah,Qaf,k2]
theorem Qr2 (okl:Sl α→Bool) (outer:Bool) (s:Sl (Co α)) (hs:s.l.length≤1000) (hc:∀c∈s.l,CoR v n okl c) (U:Objs) (hσ:Wf U):
  E cx 36 [vSl (vCo v) s,.agg (Qaa n),.bool outer] U=some (.bool (lstS n okl outer s),U):=by
 refine Qbe Qbb ?_ (by simp only [Qag,Qa0,Qak,Qaj (Qc0 hv)];rfl) rfl U hσ
 have h1:boxV [] (.agg (Qaa n))=some (.ptr 0 0,[.cells (Qaa n)]):=Qau ok_n no_n
 have f1:∀k U,fz k U fzD (vSl (vCo v) s)=some (vSl (vCo v) s):=fun k U=>Qar (Qaj (Qc0 hv))
 have k:=Wl8 hv hn okl outer s hs hc s.l [] rfl
 have k':l_Z3e_0 (Mi cx) 0 1 [vSl (vCo v) s,.bool outer,.ptr 0 0,.int .i64 0] [.cells (Qaa n)]=some (.bool (lstS n okl outer s),[]):=k
 clear hc k
 rw [e_Z3e]
 generalize lstS n okl outer s=RES at *
 generalize Qaa n=N at *
 simp +contextual -implicitDefEqProofs (disch:=try exact X0d) only [↓reduceIte,go_sem,s_Z3e,h1,f1,k']
end
theorem Qls {n:Nms} (hn:NmB n):∀(k d:Nat) (s:Sl (Cx k)),Bd d k s→∀(outer:Bool) (U:Objs),Wf U→E cx 36 [vSl (vCx k) s,.agg (Qaa n),.bool outer] U=some (.bool (okC n k outer s),U)
 |0,d,s,hb,outer,U,hσ=>by
  have e:=sl0 (α:=Cx 0) (fun x=>Empty.elim x) s
  refine Qbe Qbb ?_ (by simp only [Qag,Qa0,Qak,Qc4];rfl) rfl U hσ
  have h1:boxV [] (.agg (Qaa n))=some (.ptr 0 0,[.cells (Qaa n)]):=Qau ok_n no_n
  have f1:∀k U,fz k U fzD (vSl (vCx 0) s)=some (vSl (vCx 0) s):=fun k U=>Qar (Qaj (Qed 0))
  have e2:(s.l.length:Int)=0:=by rw [e];rfl
  have hN:V.rbs 1 (Qaa n)=true:=Qak
  show _=some (V.bool false,[])
  rw [e_Z3e]
  generalize Qaa n=N at *
  have u:l_Z3e_0 (Mi cx) 0 1 [vSl (vCx 0) s,.bool outer,.ptr 0 0,.int .i64 0] [.cells N]=some (.bool false,[]):=by
   rw [u_Z3e_0]
   simp +contextual -implicitDefEqProofs (disch:=try exact X0d) only [↓reduceIte,go_sem,b_Z3e_0,Qah,Qaf,e2,f1]
  simp +contextual -implicitDefEqProofs (disch:=try exact X0d) only [↓reduceIte,go_sem,s_Z3e,h1,f1,u]
 |k+1,d,s,hb,outer,U,hσ=>by
  refine Qr2 (Qed k) hn (okC n k false) outer s hb.1 (fun c hc=>⟨(hb.2 c hc).1,fun x hx=>⟨((hb.2 c hc).2 x hx).1,fun y hy => ?_⟩⟩) U hσ
  have hB:=((hb.2 c hc).2 x hx).2 y hy
  exact ⟨⟨hB.1,hB.2.1,hB.2.2.1⟩,fun U hσ=>Qls hn k (d - 1) y.of hB.2.2.2.2 false U hσ⟩
def mxD (a b:Int):Int:=if b > a then b else a
section
variable {α:Type} {v:α→V} (hv:∀n x,V.rb n (v x)=true) (Dww:Sl α→Int)
def Qqe:Int→List (Sm α)→Int
 |d,[]=>d
 |d,y::r=>Qqe (if 0<(y.of.l.length:Int) then mxD d (Dww y.of) else d) r
def Qqf:Int→List (Cp α)→Int
 |d,[]=>d
 |d,x::r=>Qqf (Qqe Dww d x.list.l) r
def Qlt:Int→List (Co α)→Int
 |d,[]=>d
 |d,c::r=>Qlt (Qqf Dww d c.list.l) r
def DpR (v:α→V) (Dww:Sl α→Int) (y:Sm α):Prop:=E cx 35 [vSl v y.of] []=some (.int .i64 (Dww y.of),[])
include hv
theorem Wl9 (LV:V) (hLV:∀k,V.rb k LV=true) (hLn:LV.ng=LV) (c:Co α) (x:Cp α) (i k:Int) (hk:0≤k∧k≤1000) (hx:x.list.l.length≤1000) (hic:eI 1 (.int .i64 i) LV=some (.eptr (coC v c) 0)) (hik:eI 2 (.int .i64 k) (vSl (vCp v) c.list)=some (.eptr (cpC v x) 0)) (r1 r2:Rk) (hD:∀y∈x.list.l,DpR v Dww y):∀(r q:List (Sm α)) (d:Int),x.list.l=q++r→
  l_Z38_2 (Mi cx) 0 0 r1 0 r2 0 [LV,.int .i64 d,.int .i64 i,.int .i64 k,.int .i64 q.length] []=r2 [LV,.int .i64 (Qqe Dww d r),.int .i64 i,.int .i64 (k+1)] []
 |[],q,d,hq=>by
  have hlen:x.list.l.length=q.length:=by rw [hq];simp
  have e1:¬(q.length:Int)<x.list.l.length:=by omega
  have l0:∀U,eL U false 1 (.eptr (coC v c) 0)=some (vSl (vCp v) c.list):=fun U=>by
   show Option.map V.ng (some (vSl (vCp v) c.list))=_
   rw [Qal,Qaf]
  have l1:∀U,eL U false 1 (.eptr (cpC v x) 1)=some (vSl (vSm v) x.list):=fun U=>by
   show Option.map V.ng (some (vSl (vSm v) x.list))=_
   rw [Qal,Qaf]
  have f1:∀k U,fz k U fzD LV=some LV:=fun k U=>Qar (hLV k)
  rw [u_Z38_2]
  show _=r2 [LV,.int .i64 d,.int .i64 i,.int .i64 (k+1)] []
  clear hD
  generalize coC v c=C at *
  generalize cpC v x=Y at *
  simp +contextual -implicitDefEqProofs (disch:=try exact X0d) only [↓reduceIte,go_sem,b_Z38_2,e1,hLn,hic,hik,l0,l1,f1,Qah,Qaf]
 |y::r,q,d,hq=>by
  have hlen:x.list.l.length=q.length+r.length+1:=by rw [hq];simp;omega
  have e1:(q.length:Int)<x.list.l.length:=by omega
  have l0:∀U,eL U false 1 (.eptr (coC v c) 0)=some (vSl (vCp v) c.list):=fun U=>by
   show Option.map V.ng (some (vSl (vCp v) c.list))=_
   rw [Qal,Qaf]
  have l1:∀U,eL U false 1 (.eptr (cpC v x) 1)=some (vSl (vSm v) x.list):=fun U=>by
   show Option.map V.ng (some (vSl (vSm v) x.list))=_
   rw [Qal,Qaf]
  have i1:eI 11 (.int .i64 q.length) (vSl (vSm v) x.list)=some (.eptr (smC v y) 0):=Qax (f:=vSm v) hq rfl rfl
  have l10:∀U,eL U false 1 (.eptr (smC v y) 10)=some (vSl v y.of):=fun U=>by
   show Option.map V.ng (some (vSl v y.of))=_
   rw [Qal,Qaf]
  have f1:∀k U,fz k U fzD LV=some LV:=fun k U=>Qar (hLV k)
  have hy:E cx 35 [vSl v y.of] []=some (.int .i64 (Dww y.of),[]):=hD y (by rw [hq];simp)
  have mm:mmV true [.int .i64 d,.int .i64 (Dww y.of)]=some (.int .i64 (mxD d (Dww y.of))):=rfl
  have ih:=fun d'=>Wl9 LV hLV hLn c x i k hk hx hic hik r1 r2 hD r (q++[y]) d' (by rw [hq];simp)
  rw [show ((q++[y]).length:Int)=q.length+1 by simp] at ih
  rw [u_Z38_2]
  unfold Qqe
  by_cases g:0<(y.of.l.length:Int)
  ·rw [if_pos g,←ih]
   have ih':=ih (mxD d (Dww y.of))
   clear ih hD
   generalize coC v c=C at *
   generalize cpC v x=Y at *
   generalize smC v y=S at *
   simp +contextual -implicitDefEqProofs (disch:=try exact X0d) only [↓reduceIte,go_sem,b_Z38_2,j_Z38_0,e1,hLn,hic,hik,l0,l1,i1,l10,f1,Qah,Qaf,g,hy,mm]
  ·rw [if_neg g,←ih]
   clear ih hD
   generalize coC v c=C at *
   generalize cpC v x=Y at *
   generalize smC v y=S at *
   simp +contextual -implicitDefEqProofs (disch:=try exact X0d) only [↓reduceIte,go_sem,b_Z38_2,j_Z38_0,e1,hLn,hic,hik,l0,l1,i1,l10,f1,Qah,Qaf,g]
theorem Wma (LV:V) (hLV:∀k,V.rb k LV=true) (hLn:LV.ng=LV) (c:Co α) (i:Int) (hi:0≤i∧i≤1000) (hc:c.list.l.length≤1000) (hcx:∀x∈c.list.l,x.list.l.length≤1000) (hic:eI 1 (.int .i64 i) LV=some (.eptr (coC v c) 0)) (r1:Rk) (hD:∀x∈c.list.l,∀y∈x.list.l,DpR v Dww y):∀(r q:List (Cp α)) (d:Int),c.list.l=q++r→
  l_Z38_1 (Mi cx) 0 0 r1 0 [LV,.int .i64 d,.int .i64 i,.int .i64 q.length] []=r1 [LV,.int .i64 (Qqf Dww d r),.int .i64 (i+1)] []
 |[],q,d,hq=>by
  have hlen:c.list.l.length=q.length:=by rw [hq];simp
  have e1:¬(q.length:Int)<c.list.l.length:=by omega
  have l0:∀U,eL U false 1 (.eptr (coC v c) 0)=some (vSl (vCp v) c.list):=fun U=>by
   show Option.map V.ng (some (vSl (vCp v) c.list))=_
   rw [Qal,Qaf]
  have f1:∀k U,fz k U fzD LV=some LV:=fun k U=>Qar (hLV k)
  rw [u_Z38_1]
  show _=r1 [LV,.int .i64 d,.int .i64 (i+1)] []
  clear hD
  generalize coC v c=C at *
  simp +contextual -implicitDefEqProofs (disch:=try exact X0d) only [↓reduceIte,go_sem,b_Z38_1,e1,hLn,hic,l0,f1,Qah,Qaf]
 |x::r,q,d,hq=>by
  have hlen:c.list.l.length=q.length+r.length+1:=by rw [hq];simp;omega
  have e1:(q.length:Int)<c.list.l.length:=by omega
  have l0:∀U,eL U false 1 (.eptr (coC v c) 0)=some (vSl (vCp v) c.list):=fun U=>by
   show Option.map V.ng (some (vSl (vCp v) c.list))=_
   rw [Qal,Qaf]
  have f1:∀k U,fz k U fzD LV=some LV:=fun k U=>Qar (hLV k)
  have i1:eI 2 (.int .i64 q.length) (vSl (vCp v) c.list)=some (.eptr (cpC v x) 0):=Qax (f:=vCp v) hq rfl rfl
  have k2:=Wl9 hv Dww LV hLV hLn c x i q.length X0o (hcx x (by rw [hq];simp)) hic i1 r1 (l_Z38_1 (Mi cx) 0 0 r1 0) (hD x (by rw [hq];simp)) x.list.l [] d rfl
  have k2':l_Z38_2 (Mi cx) 0 0 r1 0 (l_Z38_1 (Mi cx) 0 0 r1 0) 0 [LV,.int .i64 d,.int .i64 i,.int .i64 q.length,.int .i64 0] []=_:=k2
  have ih:=Wma LV hLV hLn c i hi hc hcx hic r1 hD r (q++[x]) (Qqe Dww d x.list.l) (by rw [hq];simp)
  rw [show ((q++[x]).length:Int)=q.length+1 by simp] at ih
  rw [ih] at k2'
  rw [u_Z38_1]
  show _=r1 [LV,.int .i64 (Qqf Dww (Qqe Dww d x.list.l) r),.int .i64 (i+1)] []
  rw [←k2']
  clear hD k2 k2' ih
  generalize coC v c=C at *
  generalize cpC v x=Y at *
  simp +contextual -implicitDefEqProofs (disch:=try exact X0d) only [↓reduceIte,go_sem,b_Z38_1,e1,hLn,hic,l0,f1,Qah,Qaf]
theorem Wmb (s:Sl (Co α)) (hs:s.l.length≤1000) (hc:∀c∈s.l,c.list.l.length≤1000∧(∀x∈c.list.l,x.list.l.length≤1000)∧∀x∈c.list.l,∀y∈x.list.l,DpR v Dww y) (hbd:∀d,Qlt Dww d s.l=Qlt Dww d s.l):∀(r q:List (Co α)) (d:Int),s.l=q++r→0≤Qlt Dww d r∧Qlt Dww d r≤1000000→
  l_Z38_0 (Mi cx) 0 0 [vSl (vCo v) s,.int .i64 d,.int .i64 q.length] []=some (.int .i64 (Qlt Dww d r+1),[])
 |[],q,d,hq,hd=>by
  have hlen:s.l.length=q.length:=by rw [hq];simp
  have e1:¬(q.length:Int)<s.l.length:=by omega
  have hd':0≤d∧d≤1000000:=hd
  rw [u_Z38_0]
  show _=some (V.int .i64 (d+1),[])
  clear hc
  simp +contextual -implicitDefEqProofs (disch:=try exact X0d) only [↓reduceIte,go_sem,b_Z38_0,e1,Qah,Qaf]
 |c::r,q,d,hq,hd=>by
  have hlen:s.l.length=q.length+r.length+1:=by rw [hq];simp;omega
  have e1:(q.length:Int)<s.l.length:=by omega
  obtain ⟨h1,h2,h3⟩:=hc c (by rw [hq];simp)
  have f1:∀k U,fz k U fzD (vSl (vCo v) s)=some (vSl (vCo v) s):=fun k U=>Qar (Qaj (Qc0 hv))
  have i1:eI 1 (.int .i64 q.length) (vSl (vCo v) s)=some (.eptr (coC v c) 0):=Qax (f:=vCo v) hq rfl rfl
  have k1:=Wma hv Dww (vSl (vCo v) s) (fun k=>Qaj (Qc0 hv)) Qaf c q.length X0o h1 h2 i1 (l_Z38_0 (Mi cx) 0 0) h3 c.list.l [] d rfl
  have k1':l_Z38_1 (Mi cx) 0 0 (l_Z38_0 (Mi cx) 0 0) 0 [vSl (vCo v) s,.int .i64 d,.int .i64 q.length,.int .i64 0] []=_:=k1
  have ih:=Wmb s hs hc hbd r (q++[c]) (Qqf Dww d c.list.l) (by rw [hq];simp) hd
  rw [show ((q++[c]).length:Int)=q.length+1 by simp] at ih
  rw [ih] at k1'
  rw [u_Z38_0]
  show _=some (V.int .i64 (Qlt Dww (Qqf Dww d c.list.l) r+1),[])
  clear hc k1 ih h3
  simp +contextual -implicitDefEqProofs (disch:=try exact X0d) only [↓reduceIte,go_sem,b_Z38_0,e1,f1,i1,Qah,Qaf,k1']
end
def gD (h:Nat):Int:=if h=0 then 0 else ((h+2) / 3:Nat)
theorem Qmy {α:Type} {f:α→V} {s:Sl α} : V.hh (vSl f s)=if s.l=[] then 0 else V.hhs (s.l.map f)+1:=by
 cases s with
 |nil=>rfl
 |row xs=>
  show V.hh (.sl (xs.map f) .no)=_
  rw [V.hh]
  cases xs with
  |nil=>rfl
  |cons x r=>rfl
section
variable {α:Type} {v:α→V}
def mX (v:α→V):List (Sm α)→Nat
 |[]=>0
 |y::r=>max (V.hh (vSl v y.of)) (mX v r)
def mC (v:α→V):List (Cp α)→Nat
 |[]=>0
 |x::r=>max (mX v x.list.l) (mC v r)
def mL (v:α→V):List (Co α)→Nat
 |[]=>0
 |c::r=>max (mC v c.list.l) (mL v r)
theorem Qub:∀(r:List (Sm α)) (d:Int),0≤d→Qqe (fun o=>dpI (vSl v o)) d r=mxD d (gD (mX v r))
 |[],d,hd=>by
  show d=mxD d (gD 0)
  unfold mxD gD
  rw [if_pos rfl,if_neg X0o]
 |y::r,d,hd=>by
  have hy:(if 0<(y.of.l.length:Int) then mxD d (dpI (vSl v y.of)) else d)=mxD d (gD (V.hh (vSl v y.of))):=by
   by_cases g:0<(y.of.l.length:Int)
   ·rw [if_pos g]
    have hne:¬y.of.l=[]:=fun e=>by rw [e,Xa9] at g;omega
    have h1:V.hh (vSl v y.of)=V.hhs (y.of.l.map v)+1:=by rw [Qmy,if_neg hne]
    unfold dpI gD
    rw [h1,if_neg X0o]
    congr 1
    omega
   ·rw [if_neg g]
    have he:y.of.l=[]:=Xap.1 X0o
    rw [Qmy,if_pos he]
    unfold mxD gD
    rw [if_pos rfl,if_neg X0o]
  unfold Qqe
  rw [hy]
  have h0:0≤mxD d (gD (V.hh (vSl v y.of))):=by unfold mxD;split <;> omega
  rw [Qub r _ h0]
  show _=mxD d (gD (max (V.hh (vSl v y.of)) (mX v r)))
  generalize V.hh (vSl v y.of)=a
  generalize mX v r=b
  unfold mxD gD
  (repeat' split) <;> omega
theorem Wfe {d:Int} {h:Nat} (hd:0≤d):0≤mxD d (gD h):=by unfold mxD;split <;> omega
theorem War {d:Int} {a b:Nat} : mxD (mxD d (gD a)) (gD b)=mxD d (gD (max a b)):=by
 unfold mxD gD
 (repeat' split) <;> omega
theorem Quc:∀(r:List (Cp α)) (d:Int),0≤d→Qqf (fun o=>dpI (vSl v o)) d r=mxD d (gD (mC v r))
 |[],d,hd=>by
  show d=mxD d (gD 0)
  unfold mxD gD
  rw [if_pos rfl,if_neg X0o]
 |x::r,d,hd=>by
  unfold Qqf
  rw [Qub _ _ hd,Quc r _ (Wfe hd),War]
  rfl
theorem Qud:∀(r:List (Co α)) (d:Int),0≤d→Qlt (fun o=>dpI (vSl v o)) d r=mxD d (gD (mL v r))
 |[],d,hd=>by
  show d=mxD d (gD 0)
  unfold mxD gD
  rw [if_pos rfl,if_neg X0o]
 |c::r,d,hd=>by
  unfold Qlt
  rw [Quc _ _ hd,Qud r _ (Wfe hd),War]
  rfl
theorem Wmc:∀l:List (Sm α),V.hhs (l.map (vSm v))=mX v l
 |[]=>rfl
 |y::r=>by
  have e3:V.hh (vSm v y)=V.hh (vSl v y.of):=by simp [V.hh,V.hhs]
  rw [Xak,V.hhs,Wmc r,e3]
  rfl
theorem Wmd:∀l:List (Cp α),(V.hhs (l.map (vCp v))=0∧mC v l=0)∨V.hhs (l.map (vCp v))=mC v l+1
 |[]=>.inl ⟨rfl,rfl⟩
 |x::r=>by
  have e2:V.hh (vCp v x)=V.hh (vSl (vSm v) x.list):=by simp [V.hh,V.hhs]
  have e3:V.hh (vSl (vSm v) x.list)=if x.list.l=[] then 0 else mX v x.list.l+1:=by rw [Qmy,Wmc]
  have e4:mC v (x::r)=max (mX v x.list.l) (mC v r):=rfl
  have e5:V.hhs ((x::r).map (vCp v))=max (V.hh (vSl (vSm v) x.list)) (V.hhs (r.map (vCp v))):=by rw [Xak,V.hhs,e2]
  have ih:=Wmd r
  rw [e5,e4,e3]
  split
  ·rename_i he
   have:mX v x.list.l=0:=by rw [he];rfl
   omega
  ·omega
theorem Wme:∀l:List (Co α),V.hhs (l.map (vCo v))=mL v l+2∨(V.hhs (l.map (vCo v))≤1∧mL v l=0)
 |[]=>.inr ⟨Xa1 _,rfl⟩
 |c::r=>by
  have e2:V.hh (vCo v c)=V.hh (vSl (vCp v) c.list):=by simp [V.hh,V.hhs]
  have e3:V.hh (vSl (vCp v) c.list)=if c.list.l=[] then 0 else V.hhs (c.list.l.map (vCp v))+1:=Qmy
  have e4:mL v (c::r)=max (mC v c.list.l) (mL v r):=rfl
  have e5:V.hhs ((c::r).map (vCo v))=max (V.hh (vSl (vCp v) c.list)) (V.hhs (r.map (vCo v))):=by rw [Xak,V.hhs,e2]
  have ih:=Wme r
  have hc:=Wmd (v:=v) c.list.l
  rw [e5,e4,e3]
  split
  ·rename_i he
   have:mC v c.list.l=0:=by rw [he];rfl
   omega
  ·omega
theorem Wif (s:Sl (Co α)):Qlt (fun o=>dpI (vSl v o)) 0 s.l+1=dpI (vSl (vCo v) s):=by
 rw [Qud _ _ (Xc7 _)]
 have h:=Wme (v:=v) s.l
 have e:V.hh (vSl (vCo v) s)=if s.l=[] then 0 else V.hhs (s.l.map (vCo v))+1:=Qmy
 have e0:s.l=[]→mL v s.l=0:=fun he=>by rw [he];rfl
 unfold dpI
 rw [e]
 generalize mL v s.l=m at *
 generalize V.hhs (s.l.map (vCo v))=hh at *
 unfold mxD gD
 by_cases he:s.l=[]
 ·have:=e0 he
  subst this
  rw [if_pos he]
  rfl
 ·rw [if_neg he]
  (repeat' split) <;> omega
end
theorem Qqg:∀(k d:Nat) (s:Sl (Cx k)),d≤1000→Bd d k s→E cx 35 [vSl (vCx k) s] []=some (.int .i64 (dpS s),[])
 |0,d,s,hd,hb=>by
  have e:=sl0 (α:=Cx 0) (fun x=>Empty.elim x) s
  have e1:dpS s=1:=by
   unfold dpS dpI
   rw [Qmy,if_pos e];rfl
  have e2:(s.l.length:Int)=0:=by rw [e];rfl
  have f1:∀k U,fz k U fzD (vSl (vCx 0) s)=some (vSl (vCx 0) s):=fun k U=>Qar (Qaj (Qed 0))
  have u:l_Z38_0 (Mi cx) 0 0 [vSl (vCx 0) s,.int .i64 0,.int .i64 0] []=some (.int .i64 1,[]):=by
   rw [u_Z38_0]
   simp +contextual -implicitDefEqProofs (disch:=try exact X0d) only [↓reduceIte,go_sem,b_Z38_0,Qah,Qaf,e2,f1]
  rw [e1,e_Z38]
  simp +contextual -implicitDefEqProofs (disch:=try exact X0d) only [↓reduceIte,go_sem,s_Z38,f1,u]
 |k+1,d,s,hd,hb=>by
  have ih:=Qqg k (d - 1)
  have e1:Qlt (fun o=>dpI (vSl (vCx k) o)) 0 (show List (Co (Cx k)) from s.l)+1=dpS s:=Wif (v:=vCx k) (show Sl (Co (Cx k)) from s)
  have hh:=Qzk (k+1) d s hb
  have hdp:1≤dpS s∧dpS s≤1002:=by
   unfold dpS dpI
   omega
  have kk:=Wmb (Qed k) (fun o=>dpI (vSl (vCx k) o)) (show Sl (Co (Cx k)) from s) hb.1 (fun c hc=>⟨(hb.2 c hc).1,fun x hx=>((hb.2 c hc).2 x hx).1,fun x hx y hy=>by
   have hB:=((hb.2 c hc).2 x hx).2 y hy
   exact ih y.of X0o hB.2.2.2.2⟩) (fun _=>rfl) (show List (Co (Cx k)) from s.l) [] 0 rfl X0o
  rw [e1] at kk
  have kk':l_Z38_0 (Mi cx) 0 0 [vSl (vCx (k+1)) s,.int .i64 0,.int .i64 0] []=some (.int .i64 (dpS s),[]):=kk
  have f1:∀k' U,fz k' U fzD (vSl (vCx (k+1)) s)=some (vSl (vCx (k+1)) s):=fun k' U=>Qar (Qaj (Qed (k+1)))
  rw [e_Z38]
  clear kk ih
  simp +contextual -implicitDefEqProofs (disch:=try exact X0d) only [↓reduceIte,go_sem,s_Z38,f1,kk']
theorem Qwf {n:Nms} (hn:NmB n) {k d:Nat} (s:Sl (Cx k)) (hd:d≤1000) (hb:Bd d k s) (U:Objs) (hσ:Wf U):
  E cx 11 [vSl (vCx k) s,.agg (Qaa n)] U=some (.int .i64 (chkS n s),U):=by
 refine Qbe Qbb ?_ (by simp only [Qag,Qa0,Qak,Qc4];rfl) rfl U hσ
 have h1:boxV [] (.agg (Qaa n))=some (.ptr 0 0,[.cells (Qaa n)]):=Qau ok_n no_n
 have hw:Wf [.cells (Qaa n)]:=by rw [Qeo];exact Qak
 have h2:eL [.cells (Qaa n)] true 4 (.ptr 0 0)=some (.agg (Qaa n)):=Qbf rfl rfl no_n
 have h3:=Qmx hn _ hw
 have h4:=Qbe Qbb (Qqg k d s hd hb) (by simp only [Qag,Qc4];rfl) rfl _ hw
 have h5:=Qls hn k d s hb true _ hw
 have nL:(vSl (vCx k) s).ng=vSl (vCx k) s:=Qaf
 rw [e_Z37]
 unfold chkS
 generalize Qaa n=N at *
 generalize dpS s=dp at *
 generalize vSl (vCx k) s=L at *
 cases c1:okN n with
 |false=>
  rw [c1] at h3
  simp +contextual -implicitDefEqProofs (disch:=try exact X0d) only [↓reduceIte,go_sem,s_Z37,h1,h2,h3]
 |true=>
  rw [c1] at h3
  by_cases c2:32<dp
  ·simp +contextual -implicitDefEqProofs (disch:=try exact X0d) only [↓reduceIte,go_sem,s_Z37,h1,h2,h3,h4,c2,nL]
  ·cases c3:okC n k true s with
   |false=>
    rw [c3] at h5
    simp +contextual -implicitDefEqProofs (disch:=try exact X0d) only [↓reduceIte,go_sem,s_Z37,h1,h2,h3,h4,h5,c2,nL]
   |true=>
    rw [c3] at h5
    simp +contextual -implicitDefEqProofs (disch:=try exact X0d) only [↓reduceIte,go_sem,s_Z37,h1,h2,h3,h4,h5,c2,nL]
theorem Wig {U:Objs} {l:List Int} {x:Int} {c:Cap} (hl:l.length≤1000000):appV false false 1 8 U (vGx l) (.sl [.int .i64 x] c)=some (vGx (l++[x])):=by
 have h:=Qjc (f:=V.int .i64) (sz:=1) (c:=if l=[] then .fx else .gr 1) (ag:=false) (bytes:=8) (U:=U) (l:=l) (m:=[x]) (c':=c) (fun _=>rfl) (fun _=>rfl) (fun _=>rfl) (by split <;> simp) (by simp) (by unfold Qbj;simp;omega)
 unfold vGx
 rw [if_neg (by simp:¬l++[x]=[])]
 exact h
section
variable {α:Type} {v:α→V} (hv:∀n x,V.rb n (v x)=true) {n:Nms} (hn:NmB n) {r0:Pln→Sl α→List Int×Pln} {w0:Sl α→Nat} {K:Sl α→Prop}
variable (hR:Qer v n r0 w0) (hQ:Qwb v n r0 w0 K) {X:V} (hX:V.rb 0 X=true)
include hv hn hR hQ hX
theorem Qlu (s:Sl (Co α)) (hs:s.l.length≤800000):∀(r q:List (Co α)) (p:Pln) (m:Nat) (is:List Int),s.l=q++r→(∀c∈r,∀x∈c.list.l,∀y∈x.list.l,nsS K y)→Pz p m→m+wL w0 r≤800000→is.length=q.length→
  l_Zq_0 (Mi cx) 1 1 [.ptr 0 0,vSl (vCo v) s,vGx is,.int .i64 q.length] [.cells (mkD n p X)]=
   some (vI0 (is++(Qde r0 n p r).1),[.cells (mkD n (Qde r0 n p r).2 X)])
 |[],q,p,m,is,hq,hK,hp,hm,hi=>by
  have hlen:s.l.length=q.length:=by rw [hq];simp
  show _=some (vI0 (is++[]),[O.cells (mkD n p X)])
  rw [Xbe]
  have e1:¬(q.length:Int)<s.l.length:=by omega
  have hM:V.rbs 1 (mkD n p X)=true:=rbs0 (Qa3 hX)
  have f1:∀k U,fz k U fzD (vGx is)=some (vGx is):=fun k U=>Qar Wfd
  have o1:oK false (vGx is)=some (vI0 is):=Wid
  have r1:V.rb 1 (vI0 is)=true:=Qfi
  rw [u_Zq_0]
  clear hR hQ hK
  generalize mkD n p X=M at *
  generalize vI0 is=I at *
  generalize vGx is=Jww at *
  simp +contextual -implicitDefEqProofs (disch:=try exact X0d) only [↓reduceIte,go_sem,b_Zq_0,e1,f1,o1,Qah,Qaf]
 |c::r,q,p,m,is,hq,hK,hp,hm,hi=>by
  have hlen:s.l.length=q.length+r.length+1:=by rw [hq];simp;omega
  have hm':m+(wR w0 c+wL w0 r)≤800000:=hm
  have hz:Cl0 [.cells (coC v c)]:=Qab (Qc1 hv) Qaq
  obtain ⟨h1,_⟩:=Wh7 hv hn hR hX c hp X0o [.cells (coC v c)] hz
  have h2:=Wl3 hv hn hR hQ hX c hp X0o (hK c (Xaw ..)) [] Qaq
  have h4:=Qlu s hs r (q++[c]) (rowP r0 n p c).2 (m+wR w0 c) (is++[(rowP r0 n p c).1]) (by rw [hq];simp) (fun c hc=>hK c (Xax _ hc)) h1 X0o (by simp;omega)
  rw [show ((q++[c]).length:Int)=q.length+1 by simp] at h4
  have e1:is++(Qde r0 n p (c::r)).1=is++[(rowP r0 n p c).1]++(Qde r0 n (rowP r0 n p c).2 r).1:=by rw [Xa2];rfl
  have e2:(Qde r0 n p (c::r)).2=(Qde r0 n (rowP r0 n p c).2 r).2:=rfl
  rw [e1,e2,←h4,u_Zq_0]
  clear h4 e1 e2 h1
  generalize rowP r0 n p c=y at *
  have e1:(q.length:Int)<s.l.length:=by omega
  have i1:eI 1 (.int .i64 q.length) (vSl (vCo v) s)=some (.eptr (coC v c) 0):=Qax (f:=vCo v) hq rfl rfl
  have i2:∀U,eL U true 1 (.eptr (coC v c) 0)=some (.agg (coC v c)):=fun U=>Qc3 rfl Qj6
  have a1:∀U,appV false false 1 8 U (vGx is) (.sl [.int .i64 y.1] .no)=some (vGx (is++[y.1])):=fun U=>Wig X0o
  have hM:V.rbs 1 (mkD n y.2 X)=true:=rbs0 (Qa3 hX)
  have f1:∀k U is,fz k U fzD (vGx is)=some (vGx is):=fun k U is=>Qar Wfd
  have f2:∀k U,fz k U fzD (vSl (vCo v) s)=some (vSl (vCo v) s):=fun k U=>Qar (Qaj (Qc0 hv))
  clear hR hQ hz hK
  generalize mkD n y.2 X=M' at *
  generalize mkD n p X=M at *
  generalize coC v c=C at *
  generalize is++[y.1]=IS at *
  simp +contextual -implicitDefEqProofs (disch:=try exact X0d) only [↓reduceIte,go_sem,b_Zq_0,e1,i1,i2,h2,a1,f1,f2,Qah,Qaf]
end
def nsD:(k:Nat)→Sl (Cx k)→Prop
 |0,_=>True
 |k+1,s=>∀c∈s.l,∀x∈c.list.l,∀y∈x.list.l,nsS (nsD k) y
theorem Wd2 {α:Type} {v:α→V} (hv:∀n x,V.rb n (v x)=true) {n:Nms} (hn:NmB n) {r0:Pln→Sl α→List Int×Pln} {w0:Sl α→Nat} {K:Sl α→Prop} (hR:Qer v n r0 w0) (hQ:Qwb v n r0 w0 K):
  Qwb (vCo v) n (fun p s=>Qde r0 n p s.l) (fun s=>wL w0 s.l) (fun s=>∀c∈s.l,∀x∈c.list.l,∀y∈x.list.l,nsS K y):=fun p s m X hX hp hm hK=>by
 have hs:=Waf (w0:=w0) s.l
 have hm':m+wL w0 s.l≤800000:=hm
 have h2:=Qlu hv hn hR hQ hX s X0o s.l [] p m [] rfl hK hp hm' rfl
 have h2':l_Zq_0 (Mi cx) 1 1 [.ptr 0 0,vSl (vCo v) s,.sl [] .fx,.int .i64 0] [.cells (mkD n p X)]=some (vI0 (Qde r0 n p s.l).1,[.cells (mkD n (Qde r0 n p s.l).2 X)]):=h2
 have f2:∀k' U,fz k' U fzD (vSl (vCo v) s)=some (vSl (vCo v) s):=fun k' U=>Qar (Qaj (Qc0 hv))
 have b1:Qam false 1 0 .any []=some (.sl [] .fx):=rfl
 have f3:∀k' U,fz k' U fzD (.sl [] .fx)=some (.sl [] .fx):=fun k' U=>Qar rfl
 rw [e_Zq]
 clear hR hQ h2 hK
 simp only
 generalize Qde r0 n p s.l=y at *
 generalize mkD n y.2 X=M' at *
 generalize mkD n p X=M at *
 simp +contextual -implicitDefEqProofs (disch:=try exact X0d) only [↓reduceIte,go_sem,s_Zq,b1,f2,f3,Qaf,h2']
theorem Que {n:Nms} (hn:NmB n):∀k:Nat,Qwb (vCx k) n (rwsN n k) (wN k) (nsD k)
 |0=>fun p s m X hX hp hm hK=>by
  have e:s.l=[]:=sl0 (α:=Cx 0) (fun x=>Empty.elim x) s
  show _=some (vI0 [],[O.cells (mkD n p X)])
  have hM:V.rbs 1 (mkD n p X)=true:=rbs0 (Qa3 hX)
  have e2:(s.l.length:Int)=0:=by rw [e];rfl
  have f2:∀k U,fz k U fzD (vSl (vCx 0) s)=some (vSl (vCx 0) s):=fun k U=>Qar (Qaj (Qed 0))
  have b1:Qam false 1 0 .any []=some (.sl [] .fx):=rfl
  have f3:∀k' U,fz k' U fzD (.sl [] .fx)=some (.sl [] .fx):=fun k' U=>Qar rfl
  rw [e_Zq]
  generalize mkD n p X=M at *
  have u:l_Zq_0 (Mi cx) 1 1 [.ptr 0 0,vSl (vCx 0) s,.sl [] .fx,.int .i64 0] [.cells M]=some (vI0 [],[.cells M]):=by
   rw [u_Zq_0]
   have o1:oK false (.sl [] .fx)=some (vI0 []):=rfl
   have r1:V.rb 1 (vI0 [])=true:=rfl
   generalize vI0 []=I at *
   simp +contextual -implicitDefEqProofs (disch:=try exact X0d) only [↓reduceIte,go_sem,b_Zq_0,Qah,Qaf,e2,f3,o1]
  simp +contextual -implicitDefEqProofs (disch:=try exact X0d) only [↓reduceIte,go_sem,s_Zq,b1,f2,f3,Qaf,u]
 |k+1=>Wd2 (Qed k) hn (Qji hn k) (Que hn k)
def plD (p:Pln) (L:List (List Int)):List V:=[vSl vAtm (slo p.atoms),vSl vRw (slo p.rows),vSl vCt0 (slo p.ctrs),vSl vI0 (slo L),.int .i64 p.steps]
theorem Qcg {k:Nat} {p:Pln} {L:List (List Int)} : V.rbs k (plD p L)=true:=by
 simp only [plD,Qag,Qdh,Qby,Qaj (fun n x=>Qll (n:=n) (a:=x)),Qaj (fun n x=>Qv7 (n:=n) (r:=x)),Qaj (fun n x=>Wfb (n:=n) (c:=x)),Qaj (fun n x=>Qfi (n:=n) (l:=x)),Xau]
theorem Qmz {p:Pln} {L:List (List Int)} : Qan (plD p L)=true:=by simp only [plD,Qcb,Qdm,Qc9,Qc2,Xau]
theorem Qj2 {p:Pln} {L:List (List Int)} : (plD p L).map V.ng=plD p L:=by simp only [plD,Xak,Xa8,Ql2,Qaf]
def Was:Sum (Pln×List (List Int)) Nat→V
 | .inl y=>.tup [.agg (plD y.1 y.2),.int .i64 (-1)]
 | .inr i=>.tup [.agg plZ,.int .i64 i]
theorem Wd3 {k:Nat} {x:Sum (Pln×List (List Int)) Nat} : V.rb k (Was x)=true:=by
 cases x with
 |inl y=>show V.rbs k [.agg (plD y.1 y.2),.int .i64 (-1)]=true;simp only [Qag,Qa0,Qcg];rfl
 |inr i=>rfl
section
variable {n:Nms} (hn:NmB n) {k:Nat}
include hn
theorem Qqh (LL:Sl (Sl (Cx k))) (hLL:LL.l.length≤4) (hB:∀s∈LL.l,Bd 41 k s) (hK:∀s∈LL.l,chkS n s=0→nsD k s):∀(r q:List (Sl (Cx k))) (p:Pln) (m:Nat) (L:List (List Int)),LL.l=q++r→Pz p m→m+wA r≤800000→L.length=q.length→
  l_Z3v_0 (Mi cx) 0 3 [vSl (vSl (vCx k)) LL,.ptr 0 0,.ptr 1 0,.ptr 2 0,.int .i64 q.length] [.cells (Qaa n),.cells plZ,.cells (mkD n p (vG vI0 1 L))]=some (Was (Qfs n p L q.length r),[])
 |[],q,p,m,L,hq,hp,hm,hL=>by
  have hlen:LL.l.length=q.length:=by rw [hq];simp
  have e1:¬(q.length:Int)<LL.l.length:=by omega
  show _=some (V.tup [V.agg (plD p L),.int .i64 (-1)],[])
  have cl3:Cl0 [.cells (Qaa n),.cells plZ,.cells (mkD n p (vG vI0 1 L))]:=Qab Qak (Qab rfl (Qab (Qa3 (Qdv fun x=>Qfi)) Qaq))
  have c3:cuO 3 [.cells (Qaa n),.cells plZ,.cells (mkD n p (vG vI0 1 L))]=some [.cells (Qaa n),.cells plZ,.cells (mkD n p (vG vI0 1 L))]:=Qcz (Qa9 cl3)
  have l1:eL [.cells (Qaa n),.cells plZ,.cells (mkD n p (vG vI0 1 L))] true 5 (.ptr 2 4)=some (.agg (plD p L)):=by
   show some (V.agg [(vG vAtm 7 p.atoms).ng,(vG vRw 3 p.rows).ng,(vG vCt0 3 p.ctrs).ng,(vG vI0 1 L).ng,(V.int .i64 p.steps).ng])=_
   rw [n_vG,n_vG,n_vG,n_vG];rfl
  have s1:stV [.cells (Qaa n),.cells plZ,.cells (mkD n p (vG vI0 1 L))] 5 (.ptr 1 0) (.agg (plD p L)) (.agg (plD p L))=some (.undef,[.cells (Qaa n),.cells (plD p L),.cells (mkD n p (vG vI0 1 L))]):=Qc7 rfl rfl rfl Qmz Qj2
  have r1:∀(O1 O3:O),resC [O1,.cells (plD p L),O3] true 5 (.ptr 1 0)=some (.agg (plD p L)):=fun O1 O3=>by
   rw [Qrx]
   show Ev.part true 5 (plD p L) 0=_
   exact Qlm rfl Qj2
  have e0:V.rb 0 (.tup [.agg (plD p L),.int .i64 (-1)])=true:=by
   show V.rbs 0 [.agg (plD p L),.int .i64 (-1)]=true
   simp only [Qag,Qa0,Qcg];rfl
  rw [u_Z3v_0]
  generalize plD p L=P at *
  generalize mkD n p (vG vI0 1 L)=M at *
  generalize Qaa n=N at *
  simp +contextual -implicitDefEqProofs (disch:=try exact X0d) only [↓reduceIte,go_sem,b_Z3v_0,e1,c3,l1,s1,r1,Qah,Qaf]
 |s::r,q,p,m,L,hq,hp,hm,hL=>by
  have hlen:LL.l.length=q.length+r.length+1:=by rw [hq];simp;omega
  have hm':m+(wN k s+wA r)≤800000:=hm
  have e1:(q.length:Int)<LL.l.length:=by omega
  have hsm:s∈LL.l:=by rw [hq];simp
  have i1:eI 1 (.int .i64 q.length) (vSl (vSl (vCx k)) LL)=some (.eptr [vSl (vCx k) s] 0):=by
   have:=Qax (f:=vSl (vCx k)) (sz:=1) (k:=.i64) hq rfl (by rw [Qbw];rfl)
   rw [Qbw] at this
   exact this
  have i2:∀U,eL U false 1 (.eptr [vSl (vCx k) s] 0)=some (vSl (vCx k) s):=fun U=>by
   show Option.map V.ng (some (vSl (vCx k) s))=_
   rw [Qal,Qaf]
  have l0:∀H:Objs,eL (.cells (Qaa n)::H) true 4 (.ptr 0 0)=some (.agg (Qaa n)):=fun H=>Qbf rfl rfl no_n
  have cl3:∀p X,V.rb 0 X=true→Cl0 [.cells (Qaa n),.cells plZ,.cells (mkD n p X)]:=fun p X hX=>Qab Qak (Qab rfl (Qab (Qa3 hX) Qaq))
  have rbL:∀L:List (List Int),V.rb 0 (vG vI0 1 L)=true:=fun L=>Qdv fun x=>Qfi
  have w3:=Qa9 (cl3 p _ (rbL L))
  have k1:=Qwf hn s (d:=41) X0o (hB s hsm) _ w3
  have c3:∀p L,cuO 3 [.cells (Qaa n),.cells plZ,.cells (mkD n p (vG vI0 1 L))]=some [.cells (Qaa n),.cells plZ,.cells (mkD n p (vG vI0 1 L))]:=fun p L=>Qcz (Qa9 (cl3 p _ (rbL L)))
  have c3p:=c3 p L
  have f2:∀k' U,fz k' U fzD (vSl (vSl (vCx k)) LL)=some (vSl (vSl (vCx k)) LL):=fun k' U=>Qar (Qaj fun _ _=>Qc4)
  rw [u_Z3v_0]
  unfold Qfs
  by_cases c1:chkS n s=0
  ·rw [if_pos c1]
   rw [c1] at k1
   obtain ⟨_,q1,q2⟩:=Qji hn k p s m .nils rfl hp X0o
   have q0:=Que hn k p s m (vG vI0 1 L) (rbL L) hp X0o (hK s hsm c1)
   have ih:=Qqh LL hLL hB hK r (q++[s]) (rwsN n k p s).2 (m+wN k s) (L++[(rwsN n k p s).1]) (by rw [hq];simp) q1 X0o (by simp;omega)
   rw [show ((q++[s]).length:Int)=q.length+1 by simp,show (q++[s]).length=q.length+1 by simp] at ih
   have k2:E cx 41 [.ptr 2 0,vSl (vCx k) s] [.cells (Qaa n),.cells plZ,.cells (mkD n p (vG vI0 1 L))]=some (vI0 (rwsN n k p s).1,[.cells (Qaa n),.cells plZ,.cells (mkD n (rwsN n k p s).2 (vG vI0 1 L))]):=
    E_at q0 (by simp only [Qag,Qc4];rfl) (Qa3 (rbL L)) (Qa3 (rbL L)) Qfi [.cells (Qaa n),.cells plZ] (Qab Qak (Qab rfl Qaq))
   generalize rwsN n k p s=y at *
   have ld:Qbt [.cells (Qaa n),.cells plZ,.cells (mkD n y.2 (vG vI0 1 L))] (.ptr 2 7)=some (vG vI0 1 L,[.cells (Qaa n),.cells plZ,.cells (mkD n y.2 (vSl vI0 (slo L)))]):=Qfr (B:=[_,_]) (cs:=mkD n y.2 (vG vI0 1 L)) rfl rfl
   have a1:∀U,appV false false 1 24 U (vG vI0 1 L) (.sl [vI0 y.1] .no)=some (vG vI0 1 (L++[y.1])):=fun U=>by
    refine Qfh (f:=vI0) (fun _=>rfl) (fun x=>rfl) (fun _=>rfl) ?_
    unfold Qbj
    omega
   have b1:Qam false 1 1 .nils [(0,vI0 y.1)]=some (.sl [vI0 y.1] .fx):=rfl
   have s1:stV [.cells (Qaa n),.cells plZ,.cells (mkD n y.2 (vSl vI0 (slo L)))] 1 (.ptr 2 7) (vSl vI0 (slo (L++[y.1]))) (vG vI0 1 (L++[y.1]))=some (.undef,[.cells (Qaa n),.cells plZ,.cells (mkD n y.2 (vG vI0 1 (L++[y.1])))]):=Qrz (B:=[_,_]) (cs:=mkD n y.2 (vSl vI0 (slo L))) rfl (show 7<9 by decide)
   have c3q:=c3 y.2 (L++[y.1])
   have nI:(vI0 y.1).ng=vI0 y.1:=Qaf
   clear c3 cl3 rbL hK q0
   generalize Qfs n y.2 (L++[y.1]) (q.length+1) r=RES at *
   generalize mkD n y.2 (vG vI0 1 (L++[y.1]))=M5 at *
   generalize mkD n y.2 (vSl vI0 (slo L))=M4 at *
   generalize mkD n y.2 (vG vI0 1 L)=M2 at *
   generalize mkD n p (vG vI0 1 L)=M at *
   generalize Qaa n=N at *
   generalize vI0 y.1=I at *
   generalize L++[y.1]=L' at *
   generalize plZ=Zww at *
   simp +contextual -implicitDefEqProofs (disch:=try exact X0d) only [↓reduceIte,go_sem,b_Z3v_0,e1,i1,i2,l0,k1,k2,ld,a1,b1,s1,c3q,f2,nI,Qah,Qaf,n_vG,ih]
  ·rw [if_neg c1]
   show _=some (V.tup [.agg plZ,.int .i64 q.length],[])
   have s1:stV [.cells (Qaa n),.cells plZ,.cells (mkD n p (vG vI0 1 L))] 5 (.ptr 1 0) (.agg plZ) (.agg plZ)=some (.undef,[.cells (Qaa n),.cells plZ,.cells (mkD n p (vG vI0 1 L))]):=rfl
   have b1:Qaw [.nils,.nils,.nils,.nils,.int .i64 0] []=some (.agg plZ):=rfl
   have r1:∀(O1 O3:O),resC [O1,.cells plZ,O3] true 5 (.ptr 1 0)=some (.agg plZ):=fun O1 O3=>rfl
   have e0:V.rb 0 (.tup [.agg plZ,.int .i64 q.length])=true:=rfl
   clear c3 cl3 rbL hK
   generalize chkS n s=ck at *
   generalize mkD n p (vG vI0 1 L)=M at *
   generalize Qaa n=N at *
   generalize plZ=Zww at *
   simp +contextual -implicitDefEqProofs (disch:=try exact X0d) only [↓reduceIte,go_sem,b_Z3v_0,e1,i1,i2,l0,k1,c1,b1,s1,r1,c3p,f2,Qah,Qaf]
theorem Wih (LL:Sl (Sl (Cx k))) (hLL:LL.l.length≤4) (hB:∀s∈LL.l,Bd 41 k s) (hK:∀s∈LL.l,chkS n s=0→nsD k s) (hw:wA LL.l≤800000) (U:Objs) (hσ:Wf U):E cx 17 [vSl (vSl (vCx k)) LL,.agg (Qaa n)] U=some (Was (Qfs n p0 [] 0 LL.l),U):=by
 have hargs:V.rbs 0 [vSl (vSl (vCx k)) LL,.agg (Qaa n)]=true:=by simp only [Qag,Qa0,Qak,Qaj (fun _ _=>Qc4 (k:=k))];rfl
 refine Qbe Qbb ?_ hargs Wd3 U hσ
 have h1:boxV [] (.agg (Qaa n))=some (.ptr 0 0,[.cells (Qaa n)]):=Qau ok_n no_n
 have l0:∀H:Objs,eL (.cells (Qaa n)::H) true 4 (.ptr 0 0)=some (.agg (Qaa n)):=fun H=>Qbf rfl rfl no_n
 have lp:=Qqh hn LL hLL hB hK LL.l [] p0 0 [] rfl ⟨Xai _,Xai _,Xai _,Xc7 _,Xc7 _⟩ X0o rfl
 have lp':l_Z3v_0 (Mi cx) 0 3 [vSl (vSl (vCx k)) LL,.ptr 0 0,.ptr 1 0,.ptr 2 0,.int .i64 0] [.cells (Qaa n),.cells [.nils,.nils,.nils,.nils,.int .i64 0],.cells (mkD n p0 .nils)]=some (Was (Qfs n p0 [] 0 LL.l),[]):=lp
 clear lp
 have b1:Qaw [.bool false,.str [],.nils,.nils,.nils,.nils,.nils,.nils,.int .i64 0] [(0,4,.agg (Qaa n))]=some (.agg (mkD n p0 .nils)):=by
  rw [Qke,Qkf (by rfl) (by decide) (by rw [Qbv];exact ok_n),Qnk,Qbv,no_n]
  rfl
 have o1:Qan (mkD n p0 .nils)=true:=by
  show Qan [.bool n.has,.str n.dflt,Qbx n.pres,Qbx n.spaces,.nils,.nils,.nils,.nils,.int .i64 0]=true
  simp only [Qcb,Qdm,Qc9,Qgz,Qgf,Qc2,Xau];rfl
 have n1:(mkD n p0 .nils).map V.ng=mkD n p0 .nils:=by
  show List.map V.ng [.bool n.has,.str n.dflt,Qbx n.pres,Qbx n.spaces,.nils,.nils,.nils,.nils,.int .i64 0]=[.bool n.has,.str n.dflt,Qbx n.pres,Qbx n.spaces,.nils,.nils,.nils,.nils,.int .i64 0]
  simp only [Xak,Xa8,Ql2,Qva,Qo7,Qaf];rfl
 have h2:boxV [.cells (Qaa n),.cells [.nils,.nils,.nils,.nils,.int .i64 0]] (.agg (mkD n p0 .nils))=some (.ptr 2 0,[.cells (Qaa n),.cells [.nils,.nils,.nils,.nils,.int .i64 0],.cells (mkD n p0 .nils)]):=Qau o1 n1
 have f2:∀k' U,fz k' U fzD (vSl (vSl (vCx k)) LL)=some (vSl (vSl (vCx k)) LL):=fun k' U=>Qar (Qaj fun _ _=>Qc4)
 rw [e_Z3v]
 generalize Was (Qfs n p0 [] 0 LL.l)=RES at *
 generalize mkD n p0 .nils=M at *
 generalize Qaa n=N at *
 simp +contextual -implicitDefEqProofs (disch:=try exact X0d) only [↓reduceIte,go_sem,s_Z3v,h1,l0,b1,h2,f2,Qaf,lp']
end
section
variable {α:Type}
end
section
variable {α:Type} {v:α→V} (hv:∀n x,V.rb n (v x)=true) (fr fs:Sl α→Nat)
include hv
end
def RI (A:Nat) (C:List Ctr):Nat→Int→List Rw→Prop
 |i,n,[]=>True
 |i,n,r::rs=>r.first=n∧¬r.steps=[]∧r.steps.length≤800000∧(∀s∈r.steps,s.ts.length≤800000∧∀t∈s.ts,OkD A C i 8 t)∧RI A C (i+1) (n+r.steps.length) rs
def totR:List Rw→Int
 |[]=>0
 |r::rs=>r.steps.length+totR rs
section
variable {p:Pln} {L:List (List Int)} {n:Nms} {Zww:V} (hZ:V.rb 0 Zww=true) (hZn:Zww.ng=Zww)
include hZ hZn
end
theorem Wmf {α:Type} {w0 t0:Sl α→Nat} (h:∀s,w0 s≤4 * t0 s):∀l:List (Sm α),wX w0 l≤4 * tX t0 l
 |[]=>Xa1 _
 |y::r=>by
  have:=Wmf h r
  have:=h y.of
  show 4+w0 y.of+wX w0 r≤4 * (1+t0 y.of+tX t0 r)
  omega
theorem Wmg {α:Type} {w0 t0:Sl α→Nat} (h:∀s,w0 s≤4 * t0 s):∀l:List (Cp α),wC w0 l≤l.length+4 * tC t0 l
 |[]=>Xa1 _
 |x::r=>by
  have:=Wmg h r
  have:=Wmf h x.list.l
  show 1+wX w0 x.list.l+wC w0 r≤(r.length+1)+4 * (tX t0 x.list.l+tC t0 r)
  omega
theorem Wmh {α:Type} {w0 t0:Sl α→Nat} (h:∀s,w0 s≤4 * t0 s):∀l:List (Co α),wL w0 l≤l.length+4 * tS t0 l
 |[]=>Xa1 _
 |c::r=>by
  have:=Wmh h r
  have:=Wmg h c.list.l
  show 1+wC w0 c.list.l+wL w0 r≤(r.length+1)+4 * (c.list.l.length+tC t0 c.list.l+tS t0 r)
  omega
theorem Wmi:∀(k:Nat) (s:Sl (Cx k)),wN k s≤4 * tot k s
 |0,s=>Xai _
 |k+1,s=>by
  have h:=Wmh (Wmi k) (show List (Co (Cx k)) from s.l)
  have e1:wN (k+1) s=wL (wN k) (show List (Co (Cx k)) from s.l):=rfl
  have e2:tot (k+1) s=(show List (Co (Cx k)) from s.l).length+tS (tot k) (show List (Co (Cx k)) from s.l):=rfl
  omega
def Ex (p q:Pln):Prop:=p.atoms.length≤q.atoms.length∧(∃t,q.ctrs=p.ctrs++t)∧p.rows.length≤q.rows.length
theorem Ex.tr {p q r:Pln} (h:Ex p q) (h':Ex q r):Ex p r:=by
 obtain ⟨a1,⟨t,a2⟩,a3⟩:=h
 obtain ⟨b1,⟨u,b2⟩,b3⟩:=h'
 exact ⟨by omega,⟨t++u,by rw [b2,a2,Xa2]⟩,by omega⟩
theorem OkK.mono {A A':Nat} {C C':List Ctr} {row row' k i:Int} {len:Nat} (hA:A≤A') (hC:∃t,C'=C++t) (hr:row≤row') (h:OkK A C row k i len):OkK A' C' row' k i len:=by
 obtain ⟨h1,h2⟩:=h
 refine ⟨h1,?_⟩
 rcases h2 with ⟨a,b,c⟩|⟨a,b,c⟩|h|⟨a,b,c,d,e,f⟩|h|h|h
 ·exact .inl ⟨a,b,by omega⟩
 ·exact .inr (.inl ⟨a,b,by omega⟩)
 ·exact .inr (.inr (.inl h))
 ·refine .inr (.inr (.inr (.inl ⟨a,b,c,?_,e,fun r hr'=>⟨(f r hr').1,by have:=(f r hr').2;omega⟩⟩)))
  obtain ⟨t,rfl⟩:=hC
  obtain ⟨hl,_⟩:=Xaf.1 d
  rw [Xaz hl];exact d
 ·exact .inr (.inr (.inr (.inr (.inl h))))
 ·exact .inr (.inr (.inr (.inr (.inr (.inl h)))))
 ·exact .inr (.inr (.inr (.inr (.inr (.inr h)))))
theorem OkD.mono {A A':Nat} {C C':List Ctr} {row row':Int} (hA:A≤A') (hC:∃t,C'=C++t) (hr:row≤row'):∀(d:Nat) (t:Trm),OkD A C row d t→OkD A' C' row' d t
 |0,_,h=>h.elim
 |d+1,.mk k i ts,h=>⟨h.1.mono hA hC hr,fun t ht=>OkD.mono hA hC hr d t (h.2 t ht)⟩
theorem RI.mono {A A':Nat} {C C':List Ctr} (hA:A≤A') (hC:∃t,C'=C++t):∀(l:List Rw) (i:Nat) (n:Int),RI A C i n l→RI A' C' i n l
 |[],i,n,_=>trivial
 |r::rs,i,n,⟨h1,h2,h3,h4,h5⟩=>⟨h1,h2,h3,fun s hs=>⟨(h4 s hs).1,fun t ht=>OkD.mono hA hC (Xc7 _) 8 t ((h4 s hs).2 t ht)⟩,RI.mono hA hC rs _ _ h5⟩
theorem RI.app {A:Nat} {C:List Ctr} {r:Rw} (h2:¬r.steps=[]) (h3:r.steps.length≤800000):∀(l:List Rw) (i:Nat) (n:Int),RI A C i n l→r.first=n+totR l→(∀s∈r.steps,s.ts.length≤800000∧∀t∈s.ts,OkD A C ((i+l.length:Nat):Int) 8 t)→RI A C i n (l++[r])
 |[],i,n,_,hf,ho=>⟨by rw [hf];show n+0=n;omega,h2,h3,ho,trivial⟩
 |x::l,i,n,⟨a1,a2,a3,a4,a5⟩,hf,ho=>by
  refine ⟨a1,a2,a3,a4,RI.app h2 h3 l (i+1) (n+x.steps.length) a5 ?_ ?_⟩
  ·rw [hf]
   show n+((x.steps.length:Int)+totR l)=_
   omega
  ·intro s hs
   have:=ho s hs
   rw [show i+(x::l).length=i+1+l.length by simp;omega] at this
   exact this
def Iv (p:Pln):Prop:=(∀a∈p.atoms,AtOk a)∧p.atoms.Nodup∧RI p.atoms.length p.ctrs 0 0 p.rows∧p.steps=totR p.rows
def TOk (p:Pln) (t:Trm):Prop:=OkD p.atoms.length p.ctrs p.rows.length 8 t
theorem TOk.mono {p q:Pln} {t:Trm} (h:TOk p t) (e:Ex p q):TOk q t:=OkD.mono e.1 e.2.1 (by have:=e.2.2;omega) 8 t h
def TA (p:Pln) (t:Trm):Prop:=∀d,OkD p.atoms.length p.ctrs p.rows.length (d+1) t
theorem TA.mono {p q:Pln} {t:Trm} (h:TA p t) (e:Ex p q):TA q t:=fun d=>OkD.mono e.1 e.2.1 (by have:=e.2.2;omega) (d+1) t (h d)
section
variable {n:Nms} (hn:NmB n) (hok:okN n=true)
include hn hok
omit hn hok in
end
section
variable {α:Type} {n:Nms} {s:Sm α} {b:Bool}
theorem Wmj (h:s.kind=7) (hs:Qek n b s=true):b=true∨s.of.l=[]:=by
 unfold Qek at hs
 rw [if_neg X0o,if_neg X0o,if_neg X0o,if_neg X0o,if_neg X0o,if_neg X0o,if_neg X0o,if_pos h] at hs
 simp only [Xac,Xcm,decide_eq_true_eq] at hs
 rcases hs.1.2 with h|h
 ·exact .inr (Xap.1 X0o)
 ·exact .inl h
theorem Wff (h:s.kind=8∨s.kind=9∨s.kind=10) (hs:Qek n b s=true):b=true:=by
 unfold Qek at hs
 rw [if_neg X0o,if_neg X0o,if_neg X0o,if_neg X0o,if_neg X0o,if_neg X0o,if_neg X0o,if_neg X0o,if_pos h,Xac] at hs
 exact hs.1
end
section
variable {α:Type} {v:α→V} {n:Nms} (hn:NmB n) (hok:okN n=true) {r0:Pln→Sl α→List Int×Pln} {w0:Sl α→Nat} {okl:Sl α→Bool} {bq:Sl α→Prop}
def Wii (r0:Pln→Sl α→List Int×Pln) (w0:Sl α→Nat) (okl:Sl α→Bool) (bq:Sl α→Prop):Prop:=∀(p:Pln) (s:Sl α) (m:Nat),Iv p→Pz p m→m+w0 s≤800000→bq s→(okl s=true∨s.l=[])→
 Iv (r0 p s).2∧Ex p (r0 p s).2∧∀x∈(r0 p s).1,0≤x∧x<(r0 p s).2.rows.length
variable (hR:Qer v n r0 w0) (hW:Wii r0 w0 okl bq)
include hn hok hR hW
end
section
variable {α:Type} {n:Nms} {okl:Sl α→Bool}
theorem Wat {pseudo:Bool} {len:Nat} : ∀(r:List (Sm α)) (i:Nat),cmpR n okl pseudo len i r=true→∀s∈r,Qek n (okl s.of) s=true
 |[],i,h,s,hs=>by cases hs
 |y::r,i,h,s,hs=>by
  unfold cmpR at h
  split at h
  ·cases h
  split at h
  ·cases h
  split at h
  ·cases h
  rename_i c1 _ _
  rcases Xay.1 hs with rfl|hs
  ·cases hh:Qek n (okl s.of) s with
   |true=>rfl
   |false=>exact absurd hh c1
  ·exact Wat r (i+1) h s hs
theorem Wau {outer:Bool} {len:Nat} : ∀(r:List (Cp α)) (i:Nat),innR n okl outer len i r=true→∀x∈r,∀s∈x.list.l,Qek n (okl s.of) s=true
 |[],i,h,x,hx=>by cases hx
 |y::r,i,h,x,hx=>by
  unfold innR at h
  split at h
  ·cases h
  split at h
  ·cases h
  split at h
  ·cases h
  rename_i _ _ c1
  rcases Xay.1 hx with rfl|hx
  ·unfold Qoc at c1
   cases hh:cmpR n okl (outer&&decide ((i:Int)=len - 1)) x.list.l.length 0 x.list.l with
   |true=>exact Wat _ _ hh
   |false=>exact absurd hh c1
  ·exact Wau r (i+1) h x hx
theorem Wav {outer:Bool} {tot:Nat} : ∀(r:List (Co α)),lstR n okl outer tot r=true→∀c∈r,¬c.list.l=[]∧∀x∈c.list.l,∀s∈x.list.l,Qek n (okl s.of) s=true
 |[],h,x,hx=>by cases hx
 |y::r,h,x,hx=>by
  unfold lstR at h
  split at h
  ·cases h
  rename_i c0
  split at h
  ·rename_i c1
   rcases Xay.1 hx with rfl|hx
   ·exact ⟨fun e=>c0 (by rw [e];rfl),Wau _ _ c1⟩
   ·exact Wav r h x hx
  ·cases h
end
section
variable {n:Nms} (hn:NmB n) (hok:okN n=true)
include hn hok
end
section
variable {α:Type} {f t0:Sl α→Nat} (h:∀s,f s≤t0 s)
include h
end
section
variable {α:Type} (t0:Sl α→Nat)
end
def Mo (p q:Pln) (a b:Nat):Prop:=q.rows.length=p.rows.length+a∧q.steps=p.steps+b
theorem Mo.z {p:Pln} : Mo p p 0 0:=⟨rfl,by omega⟩
theorem Mo.tr {p q r:Pln} {a b c d:Nat} (h:Mo p q a b) (h':Mo q r c d):Mo p r (a+c) (b+d):=by
 obtain ⟨h1,h2⟩:=h
 obtain ⟨h3,h4⟩:=h'
 exact ⟨by omega,by omega⟩
theorem Mo.atom {p:Pln} {a:Atm} : Mo p (Qa1 p a).2 0 0:=by
 unfold Qa1
 split
 ·exact Mo.z
 ·exact ⟨rfl,by show p.steps=p.steps+_;omega⟩
theorem Mo.element {n:Nms} {p:Pln} {ns:Int} {pre name:List UInt8} : Mo p (Qa7 n p ns pre name).2 0 0:=by
 unfold Qa7
 split
 ·exact Mo.z
 ·exact Mo.atom
theorem Mo.link {n:Nms} {p:Pln} : Mo p (Ql7 n p).2 0 0:=
 ((Mo.element (n:=n) (p:=p) (ns:=0) (pre:=[]) (name:=[97])).tr (Mo.element (n:=n) (ns:=0) (pre:=[]) (name:=[97,114,101,97]))).tr (Mo.atom (a:=atA [104,114,101,102] 1 []))
section
variable {α:Type} {n:Nms} {s:Sm α} {b:Bool}
theorem Qh2 {s:Sm α} (h:Qcr s=true):s.of.l=[]:=by
 unfold Qcr at h
 simp only [Xac,decide_eq_true_eq] at h
 exact Xap.1 X0o
theorem Wij (h7:¬s.kind=7) (h8:¬(s.kind=8∨s.kind=9)) (h10:¬s.kind=10) (hs:Qek n b s=true):s.of.l=[]:=by
 unfold Qek at hs
 by_cases c:s.kind=1
 ·rw [if_pos c] at hs
  simp only [Xac] at hs;exact Qh2 (s:=rOne s) hs.2
 rw [if_neg c] at hs
 clear c
 by_cases c:s.kind=2
 ·rw [if_pos c] at hs
  simp only [Xac] at hs;exact Qh2 (s:=Qef s) hs.2
 rw [if_neg c] at hs
 clear c
 by_cases c:s.kind=3∨s.kind=4
 ·rw [if_pos c] at hs
  simp only [Xac] at hs;exact Qh2 (s:=Qfe s) hs.2
 rw [if_neg c] at hs
 clear c
 by_cases c:s.kind=11
 ·rw [if_pos c] at hs
  simp only [Xac] at hs;exact Qh2 (s:=Qfe s) hs.2
 rw [if_neg c] at hs
 clear c
 by_cases c:s.kind=13
 ·rw [if_pos c] at hs
  simp only [Xac] at hs;exact Qh2 (s:=Qfe s) hs.2
 rw [if_neg c] at hs
 clear c
 by_cases c:s.kind=5
 ·rw [if_pos c] at hs
  simp only [Xac] at hs;exact Qh2 (s:=rTwo s) hs.2
 rw [if_neg c] at hs
 clear c
 by_cases c:s.kind=6∨s.kind=12
 ·rw [if_pos c] at hs
  exact Qh2 hs
 rw [if_neg c,if_neg h7,if_neg X0o] at hs
 cases hs
end
section
variable {α:Type} {n:Nms} {r0:Pln→Sl α→List Int×Pln} {fr fs:Sl α→Nat} {okl:Sl α→Bool}
def CntL (r0:Pln→Sl α→List Int×Pln) (fr fs:Sl α→Nat) (okl:Sl α→Bool):Prop:=(∀s,s.l=[]→fr s=0∧fs s=0)∧∀p s,(okl s=true∨s.l=[])→Mo p (r0 p s).2 (fr s) (fs s)
variable (hC:CntL r0 fr fs okl)
include hC
end
section
variable {α:Type} {n:Nms} {s:Sm α} {b:Bool}
theorem Wik {s:Sm α} (h:Qcr s=true):s.ns=0:=by
 unfold Qcr at h
 simp only [Xac,decide_eq_true_eq] at h
 exact h.1.1.1.1.1.1
theorem Qoj (h:Qff n s=true):0≤s.ns∧s.ns≤3:=by
 unfold Qff at h
 split at h
 ·omega
 ·simp only [Xac,decide_eq_true_eq] at h
  omega
theorem Wil (hs:Qek n b s=true):0≤s.ns∧s.ns≤3:=by
 have z:∀ {t:Sm α},Qcr t=true→t.ns=s.ns→0≤s.ns∧s.ns≤3:=fun h e=>by
  have:=Wik h
  omega
 unfold Qek at hs
 by_cases c:s.kind=1
 ·rw [if_pos c] at hs
  simp only [Xac] at hs;exact Qoj hs.1.1
 rw [if_neg c] at hs
 clear c
 by_cases c:s.kind=2
 ·rw [if_pos c] at hs
  simp only [Xac] at hs;exact Qoj hs.1
 rw [if_neg c] at hs
 clear c
 by_cases c:s.kind=3∨s.kind=4
 ·rw [if_pos c] at hs
  simp only [Xac] at hs;exact z hs.2 rfl
 rw [if_neg c] at hs
 clear c
 by_cases c:s.kind=11
 ·rw [if_pos c] at hs
  simp only [Xac] at hs;exact z hs.2 rfl
 rw [if_neg c] at hs
 clear c
 by_cases c:s.kind=13
 ·rw [if_pos c] at hs
  simp only [Xac] at hs;exact z hs.2 rfl
 rw [if_neg c] at hs
 clear c
 by_cases c:s.kind=5
 ·rw [if_pos c] at hs
  simp only [Xac] at hs;exact Qoj hs.1.1.1
 rw [if_neg c] at hs
 clear c
 by_cases c:s.kind=6∨s.kind=12
 ·rw [if_pos c] at hs
  exact z hs rfl
 rw [if_neg c] at hs
 clear c
 by_cases c:s.kind=7
 ·rw [if_pos c] at hs
  simp only [Xac] at hs;exact z hs.2 rfl
 rw [if_neg c] at hs
 clear c
 by_cases c:s.kind=8∨s.kind=9∨s.kind=10
 ·rw [if_pos c] at hs
  simp only [Xac] at hs;exact z hs.2 rfl
 rw [if_neg c] at hs
 cases hs
theorem Wim (h7:s.kind=7) (hs:Qek n b s=true):nthS s.a s.b=true:=by
 unfold Qek at hs
 rw [if_neg X0o,if_neg X0o,if_neg X0o,if_neg X0o,if_neg X0o,if_neg X0o,if_neg X0o,if_pos h7] at hs
 simp only [Xac] at hs
 exact hs.1.1
end
theorem Waw:∀(k:Nat) (s:Sl (Cx k)),s.l=[]→nsD k s
 |0,_,_=>trivial
 |k+1,s,h=>fun c hc=>by
  rw [h] at hc
  cases hc
theorem Quf {n:Nms} : ∀(k:Nat) (o:Bool) (s:Sl (Cx k)),okC n k o s=true→nsD k s
 |0,o,s,h=>by cases h
 |k+1,o,s,h=>fun c hc x hx y hy=>by
  have hs:=(Wav _ h c hc).2 x hx y hy
  refine ⟨Wil hs,fun h7=>Wim h7 hs,?_⟩
  by_cases c7:y.kind=7
  ·rcases Wmj c7 hs with h|h
   ·exact Quf k false y.of h
   ·exact Waw k y.of h
  by_cases c8:y.kind=8∨y.kind=9
  ·exact Quf k false y.of (Wff X0o hs)
  by_cases c10:y.kind=10
  ·exact Quf k false y.of (Wff (.inr (.inr c10)) hs)
  exact Waw k y.of (Wij c7 c8 c10 hs)
theorem Wax {n:Nms} {k:Nat} {s:Sl (Cx k)} (h:chkS n s=0):nsD k s:=by
 unfold chkS at h
 split at h
 ·omega
 ·split at h
  ·omega
  ·cases c3:okC n k true s with
   |true=>exact Quf k true s c3
   |false=>rw [c3,if_pos rfl] at h;omega
inductive TB:Trm→Prop
 |mk {k i:Int} {ts:List Trm} : ts.length≤800000→(∀t∈ts,TB t)→TB (.mk k i ts)
theorem TB.leaf {k i:Int} : TB (.mk k i []):=.mk (Xa1 _) fun t h=>by cases h
theorem TB.not {t:Trm} (h:TB t):TB (notT t):=.mk (by simp) fun u hu=>by rw [Xbr.1 hu];exact h
def Gd (p:Pln):Prop:=(∀c∈p.ctrs,nthS c.a c.b=true∧c.rows.length≤800000)∧∀r∈p.rows,r.steps.length≤800000∧∀s∈r.steps,s.ts.length≤800000∧∀t∈s.ts,TB t
def St (p q:Pln):Prop:=(Gd p→Gd q)∧p.rows.length≤q.rows.length
theorem St.z {p:Pln} : St p p:=⟨id,Xai _⟩
theorem St.tr {p q r:Pln} (h:St p q) (h':St q r):St p r:=⟨fun x=>h'.1 (h.1 x),Xca h.2 h'.2⟩
theorem St.atom {p:Pln} {a:Atm} : St p (Qa1 p a).2∧TB (Qa1 p a).1:=by
 unfold Qa1
 split
 ·exact ⟨St.z,TB.leaf⟩
 ·exact ⟨⟨id,Xai _⟩,TB.leaf⟩
theorem St.element {n:Nms} {p:Pln} {ns:Int} {pre name:List UInt8} : St p (Qa7 n p ns pre name).2∧TB (Qa7 n p ns pre name).1:=by
 unfold Qa7
 split
 ·exact ⟨St.z,TB.leaf⟩
 ·exact St.atom
theorem TB.any {l:List Trm} (h:l.length≤800000) (hl:∀t∈l,TB t):TB (anyT l):=.mk h hl
theorem St.link {n:Nms} {p:Pln} : St p (Ql7 n p).2∧TB (Ql7 n p).1:=by
 obtain ⟨a1,a2⟩:=St.element (n:=n) (p:=p) (ns:=0) (pre:=[]) (name:=[97])
 obtain ⟨b1,b2⟩:=St.element (n:=n) (p:=(Qa7 n p 0 [] [97]).2) (ns:=0) (pre:=[]) (name:=[97,114,101,97])
 obtain ⟨c1,c2⟩:=St.atom (p:=(Qa7 n (Qa7 n p 0 [] [97]).2 0 [] [97,114,101,97]).2) (a:=atA [104,114,101,102] 1 [])
 refine ⟨(a1.tr b1).tr c1,TB.not (TB.any (by simp) fun t ht => ?_)⟩
 rcases Xay.1 ht with rfl|ht
 ·refine TB.not (TB.any (by simp) fun t ht => ?_)
  rcases Xay.1 ht with rfl|ht
  ·exact a2
  ·rw [Xbr.1 ht];exact b2
 ·rw [Xbr.1 ht];exact TB.not c2
theorem TB.some {rs:List Int} (h:rs.length≤800000):TB (Qbo rs):=TB.any (by rw [Xao];exact h) fun t ht=>by
 obtain ⟨x,_,rfl⟩:=Xbc.1 ht
 exact TB.leaf
section
variable {α:Type} {v:α→V} {n:Nms} {r0:Pln→Sl α→List Int×Pln} {w0:Sl α→Nat} {K:Sl α→Prop}
def PL (r0:Pln→Sl α→List Int×Pln) (w0:Sl α→Nat) (K:Sl α→Prop):Prop:=∀(p:Pln) (s:Sl α) (m:Nat),K s→Pz p m→m+w0 s≤800000→St p (r0 p s).2∧∀x∈(r0 p s).1,0≤x∧x<(r0 p s).2.rows.length
variable (hR:Qer v n r0 w0) (hP:PL r0 w0 K)
include hR hP
theorem Win {p:Pln} {m:Nat} (s:Sm α) (hs:nsS K s) (hp:Pz p m) (hm:m+(4+w0 s.of)≤800000):St p (Qcy r0 n p s).2∧TB (Qcy r0 n p s).1∧Pz (Qcy r0 n p s).2 (m+(4+w0 s.of)):=by
 obtain ⟨hns,hab,hK⟩:=hs
 obtain ⟨_,pr,lr⟩:=hR p s.of m .nils rfl hp X0o
 suffices hh:St p (Qcy r0 n p s).2∧TB (Qcy r0 n p s).1 from ⟨hh.1,hh.2,Pz.term hp pr⟩
 obtain ⟨w1,_⟩:=hP p s.of m hK hp X0o
 unfold Qcy
 by_cases c1:s.kind=1∨s.kind=2
 ·rw [if_pos c1];exact St.element
 rw [if_neg c1]
 by_cases c3:s.kind=3
 ·rw [if_pos c3];exact St.atom
 rw [if_neg c3]
 by_cases c4:s.kind=4
 ·rw [if_pos c4];exact St.atom
 rw [if_neg c4]
 by_cases c5:s.kind=5
 ·rw [if_pos c5];exact St.atom
 rw [if_neg c5]
 by_cases c11:s.kind=11
 ·rw [if_pos c11];exact St.atom
 rw [if_neg c11]
 by_cases c6:s.kind=6
 ·rw [if_pos c6];exact ⟨St.z,TB.leaf⟩
 rw [if_neg c6]
 by_cases c8:s.kind=8∨s.kind=9
 ·rw [if_pos c8];exact ⟨w1,TB.some X0o⟩
 rw [if_neg c8]
 by_cases c10:s.kind=10
 ·rw [if_pos c10];exact ⟨w1,TB.not (TB.some X0o)⟩
 rw [if_neg c10]
 by_cases c7:s.kind=7
 ·rw [if_pos c7]
  refine ⟨w1.tr ⟨fun g=>⟨fun c hc => ?_,g.2⟩,Xai _⟩,TB.leaf⟩
  rcases Xbq.1 hc with hc|hc
  ·exact g.1 c hc
  ·rw [Xbr.1 hc];exact ⟨hab c7,by show (r0 p s.of).1.length≤_;omega⟩
 rw [if_neg c7]
 by_cases c12:s.kind=12
 ·rw [if_pos c12];exact St.link
 rw [if_neg c12]
 exact ⟨St.z,TB.leaf⟩
theorem Qug:∀(r:List (Sm α)) (p:Pln) (m:Nat),(∀s∈r,nsS K s)→Pz p m→m+wX w0 r≤800000→
  St p (Qbk r0 n p r).2∧Pz (Qbk r0 n p r).2 (m+wX w0 r)∧(Qbk r0 n p r).1.length=r.length∧∀t∈(Qbk r0 n p r).1,TB t
 |[],p,m,hs,hp,hm=>⟨St.z,hp,rfl,fun t ht=>(by cases ht)⟩
 |s::r,p,m,hs,hp,hm=>by
  have e:wX w0 (s::r)=4+w0 s.of+wX w0 r:=rfl
  obtain ⟨a1,a2,a3⟩:=Win hR hP s (hs s (Xaw ..)) hp X0o
  obtain ⟨b1,b2,b3,b4⟩:=Qug r (Qcy r0 n p s).2 (m+(4+w0 s.of)) (fun s' h'=>hs s' (Xax _ h')) a3 X0o
  refine ⟨a1.tr b1,b2.le X0o,by show _+1=_+1;rw [b3],fun t ht => ?_⟩
  rcases Xay.1 ht with rfl|ht
  ·exact a2
  ·exact b4 t ht
theorem Quh:∀(r:List (Cp α)) (p:Pln) (m:Nat),(∀x∈r,∀s∈x.list.l,nsS K s)→Pz p m→m+wC w0 r≤800000→
  St p (Qcf r0 n p r).2∧∀st∈(Qcf r0 n p r).1,st.ts.length≤800000∧∀t∈st.ts,TB t
 |[],p,m,hs,hp,hm=>⟨St.z,fun t ht=>(by cases ht)⟩
 |x::r,p,m,hs,hp,hm=>by
  have e:wC w0 (x::r)=1+wX w0 x.list.l+wC w0 r:=rfl
  obtain ⟨a1,a2,a3,a4⟩:=Qug hR hP x.list.l p m (hs x (Xaw ..)) hp X0o
  obtain ⟨b1,b2⟩:=Quh r (Qbk r0 n p x.list.l).2 (m+wX w0 x.list.l) (fun s' h'=>hs s' (Xax _ h')) a2 X0o
  refine ⟨a1.tr b1,fun st hst => ?_⟩
  rcases Xay.1 hst with rfl|hst
  ·have:=Qt3 (w0:=w0) x.list.l
   exact ⟨by show (Qbk r0 n p x.list.l).1.length≤_;omega,a4⟩
  ·exact b2 st hst
theorem Wmk {p:Pln} {m:Nat} (c:Co α) (hc:∀x∈c.list.l,∀s∈x.list.l,nsS K s) (hp:Pz p m) (hm:m+wR w0 c≤800000):
  St p (rowP r0 n p c).2∧0≤(rowP r0 n p c).1∧(rowP r0 n p c).1<(rowP r0 n p c).2.rows.length:=by
 have e:wR w0 c=1+wC w0 c.list.l:=rfl
 obtain ⟨b1,b2⟩:=Quh hR hP c.list.l p m hc hp X0o
 have hlen:=Qjh (r0:=r0) (n:=n) c.list.l p
 have hcl:=Qt4 (w0:=w0) c.list.l
 unfold rowP
 simp only
 generalize Qcf r0 n p c.list.l=q at *
 have hrows:(addR q.2 q.1 (Qb9 c)).rows.length=q.2.rows.length+1:=by
  show (q.2.rows++[_]).length=_
  simp
 refine ⟨b1.tr ⟨fun g=>⟨g.1,fun r hr => ?_⟩,by omega⟩,by omega,by omega⟩
 rcases Xbq.1 hr with hr|hr
 ·exact g.2 r hr
 ·rw [Xbr.1 hr];exact ⟨by show q.1.length≤_;omega,b2⟩
theorem Way (hv:∀n x,V.rb n (v x)=true) (hn:NmB n):∀(r:List (Co α)) (p:Pln) (m:Nat),(∀c∈r,∀x∈c.list.l,∀s∈x.list.l,nsS K s)→Pz p m→m+wL w0 r≤800000→
  St p (Qde r0 n p r).2∧∀x∈(Qde r0 n p r).1,0≤x∧x<(Qde r0 n p r).2.rows.length
 |[],p,m,hs,hp,hm=>⟨St.z,fun t ht=>(by cases ht)⟩
 |c::r,p,m,hs,hp,hm=>by
  have e:wL w0 (c::r)=wR w0 c+wL w0 r:=rfl
  obtain ⟨a1,a2,a3⟩:=Wmk hR hP c (hs c (Xaw ..)) hp X0o
  have a4:=(Wh7 hv hn hR (X:=.nils) rfl c hp X0o [] Qaq).1
  obtain ⟨b1,b2⟩:=Way hv hn r (rowP r0 n p c).2 (m+wR w0 c) (fun s' h'=>hs s' (Xax _ h')) a4 X0o
  refine ⟨a1.tr b1,fun x hx => ?_⟩
  rcases Xay.1 hx with rfl|hx
  ·have:=b1.2
   exact ⟨a2,by show (rowP r0 n p c).1<((Qde r0 n (rowP r0 n p c).2 r).2.rows.length:Int);omega⟩
  ·exact b2 x hx
end
theorem plN {n:Nms} (hn:NmB n):∀k:Nat,PL (rwsN n k) (wN k) (nsD k)
 |0=>fun p s m hK hp hm=>⟨St.z,fun x hx=>(by cases hx)⟩
 |k+1=>fun p s m hK hp hm=>Way (Qji hn k) (plN hn k) (Qed k) hn (show List (Co (Cx k)) from s.l) p m hK hp hm
def PG (p:Pln) (L:List (List Int)):Prop:=Pz p 800000∧Gd p∧(∀l∈L,l.length≤800000∧∀x∈l,0≤x∧x<p.rows.length)∧L.length≤4
theorem Waz {n:Nms} (hn:NmB n) {k:Nat} : ∀(r:List (Sl (Cx k))) (p:Pln) (L:List (List Int)) (i m:Nat) (q:Pln×List (List Int)),Qfs n p L i r = .inl q→Pz p m→m+wA r≤800000→Gd p→(∀l∈L,l.length≤800000∧∀x∈l,0≤x∧x<p.rows.length)→L.length+r.length≤4→PG q.1 q.2
 |[],p,L,i,m,q,e,hp,hm,hg,hL,h4=>by
  cases e
  exact ⟨hp.le X0o,hg,hL,by simpa using h4⟩
 |s::r,p,L,i,m,q,e,hp,hm,hg,hL,h4=>by
  unfold Qfs at e
  have hm':m+(wN k s+wA r)≤800000:=hm
  split at e
  ·rename_i c1
   obtain ⟨_,q1,q2⟩:=Qji hn k p s m .nils rfl hp X0o
   obtain ⟨s1,s2⟩:=plN hn k p s m (Wax c1) hp X0o
   have h2:=s1.2
   refine Waz hn r _ _ _ (m+wN k s) q e q1 X0o (s1.1 hg) (fun l hl => ?_) (by rw [Xas];have:[(rwsN n k p s).1].length=1:=rfl;rw [Xal] at h4;omega)
   rcases Xbq.1 hl with hl|hl
   ·exact ⟨(hL l hl).1,fun x hx=>⟨((hL l hl).2 x hx).1,by have:=((hL l hl).2 x hx).2;omega⟩⟩
   ·rw [Xbr.1 hl]
    exact ⟨by omega,s2⟩
  ·cases e
end Go.Proofs.YtapnplljnpconaaGreatDoor
namespace Go.Ev
section
variable {α:Type} {f:α→V} {sz:Nat} {l:List α}
theorem lenS:Qai (vSl f (slo l))=some (.int .i64 l.length):=by rw [Qah,Qfg]
theorem iaS {q r:List α} {x:α} (h:l=q++x::r) (hf:(f x).cells.length=sz):eI sz (.int .i64 q.length) (vSl f (slo l))=some (.eptr (f x).cells 0):=Qax (by rw [Qfg];exact h) rfl hf
theorem ldo {O1 O2:O} {cs:List V} {off:Nat} {x:V} (h:cs[off]? = some x) (hx:x.ng=x):eL (.cells cs::[O2]) false 1 (.ptr 0 off)=some x∧eL [O1,.cells cs] false 1 (.ptr 1 off)=some x:=by
 have e:Ev.part false 1 cs off=some x:=by
  unfold Ev.part
  rw [if_neg (by decide),h]
  show some x.ng=_
  rw [hx]
 exact ⟨e,e⟩
end
end Go.Ev
namespace Go.Proofs.YtapnplljnpconaaGreatDoor
open Go.Ev
theorem Qlv (l:List Int) (hl:l.length≤800000):∀(r q:List Int),l=q++r→
  l_Z3z_0 (Mi cx) 0 0 [vIs l,vI0 l,.int .i64 q.length] []=some (.bool true,[])
 |[],q,hq=>by
  have e1:¬(q.length:Int)<l.length:=by rw [hq];simp
  have l1:Qai (vIs l)=some (.int .i64 l.length):=lenS
  have n1:(vIs l).ng=vIs l:=Qaf
  rw [u_Z3z_0]
  generalize vIs l=I at *
  simp +contextual -implicitDefEqProofs (disch:=try exact X0d) only [↓reduceIte,go_sem,b_Z3z_0,l1,n1,e1]
 |x::r,q,hq=>by
  have hlen:l.length=q.length+r.length+1:=by rw [hq];simp;omega
  have e1:(q.length:Int)<l.length:=by omega
  have l1:Qai (vIs l)=some (.int .i64 l.length):=lenS
  have n1:(vIs l).ng=vIs l:=Qaf
  have n2:(vI0 l).ng=vI0 l:=Qaf
  have i1:eI 1 (.int .i64 q.length) (vIs l)=some (.eptr [.int .i64 x] 0):=iaS hq rfl
  have i2:eI 1 (.int .i64 q.length) (vI0 l)=some (.eptr [.int .i64 x] 0):=Qax (f:=V.int .i64) (s:=.row l) hq rfl rfl
  have f1:∀k U,fz k U fzD (vIs l)=some (vIs l):=fun k U=>Qar Qdp
  have f2:∀k U,fz k U fzD (vI0 l)=some (vI0 l):=fun k U=>Qar Qfi
  have ih:=Qlv l hl r (q++[x]) (by rw [hq];simp)
  rw [show ((q++[x]).length:Int)=q.length+1 by simp] at ih
  rw [u_Z3z_0]
  generalize vIs l=I at *
  generalize vI0 l=Jww at *
  simp +contextual -implicitDefEqProofs (disch:=try exact X0d) only [↓reduceIte,go_sem,b_Z3z_0,l1,n1,n2,e1,i1,i2,f1,f2,ih]
theorem Wa0 (l:List Int) (hl:l.length≤800000) (U:Objs) (hσ:Wf U):E cx 43 [vIs l,vI0 l] U=some (.bool true,U):=by
 refine Qbe Qbb ?_ (by simp only [Qag,Qdp,Qfi];rfl) rfl U hσ
 have h:l_Z3z_0 (Mi cx) 0 0 [vIs l,vI0 l,.int .i64 0] []=some (.bool true,[]):=Qlv l hl l [] rfl
 have l1:Qai (vIs l)=some (.int .i64 l.length):=lenS
 have l2:Qai (vI0 l)=some (.int .i64 l.length):=Qah
 have n1:(vIs l).ng=vIs l:=Qaf
 have n2:(vI0 l).ng=vI0 l:=Qaf
 have f1:∀k U,fz k U fzD (vIs l)=some (vIs l):=fun k U=>Qar Qdp
 have f2:∀k U,fz k U fzD (vI0 l)=some (vI0 l):=fun k U=>Qar Qfi
 rw [e_Z3z]
 generalize vIs l=I at *
 generalize vI0 l=Jww at *
 simp +contextual -implicitDefEqProofs (disch:=try exact X0d) only [↓reduceIte,go_sem,s_Z3z,l1,l2,n1,n2,f1,f2,h]
def Pt:Trm→Prop
 | .mk _ _ us=>E cx 63 [vSl vT (slo us),vSl vT (slo us)] []=some (.bool true,[])
theorem Qqi (ts:List Trm) (hl:ts.length≤800000) (h:∀t∈ts,Pt t):∀(r q:List Trm),ts=q++r→
  l_Z42_0 (Mi cx) 0 0 [vSl vT (slo ts),vSl vT (slo ts),.int .i64 q.length] []=some (.bool true,[])
 |[],q,hq=>by
  have e1:¬(q.length:Int)<ts.length:=by rw [hq];simp
  have l1:Qai (vSl vT (slo ts))=some (.int .i64 ts.length):=lenS
  have n1:(vSl vT (slo ts)).ng=vSl vT (slo ts):=Qaf
  rw [u_Z42_0]
  generalize vSl vT (slo ts)=I at *
  simp +contextual -implicitDefEqProofs (disch:=try exact X0d) only [↓reduceIte,go_sem,b_Z42_0,l1,n1,e1]
 | .mk k i us::r,q,hq=>by
  have hlen:ts.length=q.length+r.length+1:=by rw [hq];simp;omega
  have e1:(q.length:Int)<ts.length:=by omega
  have l1:Qai (vSl vT (slo ts))=some (.int .i64 ts.length):=lenS
  have n1:(vSl vT (slo ts)).ng=vSl vT (slo ts):=Qaf
  have i1:eI 3 (.int .i64 q.length) (vSl vT (slo ts))=some (.eptr [.int .i64 k,.int .i64 i,vSl vT (slo us)] 0):=by
   have:=iaS (f:=vT) (sz:=3) hq (by rw [Qhy,Qbv];exact Qbz)
   rw [Qhy] at this
   exact this
  have f1:∀k U,fz k U fzD (vSl vT (slo ts))=some (vSl vT (slo ts)):=fun k U=>Qar (Qaj fun n x=>Qhz x)
  have n2:(vSl vT (slo us)).ng=vSl vT (slo us):=Qaf
  have k1:E cx 63 [vSl vT (slo us),vSl vT (slo us)] []=some (.bool true,[]):=h (.mk k i us) (by rw [hq];simp)
  have ih:=Qqi ts hl h r (q++[.mk k i us]) (by rw [hq];simp)
  rw [show ((q++[Trm.mk k i us]).length:Int)=q.length+1 by simp] at ih
  rw [u_Z42_0]
  clear h
  generalize vSl vT (slo us)=Uww at *
  generalize vSl vT (slo ts)=I at *
  have l2:∀U,eL U false 1 (.eptr [.int .i64 k,.int .i64 i,Uww] 2)=some Uww:=fun U=>by
   show some Uww.ng=_
   rw [n2]
  simp +contextual -implicitDefEqProofs (disch:=try exact X0d) only [↓reduceIte,go_sem,b_Z42_0,l1,n1,e1,i1,f1,l2,n2,k1,ih]
theorem Qqj (ts:List Trm) (hl:ts.length≤800000) (h:∀t∈ts,Pt t):E cx 63 [vSl vT (slo ts),vSl vT (slo ts)] []=some (.bool true,[]):=by
 have h:l_Z42_0 (Mi cx) 0 0 [vSl vT (slo ts),vSl vT (slo ts),.int .i64 0] []=some (.bool true,[]):=Qqi ts hl h ts [] rfl
 have l1:Qai (vSl vT (slo ts))=some (.int .i64 ts.length):=lenS
 have n1:(vSl vT (slo ts)).ng=vSl vT (slo ts):=Qaf
 have f1:∀k U,fz k U fzD (vSl vT (slo ts))=some (vSl vT (slo ts)):=fun k U=>Qar (Qaj fun n x=>Qhz x)
 rw [e_Z42]
 generalize vSl vT (slo ts)=I at *
 simp +contextual -implicitDefEqProofs (disch:=try exact X0d) only [↓reduceIte,go_sem,s_Z42,l1,n1,f1,h]
theorem TB.pt {t:Trm} (h:TB t):Pt t:=by
 induction h with
 |mk h1 h2 ih=>exact Qqj _ h1 ih
theorem Wd4 (ts:List Trm) (hl:ts.length≤800000) (h:∀t∈ts,TB t) (U:Objs) (hσ:Wf U):E cx 63 [vSl vT (slo ts),vSl vT (slo ts)] U=some (.bool true,U):=
 Qbe Qbb (Qqj ts hl fun t ht=>(h t ht).pt) (by simp only [Qag,Qaj (fun n x=>Qhz (n:=n) x)];rfl) rfl U hσ
def RwB (r:Rw):Prop:=r.steps.length≤800000∧∀s∈r.steps,s.ts.length≤800000∧∀t∈s.ts,TB t
theorem Qm0 (w:Rw) (hw:RwB w):∀(r q:List Stp),w.steps=q++r→
  l_Z41_0 (Mi cx) 0 2 [.ptr 0 0,.ptr 1 0,.int .i64 q.length] [.cells (rwC w),.cells (rwC w)]=some (.bool true,[])
 |[],q,hq=>by
  have e1:¬(q.length:Int)<w.steps.length:=by rw [hq];simp
  have l1:Qai (vSl vStp (slo w.steps))=some (.int .i64 w.steps.length):=lenS
  have n1:(vSl vStp (slo w.steps)).ng=vSl vStp (slo w.steps):=Qaf
  obtain ⟨a1,a2⟩:=ldo (O1:=.cells (rwC w)) (O2:=.cells (rwC w)) (cs:=rwC w) (off:=1) (x:=vSl vStp (slo w.steps)) rfl n1
  have c2:cuO 2 [.cells (rwC w),.cells (rwC w)]=some [.cells (rwC w),.cells (rwC w)]:=Qcz (Qa9 (Qab Qey (Qab Qey Qaq)))
  rw [u_Z41_0]
  generalize vSl vStp (slo w.steps)=I at *
  generalize rwC w=W at *
  simp +contextual -implicitDefEqProofs (disch:=try exact X0d) only [↓reduceIte,go_sem,b_Z41_0,l1,n1,a1,a2,c2,e1]
 |s::r,q,hq=>by
  have hlen:w.steps.length=q.length+r.length+1:=by rw [hq];simp;omega
  have hb:=hw.1
  have e1:(q.length:Int)<w.steps.length:=by omega
  have l1:Qai (vSl vStp (slo w.steps))=some (.int .i64 w.steps.length):=lenS
  have n1:(vSl vStp (slo w.steps)).ng=vSl vStp (slo w.steps):=Qaf
  obtain ⟨a1,a2⟩:=ldo (O1:=.cells (rwC w)) (O2:=.cells (rwC w)) (cs:=rwC w) (off:=1) (x:=vSl vStp (slo w.steps)) rfl n1
  have c2:cuO 2 [.cells (rwC w),.cells (rwC w)]=some [.cells (rwC w),.cells (rwC w)]:=Qcz (Qa9 (Qab Qey (Qab Qey Qaq)))
  have i1:eI 2 (.int .i64 q.length) (vSl vStp (slo w.steps))=some (.eptr (stC s) 0):=iaS (f:=vStp) hq rfl
  have l2:∀U,eL U false 1 (.eptr (stC s) 0)=some (.int .i64 s.comb):=fun U=>rfl
  have n2:(vSl vT (slo s.ts)).ng=vSl vT (slo s.ts):=Qaf
  have l3:∀U,eL U false 1 (.eptr (stC s) 1)=some (vSl vT (slo s.ts)):=fun U=>by
   show some (vSl vT (slo s.ts)).ng=_
   rw [n2]
  obtain ⟨b1,b2⟩:=hw.2 s (by rw [hq];simp)
  have k1:=Wd4 s.ts b1 b2 [.cells (rwC w),.cells (rwC w)] (Qa9 (Qab Qey (Qab Qey Qaq)))
  have ih:=Qm0 w hw r (q++[s]) (by rw [hq];simp)
  rw [show ((q++[s]).length:Int)=q.length+1 by simp] at ih
  rw [u_Z41_0]
  clear hw
  generalize vSl vT (slo s.ts)=T at *
  generalize vSl vStp (slo w.steps)=I at *
  generalize rwC w=W at *
  generalize stC s=SC at *
  simp +contextual -implicitDefEqProofs (disch:=try exact X0d) only [↓reduceIte,go_sem,b_Z41_0,l1,n1,a1,a2,c2,e1,i1,l2,l3,n2,k1,ih]
theorem Wml (w:Rw) (hw:RwB w) (U:Objs) (hσ:Wf U):E cx 42 [.agg (rwC w),.agg (rwC w)] U=some (.bool true,U):=by
 refine Qbe Qbb ?_ (by simp only [Qag,Qa0,Qey];rfl) rfl U hσ
 have h:l_Z41_0 (Mi cx) 0 2 [.ptr 0 0,.ptr 1 0,.int .i64 0] [.cells (rwC w),.cells (rwC w)]=some (.bool true,[]):=Qm0 w hw w.steps [] rfl
 have h1:∀U,boxV U (.agg (rwC w))=some (.ptr U.length 0,U++[.cells (rwC w)]):=fun U=>Qau Qv9 Wdp
 have l1:Qai (vSl vStp (slo w.steps))=some (.int .i64 w.steps.length):=lenS
 have n1:(vSl vStp (slo w.steps)).ng=vSl vStp (slo w.steps):=Qaf
 obtain ⟨a1,a2⟩:=ldo (O1:=.cells (rwC w)) (O2:=.cells (rwC w)) (cs:=rwC w) (off:=1) (x:=vSl vStp (slo w.steps)) rfl n1
 obtain ⟨a3,a4⟩:=ldo (O1:=.cells (rwC w)) (O2:=.cells (rwC w)) (cs:=rwC w) (off:=0) (x:=.int .i64 w.first) rfl rfl
 obtain ⟨a5,a6⟩:=ldo (O1:=.cells (rwC w)) (O2:=.cells (rwC w)) (cs:=rwC w) (off:=2) (x:=.str w.pseudo) rfl rfl
 rw [e_Z41]
 generalize vSl vStp (slo w.steps)=I at *
 generalize rwC w=W at *
 simp +contextual -implicitDefEqProofs (disch:=try exact X0d) only [↓reduceIte,go_sem,s_Z41,h1,l1,n1,a1,a2,a3,a4,a5,a6,h]
section
variable {p:Pln} {L:List (List Int)} (hG:PG p L)
theorem Wd5:Cl0 [.cells (plC p L),.cells (plD p L)]:=Qab Qcl (Qab Qcg Qaq)
theorem Qj3:cuO 2 [.cells (plC p L),.cells (plD p L)]=some [.cells (plC p L),.cells (plD p L)]:=Qcz (Qa9 Wd5)
theorem Qjk {off:Nat} {x y:V} (h:(plC p L)[off]? = some x) (hx:x.ng=x) (h':(plD p L)[off]? = some y) (hy:y.ng=y):eL [.cells (plC p L),.cells (plD p L)] false 1 (.ptr 0 off)=some x∧eL [.cells (plC p L),.cells (plD p L)] false 1 (.ptr 1 off)=some y:=
 ⟨(ldo (O1:=.cells []) h hx).1,(ldo (O2:=.cells []) h' hy).2⟩
include hG
theorem Qui:∀(r q:List (List Int)),L=q++r→l_Z3x_3 (Mi cx) 0 2 [.ptr 0 0,.ptr 1 0,.int .i64 q.length] [.cells (plC p L),.cells (plD p L)]=some (.bool true,[])
 |[],q,hq=>by
  have e1:¬(q.length:Int)<L.length:=by rw [hq];simp
  have l1:Qai (vSl vIs (slo L))=some (.int .i64 L.length):=lenS
  have n1:(vSl vIs (slo L)).ng=vSl vIs (slo L):=Qaf
  obtain ⟨a1,_⟩:=Qjk (p:=p) (L:=L) (off:=3) (x:=vSl vIs (slo L)) (y:=vSl vI0 (slo L)) rfl n1 rfl Qaf
  have c2:=Qj3 (p:=p) (L:=L)
  rw [u_Z3x_3]
  generalize vSl vIs (slo L)=I at *
  generalize plC p L=P at *
  generalize plD p L=Q at *
  simp +contextual -implicitDefEqProofs (disch:=try exact X0d) only [↓reduceIte,go_sem,b_Z3x_3,l1,n1,a1,c2,e1]
 |x::r,q,hq=>by
  have hlen:L.length=q.length+r.length+1:=by rw [hq];simp;omega
  have hb:=hG.2.2.2
  have e1:(q.length:Int)<L.length:=by omega
  have l1:Qai (vSl vIs (slo L))=some (.int .i64 L.length):=lenS
  have n1:(vSl vIs (slo L)).ng=vSl vIs (slo L):=Qaf
  have n2:(vSl vI0 (slo L)).ng=vSl vI0 (slo L):=Qaf
  obtain ⟨a1,a2⟩:=Qjk (p:=p) (L:=L) (off:=3) (x:=vSl vIs (slo L)) (y:=vSl vI0 (slo L)) rfl n1 rfl n2
  have c2:=Qj3 (p:=p) (L:=L)
  have i1:eI 1 (.int .i64 q.length) (vSl vIs (slo L))=some (.eptr [vIs x] 0):=by
   have:=iaS (f:=vIs) (sz:=1) hq (by rw [Qbw];rfl)
   rw [Qbw] at this
   exact this
  have i2:eI 1 (.int .i64 q.length) (vSl vI0 (slo L))=some (.eptr [vI0 x] 0):=iaS (f:=vI0) (sz:=1) hq rfl
  have n3:(vIs x).ng=vIs x:=Qaf
  have n4:(vI0 x).ng=vI0 x:=Qaf
  have l2:∀U,eL U false 1 (.eptr [vIs x] 0)=some (vIs x):=fun U=>by
   show some (vIs x).ng=_
   rw [n3]
  have l3:∀U,eL U false 1 (.eptr [vI0 x] 0)=some (vI0 x):=fun U=>rfl
  have k1:=Wa0 x (hG.2.2.1 x (by rw [hq];simp)).1 _ (Qa9 (Wd5 (p:=p) (L:=L)))
  have ih:=Qui r (q++[x]) (by rw [hq];simp)
  rw [show ((q++[x]).length:Int)=q.length+1 by simp] at ih
  rw [u_Z3x_3]
  clear hG
  generalize vSl vIs (slo L)=I at *
  generalize vSl vI0 (slo L)=Jww at *
  generalize vIs x=X at *
  generalize vI0 x=Y at *
  generalize plC p L=P at *
  generalize plD p L=Q at *
  simp +contextual -implicitDefEqProofs (disch:=try exact X0d) only [↓reduceIte,go_sem,b_Z3x_3,l1,n1,n2,n3,n4,a1,a2,c2,e1,i1,i2,l2,l3,k1,ih]
theorem Quj:∀(r q:List Ctr),p.ctrs=q++r→l_Z3x_2 (Mi cx) 0 2 [.ptr 0 0,.ptr 1 0,.int .i64 q.length] [.cells (plC p L),.cells (plD p L)]=some (.bool true,[])
 |[],q,hq=>by
  have e1:¬(q.length:Int)<p.ctrs.length:=by rw [hq];simp
  have l1:Qai (vSl vCtr (slo p.ctrs))=some (.int .i64 p.ctrs.length):=lenS
  have n1:(vSl vCtr (slo p.ctrs)).ng=vSl vCtr (slo p.ctrs):=Qaf
  obtain ⟨a1,_⟩:=Qjk (p:=p) (L:=L) (off:=2) (x:=vSl vCtr (slo p.ctrs)) (y:=vSl vCt0 (slo p.ctrs)) rfl n1 rfl Qaf
  have c2:=Qj3 (p:=p) (L:=L)
  have k1:l_Z3x_3 (Mi cx) 0 2 [.ptr 0 0,.ptr 1 0,.int .i64 0] [.cells (plC p L),.cells (plD p L)]=some (.bool true,[]):=Qui hG L [] rfl
  rw [u_Z3x_2]
  generalize vSl vCtr (slo p.ctrs)=I at *
  generalize plC p L=P at *
  generalize plD p L=Q at *
  simp +contextual -implicitDefEqProofs (disch:=try exact X0d) only [↓reduceIte,go_sem,b_Z3x_2,l1,n1,a1,c2,e1,k1]
 |x::r,q,hq=>by
  have hlen:p.ctrs.length=q.length+r.length+1:=by rw [hq];simp;omega
  have hb:=hG.1.2.2.1
  have e1:(q.length:Int)<p.ctrs.length:=by omega
  have l1:Qai (vSl vCtr (slo p.ctrs))=some (.int .i64 p.ctrs.length):=lenS
  have n1:(vSl vCtr (slo p.ctrs)).ng=vSl vCtr (slo p.ctrs):=Qaf
  have n2:(vSl vCt0 (slo p.ctrs)).ng=vSl vCt0 (slo p.ctrs):=Qaf
  obtain ⟨a1,a2⟩:=Qjk (p:=p) (L:=L) (off:=2) (x:=vSl vCtr (slo p.ctrs)) (y:=vSl vCt0 (slo p.ctrs)) rfl n1 rfl n2
  have c2:=Qj3 (p:=p) (L:=L)
  have i1:eI 3 (.int .i64 q.length) (vSl vCtr (slo p.ctrs))=some (.eptr (ctC x) 0):=iaS (f:=vCtr) hq rfl
  have i2:eI 3 (.int .i64 q.length) (vSl vCt0 (slo p.ctrs))=some (.eptr (ct0 x) 0):=iaS (f:=vCt0) hq rfl
  have n3:(vIs x.rows).ng=vIs x.rows:=Qaf
  have n4:(vI0 x.rows).ng=vI0 x.rows:=Qaf
  have l2:∀U,eL U true 2 (.eptr (ctC x) 0)=some (.agg [.int .i64 x.a,.int .i64 x.b]):=fun U=>rfl
  have l3:∀U,eL U true 2 (.eptr (ct0 x) 0)=some (.agg [.int .i64 x.a,.int .i64 x.b]):=fun U=>rfl
  have l4:∀U,eL U false 1 (.eptr (ctC x) 2)=some (vIs x.rows):=fun U=>by
   show some (vIs x.rows).ng=_
   rw [n3]
  have l5:∀U,eL U false 1 (.eptr (ct0 x) 2)=some (vI0 x.rows):=fun U=>rfl
  have b1:eB .neq (.agg [.i,.i]) (.agg [.int .i64 x.a,.int .i64 x.b]) (.agg [.int .i64 x.a,.int .i64 x.b])=some (.bool false):=by simp [eB,eqV,Qbg,Qdq]
  have k1:=Wa0 x.rows (hG.2.1.1 x (by rw [hq];simp)).2 _ (Qa9 (Wd5 (p:=p) (L:=L)))
  have ih:=Quj r (q++[x]) (by rw [hq];simp)
  rw [show ((q++[x]).length:Int)=q.length+1 by simp] at ih
  rw [u_Z3x_2]
  clear hG
  generalize vSl vCtr (slo p.ctrs)=I at *
  generalize vSl vCt0 (slo p.ctrs)=Jww at *
  generalize vIs x.rows=X at *
  generalize vI0 x.rows=Y at *
  generalize ctC x=C1 at *
  generalize ct0 x=C2 at *
  generalize plC p L=P at *
  generalize plD p L=Q at *
  simp +contextual -implicitDefEqProofs (disch:=try exact X0d) only [↓reduceIte,go_sem,b_Z3x_2,l1,n1,n2,n3,n4,a1,a2,c2,e1,i1,i2,l2,l3,l4,l5,b1,k1,ih]
theorem Quk:∀(r q:List Rw),p.rows=q++r→l_Z3x_1 (Mi cx) 0 2 [.ptr 0 0,.ptr 1 0,.int .i64 q.length] [.cells (plC p L),.cells (plD p L)]=some (.bool true,[])
 |[],q,hq=>by
  have e1:¬(q.length:Int)<p.rows.length:=by rw [hq];simp
  have l1:Qai (vSl vRw (slo p.rows))=some (.int .i64 p.rows.length):=lenS
  have n1:(vSl vRw (slo p.rows)).ng=vSl vRw (slo p.rows):=Qaf
  obtain ⟨a1,_⟩:=Qjk (p:=p) (L:=L) (off:=1) (x:=vSl vRw (slo p.rows)) (y:=vSl vRw (slo p.rows)) rfl n1 rfl Qaf
  have c2:=Qj3 (p:=p) (L:=L)
  have k1:l_Z3x_2 (Mi cx) 0 2 [.ptr 0 0,.ptr 1 0,.int .i64 0] [.cells (plC p L),.cells (plD p L)]=some (.bool true,[]):=Quj hG p.ctrs [] rfl
  rw [u_Z3x_1]
  generalize vSl vRw (slo p.rows)=I at *
  generalize plC p L=P at *
  generalize plD p L=Q at *
  simp +contextual -implicitDefEqProofs (disch:=try exact X0d) only [↓reduceIte,go_sem,b_Z3x_1,l1,n1,a1,c2,e1,k1]
 |x::r,q,hq=>by
  have hlen:p.rows.length=q.length+r.length+1:=by rw [hq];simp;omega
  have hb:=hG.1.2.1
  have e1:(q.length:Int)<p.rows.length:=by omega
  have l1:Qai (vSl vRw (slo p.rows))=some (.int .i64 p.rows.length):=lenS
  have n1:(vSl vRw (slo p.rows)).ng=vSl vRw (slo p.rows):=Qaf
  obtain ⟨a1,a2⟩:=Qjk (p:=p) (L:=L) (off:=1) (x:=vSl vRw (slo p.rows)) (y:=vSl vRw (slo p.rows)) rfl n1 rfl n1
  have c2:=Qj3 (p:=p) (L:=L)
  have i1:eI 3 (.int .i64 q.length) (vSl vRw (slo p.rows))=some (.eptr (rwC x) 0):=iaS (f:=vRw) hq rfl
  have l2:∀U,eL U true 3 (.eptr (rwC x) 0)=some (.agg (rwC x)):=fun U=>Qc3 rfl Wdp
  have k1:=Wml x (hG.2.1.2 x (by rw [hq];simp)) _ (Qa9 (Wd5 (p:=p) (L:=L)))
  have ih:=Quk r (q++[x]) (by rw [hq];simp)
  rw [show ((q++[x]).length:Int)=q.length+1 by simp] at ih
  rw [u_Z3x_1]
  clear hG
  generalize vSl vRw (slo p.rows)=I at *
  generalize rwC x=R at *
  generalize plC p L=P at *
  generalize plD p L=Q at *
  simp +contextual -implicitDefEqProofs (disch:=try exact X0d) only [↓reduceIte,go_sem,b_Z3x_1,l1,n1,a1,a2,c2,e1,i1,l2,k1,ih]
theorem Qul:∀(r q:List Atm),p.atoms=q++r→l_Z3x_0 (Mi cx) 0 2 [.ptr 0 0,.ptr 1 0,.int .i64 q.length] [.cells (plC p L),.cells (plD p L)]=some (.bool true,[])
 |[],q,hq=>by
  have e1:¬(q.length:Int)<p.atoms.length:=by rw [hq];simp
  have l1:Qai (vSl vAtm (slo p.atoms))=some (.int .i64 p.atoms.length):=lenS
  have n1:(vSl vAtm (slo p.atoms)).ng=vSl vAtm (slo p.atoms):=Qaf
  obtain ⟨a1,_⟩:=Qjk (p:=p) (L:=L) (off:=0) (x:=vSl vAtm (slo p.atoms)) (y:=vSl vAtm (slo p.atoms)) rfl n1 rfl Qaf
  have c2:=Qj3 (p:=p) (L:=L)
  have k1:l_Z3x_1 (Mi cx) 0 2 [.ptr 0 0,.ptr 1 0,.int .i64 0] [.cells (plC p L),.cells (plD p L)]=some (.bool true,[]):=Quk hG p.rows [] rfl
  rw [u_Z3x_0]
  generalize vSl vAtm (slo p.atoms)=I at *
  generalize plC p L=P at *
  generalize plD p L=Q at *
  simp +contextual -implicitDefEqProofs (disch:=try exact X0d) only [↓reduceIte,go_sem,b_Z3x_0,l1,n1,a1,c2,e1,k1]
 |x::r,q,hq=>by
  have hlen:p.atoms.length=q.length+r.length+1:=by rw [hq];simp;omega
  have hb:=hG.1.1
  have e1:(q.length:Int)<p.atoms.length:=by omega
  have l1:Qai (vSl vAtm (slo p.atoms))=some (.int .i64 p.atoms.length):=lenS
  have n1:(vSl vAtm (slo p.atoms)).ng=vSl vAtm (slo p.atoms):=Qaf
  obtain ⟨a1,a2⟩:=Qjk (p:=p) (L:=L) (off:=0) (x:=vSl vAtm (slo p.atoms)) (y:=vSl vAtm (slo p.atoms)) rfl n1 rfl n1
  have c2:=Qj3 (p:=p) (L:=L)
  have i1:eI 7 (.int .i64 q.length) (vSl vAtm (slo p.atoms))=some (.eptr (atC x) 0):=iaS (f:=vAtm) hq rfl
  have l2:∀U,eL U true 7 (.eptr (atC x) 0)=some (.agg (atC x)):=fun U=>Qc3 rfl Qjg
  have b1:eB .neq (.agg [.i,.b,.s,.s,.i,.s,.b]) (.agg (atC x)) (.agg (atC x))=some (.bool false):=by
   obtain ⟨a1,a2,a3,a4,a5,a6,a7⟩:=x
   simp [eB,eqV,Qbg,Qdq,atC]
  have ih:=Qul r (q++[x]) (by rw [hq];simp)
  rw [show ((q++[x]).length:Int)=q.length+1 by simp] at ih
  rw [u_Z3x_0]
  clear hG
  generalize vSl vAtm (slo p.atoms)=I at *
  generalize atC x=R at *
  generalize plC p L=P at *
  generalize plD p L=Q at *
  simp +contextual -implicitDefEqProofs (disch:=try exact X0d) only [↓reduceIte,go_sem,b_Z3x_0,l1,n1,a1,a2,c2,e1,i1,l2,b1,ih]
theorem Wa1 (U:Objs) (hσ:Wf U):E cx 18 [.agg (plC p L),.agg (plD p L)] U=some (.bool true,U):=by
 refine Qbe Qbb ?_ (by simp only [Qag,Qa0,Qcl,Qcg];rfl) rfl U hσ
 have h:l_Z3x_0 (Mi cx) 0 2 [.ptr 0 0,.ptr 1 0,.int .i64 0] [.cells (plC p L),.cells (plD p L)]=some (.bool true,[]):=Qul hG p.atoms [] rfl
 have h1:boxV [] (.agg (plC p L))=some (.ptr 0 0,[.cells (plC p L)]):=Qau Qwc Qqb
 have h2:boxV [.cells (plC p L)] (.agg (plD p L))=some (.ptr 1 0,[.cells (plC p L),.cells (plD p L)]):=Qau Qmz Qj2
 obtain ⟨a1,a2⟩:=Qjk (p:=p) (L:=L) (off:=0) (x:=vSl vAtm (slo p.atoms)) (y:=vSl vAtm (slo p.atoms)) rfl Qaf rfl Qaf
 obtain ⟨a3,a4⟩:=Qjk (p:=p) (L:=L) (off:=1) (x:=vSl vRw (slo p.rows)) (y:=vSl vRw (slo p.rows)) rfl Qaf rfl Qaf
 obtain ⟨a5,a6⟩:=Qjk (p:=p) (L:=L) (off:=2) (x:=vSl vCtr (slo p.ctrs)) (y:=vSl vCt0 (slo p.ctrs)) rfl Qaf rfl Qaf
 obtain ⟨a7,a8⟩:=Qjk (p:=p) (L:=L) (off:=3) (x:=vSl vIs (slo L)) (y:=vSl vI0 (slo L)) rfl Qaf rfl Qaf
 obtain ⟨a9,b1⟩:=Qjk (p:=p) (L:=L) (off:=4) (x:=.int .i64 p.steps) (y:=.int .i64 p.steps) rfl rfl rfl rfl
 rw [e_Z3x]
 clear hG
 generalize plC p L=P at *
 generalize plD p L=Q at *
 simp +contextual -implicitDefEqProofs (disch:=try exact X0d) only [↓reduceIte,go_sem,s_Z3x,h1,h2,a1,a2,a3,a4,a5,a6,a7,a8,a9,b1,Qaf,lenS,h]
end
end Go.Proofs.YtapnplljnpconaaGreatDoor
