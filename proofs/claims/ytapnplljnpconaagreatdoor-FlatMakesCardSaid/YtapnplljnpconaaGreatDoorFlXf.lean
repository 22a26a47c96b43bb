/- For any lists and names FlatMakes answers true, and its arguments read as they did. Condition: the row's listed variables read as the program's text lays them; the card ties that. -/
import Derived.Test.YtapnplljnpconaaGreatDoorFlXe
import Derived.Stop.LaidErr
import Derived.Lib.LaidTab
import Derived.Lib.LaidU8
import Derived.ChangeVars
import Derived.JoinedOf
import Derived.LaidLaws
import Derived.LaidHandle
import Derived.SizedLaws
import Derived.LaidSub
import Derived.Stop.Joined
import Derived.Lay
import Derived.SevenTiedAt
import Derived.LaidOnce
import Derived.Test.YtapnplljnpconaaGreatDoorTie
import Derived.Test.YtapnplljnpconaaGreatDoorCards
set_option linter.unusedSimpArgs false
set_option linter.unusedVariables false
set_option linter.unusedSectionVars false
set_option maxHeartbeats 4000000
set_option maxRecDepth 100000
open Go.Proofs.Tryz
namespace Go.Ev
def vGy {α:Type} (f:α→V) (sz:Nat) (l:List α):V:=.sl (l.map f) (if l.length=0 then .fx else .gr sz)
section
variable {α:Type} {f:α→V} {sz:Nat} {l:List α}
theorem Qhj {n:Nat} (h:∀n x,V.rb n (f x)=true):V.rb n (vGy f sz l)=true:=Qaj (s:=.row l) h
theorem Wmm:(vGy f sz l).ng=vSl f (.row l):=by unfold vGy;split <;> rfl
theorem Wa2:oK false (vGy f sz l)=some (vSl f (.row l)):=by unfold vGy;split <;> rfl
theorem Wa3 {ag:Bool} {bytes:Nat} {U:Objs} {x:α} {c:Cap} (hf:∀x,(f x).cells.length=sz) (ho:∀x,Qan (f x).cells=true) (ha:∀x,agOk ag (f x)=true) (hl:(l.length+1) * bytes≤Qbj):
  appV false ag sz bytes U (vGy f sz l) (.sl [f x] c)=some (vGy f sz (l++[x])):=by
 have h:=Qjc (f:=f) (sz:=sz) (c:=if l.length=0 then .fx else .gr sz) (ag:=ag) (bytes:=bytes) (U:=U) (l:=l) (m:=[x]) (c':=c) hf ho ha (by split <;> simp) (by simp) hl
 have e:(l++[x]).length=0↔False:=by simp
 unfold vGy
 rw [if_neg (by simp:¬(l++[x]).length=0)]
 exact h
end
end Go.Ev
namespace Go.Proofs.YtapnplljnpconaaGreatDoor
open Go.Ev
theorem Qlw (l:List Int) (hl:l.length≤10000000000000):∀(r q:List Int),l=q++r→
  l_Z27_0 (Mi cx) 0 0 [vIs l,vI0 l,.int .i64 q.length] []=some (.bool true,[])
 |[],q,hq=>by
  have e1:¬(q.length:Int)<l.length:=by rw [hq];simp
  have l1:Qai (vIs l)=some (.int .i64 l.length):=lenS
  have n1:(vIs l).ng=vIs l:=Qaf
  rw [u_Z27_0]
  generalize vIs l=I at *
  simp +contextual -implicitDefEqProofs (disch:=try exact X0d) only [↓reduceIte,go_sem,b_Z27_0,l1,n1,e1]
 |x::r,q,hq=>by
  have hlen:l.length=q.length+r.length+1:=by rw [hq];simp;omega
  have e1:(q.length:Int)<l.length:=by omega
  have l1:Qai (vIs l)=some (.int .i64 l.length):=lenS
  have n1:(vIs l).ng=vIs l:=Qaf
  have n2:(vI0 l).ng=vI0 l:=Qaf
  have i1:eI 1 (.int .i64 q.length) (vIs l)=some (.eptr [.int .i64 x] 0):=iaS hq rfl
  have i2:eI 1 (.int .i64 q.length) (vI0 l)=some (.eptr [.int .i64 x] 0):=Qax (f:=V.int .i64) (s:=.row l) hq rfl rfl
  have f1:∀k U,fz k U fzD (vIs l)=some (vIs l):=fun k U=>Qar Qdp
  have f2:∀k U,fz k U fzD (vI0 l)=some (vI0 l):=fun k U=>Qar Qfi
  have ih:=Qlw l hl r (q++[x]) (by rw [hq];simp)
  rw [show ((q++[x]).length:Int)=q.length+1 by simp] at ih
  rw [u_Z27_0]
  generalize vIs l=I at *
  generalize vI0 l=Jww at *
  simp +contextual -implicitDefEqProofs (disch:=try exact X0d) only [↓reduceIte,go_sem,b_Z27_0,l1,n1,n2,e1,i1,i2,f1,f2,ih]
theorem Qr3 (l:List Int) (hl:l.length≤10000000000000) (U:Objs) (hσ:Wf U):E cx 13 [vIs l,vI0 l] U=some (.bool true,U):=by
 refine Qbe Qbb ?_ (by simp only [Qag,Qdp,Qfi];rfl) rfl U hσ
 have h:l_Z27_0 (Mi cx) 0 0 [vIs l,vI0 l,.int .i64 0] []=some (.bool true,[]):=Qlw l hl l [] rfl
 have l1:Qai (vIs l)=some (.int .i64 l.length):=lenS
 have l2:Qai (vI0 l)=some (.int .i64 l.length):=Qah
 have n1:(vIs l).ng=vIs l:=Qaf
 have n2:(vI0 l).ng=vI0 l:=Qaf
 have f1:∀k U,fz k U fzD (vIs l)=some (vIs l):=fun k U=>Qar Qdp
 have f2:∀k U,fz k U fzD (vI0 l)=some (vI0 l):=fun k U=>Qar Qfi
 rw [e_Z27]
 generalize vIs l=I at *
 generalize vI0 l=Jww at *
 simp +contextual -implicitDefEqProofs (disch:=try exact X0d) only [↓reduceIte,go_sem,s_Z27,l1,l2,n1,n2,f1,f2,h]
def Qft:List Stp→List Int
 |[]=>[]
 |_::r=>(match r with|[]=>0|t::_=>t.comb)::Qft r
def Qd5:List Rw→List Int
 |[]=>[]
 |w::r=>Qft w.steps++Qd5 r
theorem Qum:∀(s:Stp) (r:List Stp),Qft (s::r)=r.map Stp.comb++[0]
 |s,[]=>rfl
 |s,t::r=>by
  show t.comb::Qft (t::r)=_
  rw [Qum t r];rfl
theorem Qit:∀l:List Stp,(Qft l).length=l.length
 |[]=>rfl
 |_::r=>by show _+1=_+1;rw [Qit r]
theorem Qun {U:Objs} {l:List Int} {x:Int} {c:Cap} (hl:l.length≤1000000000000):appV false false 1 8 U (vG (V.int .i64) 1 l) (.sl [.int .i64 x] c)=some (vG (V.int .i64) 1 (l++[x])):=
 Qfh (fun _=>rfl) (fun _=>rfl) (fun _=>rfl) (by unfold Qbj;omega)
theorem Quo {U:Objs} {l:List Int} {x:Int} {c:Cap} (hl:l.length≤1000000000000):appV false false 1 8 U (vGy (V.int .i64) 1 l) (.sl [.int .i64 x] c)=some (vGy (V.int .i64) 1 (l++[x])):=
 Wa3 (f:=V.int .i64) (fun _=>rfl) (fun _=>rfl) (fun _=>rfl) (by unfold Qbj;omega)
section
variable {P:List V} (hP:V.rbs 0 P=true) {RV:V} (hRV:V.rb 0 RV=true) (hRn:RV.ng=RV)
include hP hRV hRn
theorem Qr4 (w:Rw) (hw:RwB w) (len i:Int) (hi:0≤i∧i≤800000) (r1:Rk):∀(r q:List Stp) (out:List Int),w.steps=q++r→out.length+r.length≤900000000000→
  l_Z17_1 (Mi cx) 0 1 r1 2 [vG (V.int .i64) 1 out,.ptr 1 0,RV,.int .i64 len,.int .i64 i,.int .i64 w.steps.length,.int .i64 q.length] [.cells P,.cells (rwC w)]=r1 [vG (V.int .i64) 1 (out++Qft r),RV,.int .i64 len,.int .i64 (i+1)] [.cells P]
 |[],q,out,hq,ho=>by
  have e1:¬(q.length:Int)<w.steps.length:=by rw [hq];simp
  have c2:cuO 2 [.cells P,.cells (rwC w)]=some [.cells P,.cells (rwC w)]:=Qcz (Qa9 (Qab hP (Qab Qey Qaq)))
  have hP1:V.rbs 1 P=true:=rbs0 hP
  have f1:∀k U l,fz k U fzD (vG (V.int .i64) 1 l)=some (vG (V.int .i64) 1 l):=fun k U l=>Qar (Qdv fun _=>rfl)
  have f2:∀k U,fz k U fzD RV=some RV:=fun k U=>Qar (rb0 hRV)
  have e0:Qft []=[]:=rfl
  have c1:∀H:Objs,cuO 1 (.cells P::H)=some [.cells P]:=fun H=>Qda hP1
  rw [u_Z17_1,e0,Xbe]
  generalize rwC w=W at *
  simp +contextual -implicitDefEqProofs (disch:=try exact X0d) only [↓reduceIte,go_sem,b_Z17_1,e1,c2,c1,f1,f2]
 |s::r,q,out,hq,ho=>by
  have hlen:w.steps.length=q.length+r.length+1:=by rw [hq];simp;omega
  have hb:=hw.1
  have e1:(q.length:Int)<w.steps.length:=by omega
  have hP1:V.rbs 1 P=true:=rbs0 hP
  have c2:cuO 2 [.cells P,.cells (rwC w)]=some [.cells P,.cells (rwC w)]:=Qcz (Qa9 (Qab hP (Qab Qey Qaq)))
  have f1:∀k U l,fz k U fzD (vG (V.int .i64) 1 l)=some (vG (V.int .i64) 1 l):=fun k U l=>Qar (Qdv fun _=>rfl)
  have f2:∀k U,fz k U fzD RV=some RV:=fun k U=>Qar (rb0 hRV)
  have l1:Qai (vSl vStp (slo w.steps))=some (.int .i64 w.steps.length):=lenS
  have n1:(vSl vStp (slo w.steps)).ng=vSl vStp (slo w.steps):=Qaf
  have a2:=(ldo (O1:=.cells P) (O2:=.cells []) (cs:=rwC w) (off:=1) (x:=vSl vStp (slo w.steps)) rfl n1).2
  have ol:∀x:Int,(out++[x]).length=out.length+1:=fun x=>by simp
  cases r with
  |nil=>
   have ih:=Qr4 w hw len i hi r1 [] (q++[s]) (out++[0]) (by rw [hq];simp) (by rw [ol];simp only [Xa9,Xal] at *; omega)
   rw [show ((q++[s]).length:Int)=q.length+1 by simp,Xa2] at ih
   have e2:¬(q.length:Int)+1<w.steps.length:=by rw [hlen];simp
   have eK:([0]++Qft []:List Int)=Qft [s]:=rfl
   rw [eK] at ih
   have a1:∀U,appV false false 1 8 U (vG (V.int .i64) 1 out) (.sl [.int .i64 0] .no)=some (vG (V.int .i64) 1 (out++[0])):=fun U=>Qun X0o
   rw [u_Z17_1]
   clear hw hq
   generalize vSl vStp (slo w.steps)=I at *
   generalize rwC w=W at *
   generalize Qft [s]=K at *
   simp +contextual -implicitDefEqProofs (disch:=try exact X0d) only [↓reduceIte,go_sem,b_Z17_1,j_Z17_0,e1,e2,a2,l1,n1,a1,c2,f1,f2,ih]
  |cons t r=>
   have ih:=Qr4 w hw len i hi r1 (t::r) (q++[s]) (out++[t.comb]) (by rw [hq];simp) (by rw [ol];simp only [Xal] at *; omega)
   rw [show ((q++[s]).length:Int)=q.length+1 by simp,Xa2] at ih
   have e2:(q.length:Int)+1<w.steps.length:=by rw [hlen];simp only [Xal];omega
   have eK:([t.comb]++Qft (t::r):List Int)=Qft (s::t::r):=rfl
   rw [eK] at ih
   have i1:eI 2 (.int .i64 ((q.length:Int)+1)) (vSl vStp (slo w.steps))=some (.eptr (stC t) 0):=by
    have:=iaS (f:=vStp) (sz:=2) (l:=w.steps) (q:=q++[s]) (r:=r) (x:=t) (by rw [hq];simp) rfl
    rw [show ((q++[s]).length:Int)=q.length+1 by simp] at this
    exact this
   have l2:∀U,eL U false 1 (.eptr (stC t) 0)=some (.int .i64 t.comb):=fun U=>rfl
   have a1:∀U,appV false false 1 8 U (vG (V.int .i64) 1 out) (.sl [.int .i64 t.comb] .no)=some (vG (V.int .i64) 1 (out++[t.comb])):=fun U=>Qun X0o
   rw [u_Z17_1]
   clear hw hq
   generalize vSl vStp (slo w.steps)=I at *
   generalize rwC w=W at *
   generalize stC t=TC at *
   generalize Qft (s::t::r)=K at *
   simp +contextual -implicitDefEqProofs (disch:=try exact X0d) only [↓reduceIte,go_sem,b_Z17_1,j_Z17_0,e1,e2,a2,l1,n1,i1,l2,a1,c2,f1,f2,ih]
end
section
variable {p:Pln} {L:List (List Int)} (hG:PG p L)
include hG
theorem Wa4:∀(r q:List Rw) (out:List Int),p.rows=q++r→out.length≤800000 * q.length→
  l_Z17_0 (Mi cx) 0 1 [vG (V.int .i64) 1 out,vSl vRw (slo p.rows),.int .i64 p.rows.length,.int .i64 q.length] [.cells (plC p L)]=some (vIs (out++Qd5 r),[])
 |[],q,out,hq,ho=>by
  have e1:¬(q.length:Int)<p.rows.length:=by rw [hq];simp
  have hP:V.rbs 1 (plC p L)=true:=Qcl
  have f1:∀k U l,fz k U fzD (vG (V.int .i64) 1 l)=some (vG (V.int .i64) 1 l):=fun k U l=>Qar (Qdv fun _=>rfl)
  have o1:oK false (vG (V.int .i64) 1 out)=some (vIs out):=Qrw (keep:=false)
  have r1:V.rb 0 (vIs out)=true:=Qdp
  have e0:Qd5 []=[]:=rfl
  rw [u_Z17_0,e0,Xbe]
  clear hG
  generalize vIs out=O at *
  generalize plC p L=P at *
  simp +contextual -implicitDefEqProofs (disch:=try exact X0d) only [↓reduceIte,go_sem,b_Z17_0,e1,f1,o1]
 |w::r,q,out,hq,ho=>by
  have hlen:p.rows.length=q.length+r.length+1:=by rw [hq];simp;omega
  have hb:=hG.1.2.1
  have e1:(q.length:Int)<p.rows.length:=by omega
  have hw:RwB w:=hG.2.1.2 w (by rw [hq];simp)
  have hw1:=hw.1
  have hRV:V.rb 0 (vSl vRw (slo p.rows))=true:=Qaj fun n x=>Qv7
  have hRn:(vSl vRw (slo p.rows)).ng=vSl vRw (slo p.rows):=Qaf
  have i1:eI 3 (.int .i64 q.length) (vSl vRw (slo p.rows))=some (.eptr (rwC w) 0):=iaS (f:=vRw) hq rfl
  have l2:∀U,eL U true 3 (.eptr (rwC w) 0)=some (.agg (rwC w)):=fun U=>Qc3 rfl Wdp
  have s1:stV [.cells (plC p L),.cells [.int .i64 0,.nils,.str []]] 3 (.ptr 1 0) (.agg (rwC w)) (.agg (rwC w))=some (.undef,[.cells (plC p L),.cells (rwC w)]):=Qc7 rfl rfl rfl Qv9 Wdp
  have l1:Qai (vSl vStp (slo w.steps))=some (.int .i64 w.steps.length):=lenS
  have n1:(vSl vStp (slo w.steps)).ng=vSl vStp (slo w.steps):=Qaf
  have a2:=(ldo (O1:=.cells (plC p L)) (O2:=.cells []) (cs:=rwC w) (off:=1) (x:=vSl vStp (slo w.steps)) rfl n1).2
  have k1:=Qr4 (P:=plC p L) Qcl hRV hRn w hw p.rows.length q.length X0o (l_Z17_0 (Mi cx) 0 1) w.steps [] out rfl X0o
  have ih:=Wa4 r (q++[w]) (out++Qft w.steps) (by rw [hq];simp) (by rw [Xas,Qit,Xas];simp only [Xal,Xa9];omega)
  rw [show ((q++[w]).length:Int)=q.length+1 by simp,Xa2] at ih
  have e2:Qft w.steps++Qd5 r=Qd5 (w::r):=rfl
  rw [e2] at ih
  have k1':l_Z17_1 (Mi cx) 0 1 (l_Z17_0 (Mi cx) 0 1) 2 [vG (V.int .i64) 1 out,.ptr 1 0,vSl vRw (slo p.rows),.int .i64 p.rows.length,.int .i64 q.length,.int .i64 w.steps.length,.int .i64 0] [.cells (plC p L),.cells (rwC w)]=some (vIs (out++Qd5 (w::r)),[]):=k1.trans ih
  have f1:∀k U l,fz k U fzD (vG (V.int .i64) 1 l)=some (vG (V.int .i64) 1 l):=fun k U l=>Qar (Qdv fun _=>rfl)
  have f2:∀k U,fz k U fzD (vSl vRw (slo p.rows))=some (vSl vRw (slo p.rows)):=fun k U=>Qar (rb0 hRV)
  rw [u_Z17_0]
  clear hG hw k1 ih hq
  generalize vSl vStp (slo w.steps)=I at *
  generalize vSl vRw (slo p.rows)=RV at *
  generalize rwC w=W at *
  generalize plC p L=P at *
  simp +contextual -implicitDefEqProofs (disch:=try exact X0d) only [↓reduceIte,go_sem,b_Z17_0,e1,i1,l2,s1,a2,l1,n1,hRn,f1,f2,k1']
theorem Wmn (U:Objs) (hσ:Wf U):E cx 21 [.agg (plC p L)] U=some (vIs (Qd5 p.rows),U):=by
 refine Qbe Qbb ?_ (by simp only [Qag,Qa0,Qcl];rfl) Qdp U hσ
 have h:l_Z17_0 (Mi cx) 0 1 [.nils,vSl vRw (slo p.rows),.int .i64 p.rows.length,.int .i64 0] [.cells (plC p L)]=some (vIs (Qd5 p.rows),[]):=Wa4 hG p.rows [] [] rfl (Xa1 _)
 have h1:boxV [] (.agg (plC p L))=some (.ptr 0 0,[.cells (plC p L)]):=Qau Qwc Qqb
 have n1:(vSl vRw (slo p.rows)).ng=vSl vRw (slo p.rows):=Qaf
 have a1:eL [.cells (plC p L)] false 1 (.ptr 0 1)=some (vSl vRw (slo p.rows)):=by
  show some (vSl vRw (slo p.rows)).ng=_
  rw [n1]
 have l1:Qai (vSl vRw (slo p.rows))=some (.int .i64 p.rows.length):=lenS
 have f2:∀k U,fz k U fzD (vSl vRw (slo p.rows))=some (vSl vRw (slo p.rows)):=fun k U=>Qar (Qaj fun n x=>Qv7)
 rw [e_Z17]
 clear hG
 generalize vIs (Qd5 p.rows)=O at *
 generalize vSl vRw (slo p.rows)=RV at *
 generalize plC p L=P at *
 simp +contextual -implicitDefEqProofs (disch:=try exact X0d) only [↓reduceIte,go_sem,s_Z17,h1,n1,a1,l1,f2,h]
theorem Qup (w:Rw) (i:Int) (hi:0≤i∧i≤800000) (hiw:eI 3 (.int .i64 i) (vSl vRw (slo p.rows))=some (.eptr (rwC w) 0)) (hw:w.steps.length≤800000) (r1:Rk):∀(r q:List Stp) (out:List Int),w.steps=q++r→1≤q.length→out.length+r.length≤900000000000→
  l_Z3u_1 (Mi cx) 0 1 r1 1 [.ptr 0 0,vGy (V.int .i64) 1 out,.int .i64 i,.int .i64 q.length] [.cells (plD p L)]=r1 [.ptr 0 0,vGy (V.int .i64) 1 (out++(r.map Stp.comb++[0])),.int .i64 (i+1)] [.cells (plD p L)]
 |[],q,out,hq,h1,ho=>by
  have hq':w.steps.length=q.length:=by rw [hq];simp
  have e1:¬(q.length:Int)<w.steps.length:=by omega
  have e2:(0:Int)<w.steps.length:=by omega
  have hP:V.rbs 1 (plD p L)=true:=Qcg
  have n1:(vSl vRw (slo p.rows)).ng=vSl vRw (slo p.rows):=Qaf
  have a1:eL [.cells (plD p L)] false 1 (.ptr 0 1)=some (vSl vRw (slo p.rows)):=by
   show some (vSl vRw (slo p.rows)).ng=_
   rw [n1]
  have n2:(vSl vStp (slo w.steps)).ng=vSl vStp (slo w.steps):=Qaf
  have l1:∀U,eL U false 1 (.eptr (rwC w) 1)=some (vSl vStp (slo w.steps)):=fun U=>by
   show some (vSl vStp (slo w.steps)).ng=_
   rw [n2]
  have l2:Qai (vSl vStp (slo w.steps))=some (.int .i64 w.steps.length):=lenS
  have f1:∀k U l,fz k U fzD (vGy (V.int .i64) 1 l)=some (vGy (V.int .i64) 1 l):=fun k U l=>Qar (Qhj fun _ _=>rfl)
  have a2:∀U,appV false false 1 8 U (vGy (V.int .i64) 1 out) (.sl [.int .i64 0] .no)=some (vGy (V.int .i64) 1 (out++[0])):=fun U=>Quo (by simp only [Xa9] at ho;omega)
  have e0:(([]:List Stp).map Stp.comb++[0])=([0]:List Int):=rfl
  rw [u_Z3u_1,e0]
  clear hG hq
  generalize vSl vStp (slo w.steps)=I at *
  generalize vSl vRw (slo p.rows)=RV at *
  generalize rwC w=W at *
  generalize plD p L=P at *
  simp +contextual -implicitDefEqProofs (disch:=try exact X0d) only [↓reduceIte,go_sem,b_Z3u_1,j_Z3u_0,a1,n1,hiw,l1,l2,n2,e1,e2,f1,a2]
 |s::r,q,out,hq,h1,ho=>by
  have hlen:w.steps.length=q.length+r.length+1:=by rw [hq];simp;omega
  have e1:(q.length:Int)<w.steps.length:=by omega
  have hP:V.rbs 1 (plD p L)=true:=Qcg
  have n1:(vSl vRw (slo p.rows)).ng=vSl vRw (slo p.rows):=Qaf
  have a1:eL [.cells (plD p L)] false 1 (.ptr 0 1)=some (vSl vRw (slo p.rows)):=by
   show some (vSl vRw (slo p.rows)).ng=_
   rw [n1]
  have n2:(vSl vStp (slo w.steps)).ng=vSl vStp (slo w.steps):=Qaf
  have l1:∀U,eL U false 1 (.eptr (rwC w) 1)=some (vSl vStp (slo w.steps)):=fun U=>by
   show some (vSl vStp (slo w.steps)).ng=_
   rw [n2]
  have l2:Qai (vSl vStp (slo w.steps))=some (.int .i64 w.steps.length):=lenS
  have f1:∀k U l,fz k U fzD (vGy (V.int .i64) 1 l)=some (vGy (V.int .i64) 1 l):=fun k U l=>Qar (Qhj fun _ _=>rfl)
  have i1:eI 2 (.int .i64 q.length) (vSl vStp (slo w.steps))=some (.eptr (stC s) 0):=iaS (f:=vStp) hq rfl
  have l3:∀U,eL U false 1 (.eptr (stC s) 0)=some (.int .i64 s.comb):=fun U=>rfl
  have a2:∀U,appV false false 1 8 U (vGy (V.int .i64) 1 out) (.sl [.int .i64 s.comb] .no)=some (vGy (V.int .i64) 1 (out++[s.comb])):=fun U=>Quo X0o
  have ih:=Qup w i hi hiw hw r1 r (q++[s]) (out++[s.comb]) (by rw [hq];simp) (by simp) (by simp only [Xas,Xal,Xa9] at *; omega)
  rw [show ((q++[s]).length:Int)=q.length+1 by simp,Xa2] at ih
  have e0:[s.comb]++(r.map Stp.comb++[0])=((s::r).map Stp.comb++[0]):=rfl
  rw [e0] at ih
  rw [u_Z3u_1]
  clear hG hq
  generalize vSl vStp (slo w.steps)=I at *
  generalize vSl vRw (slo p.rows)=RV at *
  generalize stC s=SC at *
  generalize rwC w=W at *
  generalize plD p L=P at *
  simp +contextual -implicitDefEqProofs (disch:=try exact X0d) only [↓reduceIte,go_sem,b_Z3u_1,a1,n1,hiw,l1,l2,n2,e1,i1,l3,f1,a2,ih]
theorem Quq:∀(r q:List Rw) (out:List Int),p.rows=q++r→out.length≤800000 * q.length→
  l_Z3u_0 (Mi cx) 0 1 [.ptr 0 0,vGy (V.int .i64) 1 out,.int .i64 q.length] [.cells (plD p L)]=some (vI0 (out++Qd5 r),[])
 |[],q,out,hq,ho=>by
  have e1:¬(q.length:Int)<p.rows.length:=by rw [hq];simp
  have hP:V.rbs 1 (plD p L)=true:=Qcg
  have n1:(vSl vRw (slo p.rows)).ng=vSl vRw (slo p.rows):=Qaf
  have a1:eL [.cells (plD p L)] false 1 (.ptr 0 1)=some (vSl vRw (slo p.rows)):=by
   show some (vSl vRw (slo p.rows)).ng=_
   rw [n1]
  have l1:Qai (vSl vRw (slo p.rows))=some (.int .i64 p.rows.length):=lenS
  have f1:∀k U l,fz k U fzD (vGy (V.int .i64) 1 l)=some (vGy (V.int .i64) 1 l):=fun k U l=>Qar (Qhj fun _ _=>rfl)
  have o1:oK false (vGy (V.int .i64) 1 out)=some (vI0 out):=Wa2
  have r1:V.rb 0 (vI0 out)=true:=Qfi
  have e0:Qd5 []=[]:=rfl
  rw [u_Z3u_0,e0,Xbe]
  clear hG hq
  generalize vI0 out=O at *
  generalize vSl vRw (slo p.rows)=RV at *
  generalize plD p L=P at *
  simp +contextual -implicitDefEqProofs (disch:=try exact X0d) only [↓reduceIte,go_sem,b_Z3u_0,a1,n1,l1,e1,f1,o1]
 |w::r,q,out,hq,ho=>by
  have hlen:p.rows.length=q.length+r.length+1:=by rw [hq];simp;omega
  have hb:=hG.1.2.1
  have e1:(q.length:Int)<p.rows.length:=by omega
  have hw1:=(hG.2.1.2 w (by rw [hq];simp)).1
  have hP:V.rbs 1 (plD p L)=true:=Qcg
  have n1:(vSl vRw (slo p.rows)).ng=vSl vRw (slo p.rows):=Qaf
  have a1:eL [.cells (plD p L)] false 1 (.ptr 0 1)=some (vSl vRw (slo p.rows)):=by
   show some (vSl vRw (slo p.rows)).ng=_
   rw [n1]
  have l1:Qai (vSl vRw (slo p.rows))=some (.int .i64 p.rows.length):=lenS
  have i1:eI 3 (.int .i64 q.length) (vSl vRw (slo p.rows))=some (.eptr (rwC w) 0):=iaS (f:=vRw) hq rfl
  have f1:∀k U l,fz k U fzD (vGy (V.int .i64) 1 l)=some (vGy (V.int .i64) 1 l):=fun k U l=>Qar (Qhj fun _ _=>rfl)
  have ih:=Quq r (q++[w]) (out++Qft w.steps) (by rw [hq];simp) (by rw [Xas,Qit,Xas];simp only [Xal,Xa9];omega)
  rw [show ((q++[w]).length:Int)=q.length+1 by simp,Xa2] at ih
  have e2:Qft w.steps++Qd5 r=Qd5 (w::r):=rfl
  rw [e2] at ih
  have key:l_Z3u_1 (Mi cx) 0 1 (l_Z3u_0 (Mi cx) 0 1) 1 [.ptr 0 0,vGy (V.int .i64) 1 out,.int .i64 q.length,.int .i64 1] [.cells (plD p L)]=some (vI0 (out++Qd5 (w::r)),[]):=by
   cases hs:w.steps with
   |nil=>
    rw [hs] at ih
    have e3:Qft []=[]:=rfl
    rw [e3,Xbe] at ih
    have n2:(vSl vStp (slo w.steps)).ng=vSl vStp (slo w.steps):=Qaf
    have l2:∀U,eL U false 1 (.eptr (rwC w) 1)=some (vSl vStp (slo w.steps)):=fun U=>by
     show some (vSl vStp (slo w.steps)).ng=_
     rw [n2]
    have l3:Qai (vSl vStp (slo w.steps))=some (.int .i64 0):=by rw [lenS,hs];rfl
    rw [u_Z3u_1]
    clear hG hq
    generalize vSl vStp (slo w.steps)=I at *
    generalize vSl vRw (slo p.rows)=RV at *
    generalize rwC w=W at *
    generalize plD p L=P at *
    simp +contextual -implicitDefEqProofs (disch:=try exact X0d) only [↓reduceIte,go_sem,b_Z3u_1,j_Z3u_0,a1,n1,i1,l2,l3,n2,f1,ih]
   |cons s0 rest=>
    have k1:=Qup hG w q.length X0o i1 hw1 (l_Z3u_0 (Mi cx) 0 1) rest [s0] out hs (Xai _) (by rw [hs] at hw1;simp only [Xal] at hw1;omega)
    rw [hs,Qum] at ih
    exact k1.trans ih
  rw [u_Z3u_0]
  clear hG hq ih
  generalize vSl vRw (slo p.rows)=RV at *
  generalize plD p L=P at *
  simp +contextual -implicitDefEqProofs (disch:=try exact X0d) only [↓reduceIte,go_sem,b_Z3u_0,a1,n1,l1,e1,f1,key]
theorem Wio (U:Objs) (hσ:Wf U):E cx 22 [.agg (plD p L)] U=some (vI0 (Qd5 p.rows),U):=by
 refine Qbe Qbb ?_ (by simp only [Qag,Qa0,Qcg];rfl) Qfi U hσ
 have h:l_Z3u_0 (Mi cx) 0 1 [.ptr 0 0,.sl [] .fx,.int .i64 0] [.cells (plD p L)]=some (vI0 (Qd5 p.rows),[]):=Quq hG p.rows [] [] rfl (Xa1 _)
 have h1:boxV [] (.agg (plD p L))=some (.ptr 0 0,[.cells (plD p L)]):=Qau Qmz Qj2
 have b1:Qam false 1 0 .any []=some (.sl [] .fx):=rfl
 have f3:∀k' U,fz k' U fzD (.sl [] .fx)=some (.sl [] .fx):=fun k' U=>Qar rfl
 rw [e_Z3u]
 clear hG
 generalize vI0 (Qd5 p.rows)=O at *
 generalize plD p L=P at *
 simp +contextual -implicitDefEqProofs (disch:=try exact X0d) only [↓reduceIte,go_sem,s_Z3u,h1,b1,f3,h]
end
theorem Qqk {p:Pln} : ∀(l:List Rw),(∀w∈l,w.steps.length≤800000)→(Qd5 l).length≤800000 * l.length
 |[],_=>Xa1 _
 |w::r,h=>by
  show (Qft w.steps++Qd5 r).length≤_
  have h1:=Qqk (p:=p) r fun x hx=>h x (Xax _ hx)
  have h2:=h w (Xaw ..)
  rw [Xas,Qit,Xal]
  omega
abbrev vT0 (l:List (List UInt8)):V:=vSl V.str (.row l)
abbrev vTn (l:List (List UInt8)):V:=vSl V.str (slo l)
theorem Wa5 {n:Nat} {l:List (List UInt8)} : V.rb n (vTn l)=true:=Qaj fun _ _=>rfl
theorem Wa6 {n:Nat} {l:List (List UInt8)} : V.rb n (vT0 l)=true:=Qaj fun _ _=>rfl
theorem Qlx (l:List (List UInt8)) (hl:l.length≤10000000000000):∀(r q:List (List UInt8)),l=q++r→
  l_Z28_0 (Mi cx) 0 0 [vTn l,vT0 l,.int .i64 q.length] []=some (.bool true,[])
 |[],q,hq=>by
  have e1:¬(q.length:Int)<l.length:=by rw [hq];simp
  have l1:Qai (vTn l)=some (.int .i64 l.length):=lenS
  have n1:(vTn l).ng=vTn l:=Qaf
  rw [u_Z28_0]
  generalize vTn l=I at *
  simp +contextual -implicitDefEqProofs (disch:=try exact X0d) only [↓reduceIte,go_sem,b_Z28_0,l1,n1,e1]
 |x::r,q,hq=>by
  have hlen:l.length=q.length+r.length+1:=by rw [hq];simp;omega
  have e1:(q.length:Int)<l.length:=by omega
  have l1:Qai (vTn l)=some (.int .i64 l.length):=lenS
  have n1:(vTn l).ng=vTn l:=Qaf
  have n2:(vT0 l).ng=vT0 l:=Qaf
  have i1:eI 1 (.int .i64 q.length) (vTn l)=some (.eptr [.str x] 0):=iaS hq rfl
  have i2:eI 1 (.int .i64 q.length) (vT0 l)=some (.eptr [.str x] 0):=Qax (f:=V.str) (s:=.row l) hq rfl rfl
  have f1:∀k U,fz k U fzD (vTn l)=some (vTn l):=fun k U=>Qar Wa5
  have f2:∀k U,fz k U fzD (vT0 l)=some (vT0 l):=fun k U=>Qar Wa6
  have ih:=Qlx l hl r (q++[x]) (by rw [hq];simp)
  rw [show ((q++[x]).length:Int)=q.length+1 by simp] at ih
  rw [u_Z28_0]
  generalize vTn l=I at *
  generalize vT0 l=Jww at *
  simp +contextual -implicitDefEqProofs (disch:=try exact X0d) only [↓reduceIte,go_sem,b_Z28_0,l1,n1,n2,e1,i1,i2,f1,f2,ih]
theorem Wip (l:List (List UInt8)) (hl:l.length≤10000000000000) (U:Objs) (hσ:Wf U):E cx 23 [vTn l,vT0 l] U=some (.bool true,U):=by
 refine Qbe Qbb ?_ (by simp only [Qag,Wa5,Wa6];rfl) rfl U hσ
 have h:l_Z28_0 (Mi cx) 0 0 [vTn l,vT0 l,.int .i64 0] []=some (.bool true,[]):=Qlx l hl l [] rfl
 have l1:Qai (vTn l)=some (.int .i64 l.length):=lenS
 have l2:Qai (vT0 l)=some (.int .i64 l.length):=Qah
 have n1:(vTn l).ng=vTn l:=Qaf
 have n2:(vT0 l).ng=vT0 l:=Qaf
 have f1:∀k U,fz k U fzD (vTn l)=some (vTn l):=fun k U=>Qar Wa5
 have f2:∀k U,fz k U fzD (vT0 l)=some (vT0 l):=fun k U=>Qar Wa6
 rw [e_Z28]
 generalize vTn l=I at *
 generalize vT0 l=Jww at *
 simp +contextual -implicitDefEqProofs (disch:=try exact X0d) only [↓reduceIte,go_sem,s_Z28,l1,l2,n1,n2,f1,f2,h]
def addT (out:List (List UInt8)) (s:List UInt8):List (List UInt8):=if hasS out s=true then out else out++[s]
theorem Qok {out:List (List UInt8)} {s:List UInt8} : (addT out s).length≤out.length+1:=by
 unfold addT
 split
 ·omega
 ·simp
def psd1 (rows:List Rw):List (List UInt8)→List Int→List (List UInt8)
 |out,[]=>out
 |out,x::r=>psd1 rows (addT out (rows.getD x.toNat ⟨0,[],[]⟩).pseudo) r
def psd0 (rows:List Rw):List (List UInt8)→List (List Int)→List (List UInt8)
 |out,[]=>out
 |out,x::r=>psd0 rows (psd1 rows out x) r
theorem Qko {rows:List Rw} : ∀(l:List Int) (out:List (List UInt8)),(psd1 rows out l).length≤out.length+l.length
 |[],out=>Xai _
 |x::r,out=>by
  have h1:=Qko (rows:=rows) r (addT out (rows.getD x.toNat ⟨0,[],[]⟩).pseudo)
  have h2:=Qok (out:=out) (s:=(rows.getD x.toNat ⟨0,[],[]⟩).pseudo)
  show (psd1 rows (addT out (rows.getD x.toNat ⟨0,[],[]⟩).pseudo) r).length≤_
  rw [Xal]
  omega
theorem Qur {rows:List Rw} : ∀(l:List (List Int)) (out:List (List UInt8)),(∀x∈l,x.length≤800000)→(psd0 rows out l).length≤out.length+800000 * l.length
 |[],out,_=>Xai _
 |x::r,out,h=>by
  have h1:=Qur (rows:=rows) r (psd1 rows out x) fun y hy=>h y (Xax _ hy)
  have h2:=Qko (rows:=rows) x out
  have h3:=h x (Xaw ..)
  show (psd0 rows (psd1 rows out x) r).length≤_
  rw [Xal]
  omega
theorem Wmo {U:Objs} {l:List (List UInt8)} {x:List UInt8} {c:Cap} (hl:l.length≤1000000000):appV false false 1 16 U (vG V.str 1 l) (.sl [.str x] c)=some (vG V.str 1 (l++[x])):=
 Qfh (fun _=>rfl) (fun _=>rfl) (fun _=>rfl) (by unfold Qbj;omega)
theorem Wmp {U:Objs} {l:List (List UInt8)} {x:List UInt8} {c:Cap} (hl:l.length≤1000000000):appV false false 1 16 U (vGy V.str 1 l) (.sl [.str x] c)=some (vGy V.str 1 (l++[x])):=
 Wa3 (f:=V.str) (fun _=>rfl) (fun _=>rfl) (fun _=>rfl) (by unfold Qbj;omega)
section
variable {p:Pln} {L:List (List Int)} (hG:PG p L)
include hG
theorem Wfg (X:List Int) (hX:X∈L) (LV:V) (hLV:∀k,V.rb k LV=true) (len i:Int) (hi:0≤i∧i≤800000) (r1:Rk):∀(r q:List Int) (out:List (List UInt8)),X=q++r→out.length+r.length≤100000000→
  l_Z19_1 (Mi cx) 0 1 r1 1 [.ptr 0 0,vG V.str 1 out,LV,.int .i64 len,.int .i64 i,vIs X,.int .i64 X.length,.int .i64 q.length] [.cells (plC p L)]=r1 [.ptr 0 0,vG V.str 1 (psd1 p.rows out r),LV,.int .i64 len,.int .i64 (i+1)] [.cells (plC p L)]
 |[],q,out,hq,ho=>by
  have e1:¬(q.length:Int)<X.length:=by rw [hq];simp
  have hP:V.rbs 1 (plC p L)=true:=Qcl
  have f1:∀k U l,fz k U fzD (vG V.str 1 l)=some (vG V.str 1 l):=fun k U l=>Qar (Qdv fun _=>rfl)
  have f2:∀k U,fz k U fzD LV=some LV:=fun k U=>Qar (hLV k)
  have e0:psd1 p.rows out []=out:=rfl
  rw [u_Z19_1,e0]
  clear hG hX hq
  generalize plC p L=P at *
  simp +contextual -implicitDefEqProofs (disch:=try exact X0d) only [↓reduceIte,go_sem,b_Z19_1,e1,f1,f2]
 |x::r,q,out,hq,ho=>by
  have hlen:X.length=q.length+r.length+1:=by rw [hq];simp;omega
  have hXl:=(hG.2.2.1 X hX).1
  have hrl:=hG.1.2.1
  obtain ⟨x1,x2⟩:=(hG.2.2.1 X hX).2 x (by rw [hq];simp)
  have e1:(q.length:Int)<X.length:=by omega
  have e2:¬x<0:=by omega
  have e3:¬(p.rows.length:Int)≤x:=by omega
  have hP:V.rbs 1 (plC p L)=true:=Qcl
  have hw:Wf [.cells (plC p L)]:=Qa9 (Qab Qcl Qaq)
  have f1:∀k U l,fz k U fzD (vG V.str 1 l)=some (vG V.str 1 l):=fun k U l=>Qar (Qdv fun _=>rfl)
  have f2:∀k U,fz k U fzD LV=some LV:=fun k U=>Qar (hLV k)
  have f3:∀k U,fz k U fzD (vIs X)=some (vIs X):=fun k U=>Qar Qdp
  have i1:eI 1 (.int .i64 q.length) (vIs X)=some (.eptr [.int .i64 x] 0):=iaS hq rfl
  have nX:(vIs X).ng=vIs X:=Qaf
  have n1:(vSl vRw (slo p.rows)).ng=vSl vRw (slo p.rows):=Qaf
  have a1:eL [.cells (plC p L)] false 1 (.ptr 0 1)=some (vSl vRw (slo p.rows)):=by
   show some (vSl vRw (slo p.rows)).ng=_
   rw [n1]
  have l1:Qai (vSl vRw (slo p.rows))=some (.int .i64 p.rows.length):=lenS
  have i2:eI 3 (.int .i64 x) (vSl vRw (slo p.rows))=some (.eptr (rwC (p.rows.getD x.toNat ⟨0,[],[]⟩)) 0):=Qcv (f:=vRw) (by rw [Qfg];exact Qex X0o _) x1 rfl
  generalize hw0:p.rows.getD x.toNat ⟨0,[],[]⟩=w at *
  have l2:∀U,eL U false 1 (.eptr (rwC w) 2)=some (.str w.pseudo):=fun U=>rfl
  have k1:=Qfc (slo out) w.pseudo (by rw [Qfg];omega) _ hw
  rw [Qfg] at k1
  have nO:(vG V.str 1 out).ng.ng=vTn out:=by rw [n_vG,Qaf]
  have hst:psd1 p.rows out (x::r)=psd1 p.rows (addT out w.pseudo) r:=by rw [←hw0];rfl
  have hal:=Qok (out:=out) (s:=w.pseudo)
  have ih:=Wfg X hX LV hLV len i hi r1 r (q++[x]) (addT out w.pseudo) (by rw [hq];simp) (by rw [Xal] at ho;omega)
  rw [show ((q++[x]).length:Int)=q.length+1 by simp] at ih
  rw [hst,u_Z19_1]
  unfold addT at ih ⊢
  cases c:hasS out w.pseudo with
  |true=>
   rw [c] at k1 ih
   simp only [if_true] at ih ⊢
   clear hG hX hq hw hst hw0
   generalize rwC w=W at *
   generalize vIs X=XV at *
   generalize vSl vRw (slo p.rows)=RV at *
   generalize plC p L=P at *
   simp +contextual -implicitDefEqProofs (disch:=try exact X0d) only [↓reduceIte,go_sem,b_Z19_1,j_Z19_0,e1,i1,nX,e2,a1,n1,l1,e3,i2,l2,nO,n_vG,Qaf,k1,f1,f2,f3,ih]
  |false=>
   rw [c] at k1 ih
   simp only [Xaj,if_false] at ih ⊢
   have ap:∀U,appV false false 1 16 U (vG V.str 1 out) (.sl [.str w.pseudo] .no)=some (vG V.str 1 (out++[w.pseudo])):=fun U=>Wmo (by rw [Xal] at ho;omega)
   clear hG hX hq hw hst hw0
   generalize rwC w=W at *
   generalize vIs X=XV at *
   generalize vSl vRw (slo p.rows)=RV at *
   generalize plC p L=P at *
   simp +contextual -implicitDefEqProofs (disch:=try exact X0d) only [↓reduceIte,go_sem,b_Z19_1,j_Z19_0,e1,i1,nX,e2,a1,n1,l1,e3,i2,l2,nO,n_vG,Qaf,k1,ap,f1,f2,f3,ih]
theorem Wfh:∀(r q:List (List Int)) (out:List (List UInt8)),L=q++r→out.length≤800000 * q.length→
  l_Z19_0 (Mi cx) 0 1 [.ptr 0 0,vG V.str 1 out,vSl vIs (slo L),.int .i64 L.length,.int .i64 q.length] [.cells (plC p L)]=some (vTn (psd0 p.rows out r),[])
 |[],q,out,hq,ho=>by
  have e1:¬(q.length:Int)<L.length:=by rw [hq];simp
  have hP:V.rbs 1 (plC p L)=true:=Qcl
  have f1:∀k U l,fz k U fzD (vG V.str 1 l)=some (vG V.str 1 l):=fun k U l=>Qar (Qdv fun _=>rfl)
  have o1:oK false (vG V.str 1 out)=some (vTn out):=Qrw (keep:=false)
  have r1:V.rb 0 (vTn out)=true:=Wa5
  have e0:psd0 p.rows out []=out:=rfl
  rw [u_Z19_0,e0]
  clear hG hq
  generalize vTn out=O at *
  generalize plC p L=P at *
  simp +contextual -implicitDefEqProofs (disch:=try exact X0d) only [↓reduceIte,go_sem,b_Z19_0,e1,f1,o1]
 |X::r,q,out,hq,ho=>by
  have hlen:L.length=q.length+r.length+1:=by rw [hq];simp;omega
  have hb:=hG.2.2.2
  have hXm:X∈L:=by rw [hq];simp
  have hXl:=(hG.2.2.1 X hXm).1
  have e1:(q.length:Int)<L.length:=by omega
  have i1:eI 1 (.int .i64 q.length) (vSl vIs (slo L))=some (.eptr [vIs X] 0):=by
   have:=iaS (f:=vIs) (sz:=1) hq (by rw [Qbw];rfl)
   rw [Qbw] at this
   exact this
  have nX:(vIs X).ng=vIs X:=Qaf
  have l2:∀U,eL U false 1 (.eptr [vIs X] 0)=some (vIs X):=fun U=>by
   show some (vIs X).ng=_
   rw [nX]
  have l3:Qai (vIs X)=some (.int .i64 X.length):=lenS
  have nL:(vSl vIs (slo L)).ng=vSl vIs (slo L):=Qaf
  have f1:∀k U l,fz k U fzD (vG V.str 1 l)=some (vG V.str 1 l):=fun k U l=>Qar (Qdv fun _=>rfl)
  have f2:∀k U,fz k U fzD (vSl vIs (slo L))=some (vSl vIs (slo L)):=fun k U=>Qar (Qaj fun n x=>Qdp)
  have f3:∀k U,fz k U fzD (vIs X)=some (vIs X):=fun k U=>Qar Qdp
  have k1:=Wfg hG X hXm (vSl vIs (slo L)) (fun k=>Qaj fun n x=>Qdp) L.length q.length X0o (l_Z19_0 (Mi cx) 0 1) X [] out rfl X0o
  have hpl:=Qko (rows:=p.rows) X out
  have ih:=Wfh r (q++[X]) (psd1 p.rows out X) (by rw [hq];simp) (by rw [Xas];simp only [Xal,Xa9];omega)
  rw [show ((q++[X]).length:Int)=q.length+1 by simp] at ih
  have e2:psd0 p.rows (psd1 p.rows out X) r=psd0 p.rows out (X::r):=rfl
  rw [e2] at ih
  have k1':l_Z19_1 (Mi cx) 0 1 (l_Z19_0 (Mi cx) 0 1) 1 [.ptr 0 0,vG V.str 1 out,vSl vIs (slo L),.int .i64 L.length,.int .i64 q.length,vIs X,.int .i64 X.length,.int .i64 0] [.cells (plC p L)]=some (vTn (psd0 p.rows out (X::r)),[]):=k1.trans ih
  have hP:V.rbs 1 (plC p L)=true:=Qcl
  rw [u_Z19_0]
  clear hG k1 ih hq hXm
  generalize vIs X=XV at *
  generalize vSl vIs (slo L)=LV at *
  generalize plC p L=P at *
  simp +contextual -implicitDefEqProofs (disch:=try exact X0d) only [↓reduceIte,go_sem,b_Z19_0,e1,i1,l2,l3,nX,nL,f1,f2,f3,k1']
theorem Qr5 (U:Objs) (hσ:Wf U):E cx 24 [.agg (plC p L)] U=some (vTn (psd0 p.rows [] L),U):=by
 refine Qbe Qbb ?_ (by simp only [Qag,Qa0,Qcl];rfl) Wa5 U hσ
 have h:l_Z19_0 (Mi cx) 0 1 [.ptr 0 0,.nils,vSl vIs (slo L),.int .i64 L.length,.int .i64 0] [.cells (plC p L)]=some (vTn (psd0 p.rows [] L),[]):=Wfh hG L [] [] rfl (Xa1 _)
 have h1:boxV [] (.agg (plC p L))=some (.ptr 0 0,[.cells (plC p L)]):=Qau Qwc Qqb
 have n1:(vSl vIs (slo L)).ng=vSl vIs (slo L):=Qaf
 have a1:eL [.cells (plC p L)] false 1 (.ptr 0 3)=some (vSl vIs (slo L)):=by
  show some (vSl vIs (slo L)).ng=_
  rw [n1]
 have l1:Qai (vSl vIs (slo L))=some (.int .i64 L.length):=lenS
 have f2:∀k U,fz k U fzD (vSl vIs (slo L))=some (vSl vIs (slo L)):=fun k U=>Qar (Qaj fun n x=>Qdp)
 rw [e_Z19]
 clear hG
 generalize vTn (psd0 p.rows [] L)=O at *
 generalize vSl vIs (slo L)=LV at *
 generalize plC p L=P at *
 simp +contextual -implicitDefEqProofs (disch:=try exact X0d) only [↓reduceIte,go_sem,s_Z19,h1,n1,a1,l1,f2,h]
theorem Wa7 (X:List Int) (hX:X∈L) (i:Int) (hi:0≤i∧i≤800000) (hiX:eI 1 (.int .i64 i) (vSl vI0 (slo L))=some (.eptr [vI0 X] 0)) (r1:Rk):∀(r q:List Int) (out:List (List UInt8)),X=q++r→out.length+r.length≤100000000→
  l_Z3w_1 (Mi cx) 0 1 r1 1 [.ptr 0 0,vGy V.str 1 out,.int .i64 i,.int .i64 q.length] [.cells (plD p L)]=r1 [.ptr 0 0,vGy V.str 1 (psd1 p.rows out r),.int .i64 (i+1)] [.cells (plD p L)]
 |[],q,out,hq,ho=>by
  have e1:¬(q.length:Int)<X.length:=by rw [hq];simp
  have hP:V.rbs 1 (plD p L)=true:=Qcg
  have nL:(vSl vI0 (slo L)).ng=vSl vI0 (slo L):=Qaf
  have a2:eL [.cells (plD p L)] false 1 (.ptr 0 3)=some (vSl vI0 (slo L)):=by
   show some (vSl vI0 (slo L)).ng=_
   rw [nL]
  have nX:(vI0 X).ng=vI0 X:=Qaf
  have l3:∀U,eL U false 1 (.eptr [vI0 X] 0)=some (vI0 X):=fun U=>rfl
  have l4:Qai (vI0 X)=some (.int .i64 X.length):=Qah
  have f1:∀k U l,fz k U fzD (vGy V.str 1 l)=some (vGy V.str 1 l):=fun k U l=>Qar (Qhj fun _ _=>rfl)
  have e0:psd1 p.rows out []=out:=rfl
  rw [u_Z3w_1,e0]
  clear hG hX hq
  generalize vI0 X=XV at *
  generalize vSl vI0 (slo L)=LV at *
  generalize plD p L=P at *
  simp +contextual -implicitDefEqProofs (disch:=try exact X0d) only [↓reduceIte,go_sem,b_Z3w_1,a2,nL,hiX,l3,l4,nX,e1,f1]
 |x::r,q,out,hq,ho=>by
  have hlen:X.length=q.length+r.length+1:=by rw [hq];simp;omega
  have hXl:=(hG.2.2.1 X hX).1
  have hrl:=hG.1.2.1
  obtain ⟨x1,x2⟩:=(hG.2.2.1 X hX).2 x (by rw [hq];simp)
  have e1:(q.length:Int)<X.length:=by omega
  have hP:V.rbs 1 (plD p L)=true:=Qcg
  have hw:Wf [.cells (plD p L)]:=Qa9 (Qab Qcg Qaq)
  have nL:(vSl vI0 (slo L)).ng=vSl vI0 (slo L):=Qaf
  have a2:eL [.cells (plD p L)] false 1 (.ptr 0 3)=some (vSl vI0 (slo L)):=by
   show some (vSl vI0 (slo L)).ng=_
   rw [nL]
  have nX:(vI0 X).ng=vI0 X:=Qaf
  have l3:∀U,eL U false 1 (.eptr [vI0 X] 0)=some (vI0 X):=fun U=>rfl
  have l4:Qai (vI0 X)=some (.int .i64 X.length):=Qah
  have f1:∀k U l,fz k U fzD (vGy V.str 1 l)=some (vGy V.str 1 l):=fun k U l=>Qar (Qhj fun _ _=>rfl)
  have i1:eI 1 (.int .i64 q.length) (vI0 X)=some (.eptr [.int .i64 x] 0):=Qax (f:=V.int .i64) (s:=.row X) hq rfl rfl
  have n1:(vSl vRw (slo p.rows)).ng=vSl vRw (slo p.rows):=Qaf
  have a1:eL [.cells (plD p L)] false 1 (.ptr 0 1)=some (vSl vRw (slo p.rows)):=by
   show some (vSl vRw (slo p.rows)).ng=_
   rw [n1]
  have i2:eI 3 (.int .i64 x) (vSl vRw (slo p.rows))=some (.eptr (rwC (p.rows.getD x.toNat ⟨0,[],[]⟩)) 0):=Qcv (f:=vRw) (by rw [Qfg];exact Qex X0o _) x1 rfl
  generalize hw0:p.rows.getD x.toNat ⟨0,[],[]⟩=w at *
  have l2:∀U,eL U false 1 (.eptr (rwC w) 2)=some (.str w.pseudo):=fun U=>rfl
  have k1:=Qis (.row out) w.pseudo (by rw [Wia];omega) _ hw
  rw [Wia] at k1
  have nO:(vGy V.str 1 out).ng=vT0 out:=Wmm
  have nO2:(vT0 out).ng=vT0 out:=Qaf
  have hst:psd1 p.rows out (x::r)=psd1 p.rows (addT out w.pseudo) r:=by rw [←hw0];rfl
  have hal:=Qok (out:=out) (s:=w.pseudo)
  have ih:=Wa7 X hX i hi hiX r1 r (q++[x]) (addT out w.pseudo) (by rw [hq];simp) (by rw [Xal] at ho;omega)
  rw [show ((q++[x]).length:Int)=q.length+1 by simp] at ih
  rw [hst,u_Z3w_1]
  unfold addT at ih ⊢
  cases c:hasS out w.pseudo with
  |true=>
   rw [c] at k1 ih
   simp only [if_true] at ih ⊢
   clear hG hX hq hw hst hw0
   generalize rwC w=W at *
   generalize vI0 X=XV at *
   generalize vSl vI0 (slo L)=LV at *
   generalize vSl vRw (slo p.rows)=RV at *
   generalize plD p L=P at *
   simp +contextual -implicitDefEqProofs (disch:=try exact X0d) only [↓reduceIte,go_sem,b_Z3w_1,j_Z3w_0,a2,nL,hiX,l3,l4,nX,e1,i1,a1,n1,i2,l2,nO,nO2,k1,f1,ih]
  |false=>
   rw [c] at k1 ih
   simp only [Xaj,if_false] at ih ⊢
   have ap:∀U,appV false false 1 16 U (vGy V.str 1 out) (.sl [.str w.pseudo] .no)=some (vGy V.str 1 (out++[w.pseudo])):=fun U=>Wmp (by rw [Xal] at ho;omega)
   clear hG hX hq hw hst hw0
   generalize rwC w=W at *
   generalize vI0 X=XV at *
   generalize vSl vI0 (slo L)=LV at *
   generalize vSl vRw (slo p.rows)=RV at *
   generalize plD p L=P at *
   simp +contextual -implicitDefEqProofs (disch:=try exact X0d) only [↓reduceIte,go_sem,b_Z3w_1,j_Z3w_0,a2,nL,hiX,l3,l4,nX,e1,i1,a1,n1,i2,l2,nO,nO2,k1,ap,f1,ih]
theorem Wa8:∀(r q:List (List Int)) (out:List (List UInt8)),L=q++r→out.length≤800000 * q.length→
  l_Z3w_0 (Mi cx) 0 1 [.ptr 0 0,vGy V.str 1 out,.int .i64 q.length] [.cells (plD p L)]=some (vT0 (psd0 p.rows out r),[])
 |[],q,out,hq,ho=>by
  have e1:¬(q.length:Int)<L.length:=by rw [hq];simp
  have hP:V.rbs 1 (plD p L)=true:=Qcg
  have nL:(vSl vI0 (slo L)).ng=vSl vI0 (slo L):=Qaf
  have a2:eL [.cells (plD p L)] false 1 (.ptr 0 3)=some (vSl vI0 (slo L)):=by
   show some (vSl vI0 (slo L)).ng=_
   rw [nL]
  have l1:Qai (vSl vI0 (slo L))=some (.int .i64 L.length):=lenS
  have f1:∀k U l,fz k U fzD (vGy V.str 1 l)=some (vGy V.str 1 l):=fun k U l=>Qar (Qhj fun _ _=>rfl)
  have o1:oK false (vGy V.str 1 out)=some (vT0 out):=Wa2
  have r1:V.rb 0 (vT0 out)=true:=Wa6
  have e0:psd0 p.rows out []=out:=rfl
  rw [u_Z3w_0,e0]
  clear hG hq
  generalize vT0 out=O at *
  generalize vSl vI0 (slo L)=LV at *
  generalize plD p L=P at *
  simp +contextual -implicitDefEqProofs (disch:=try exact X0d) only [↓reduceIte,go_sem,b_Z3w_0,a2,nL,l1,e1,f1,o1]
 |X::r,q,out,hq,ho=>by
  have hlen:L.length=q.length+r.length+1:=by rw [hq];simp;omega
  have hb:=hG.2.2.2
  have hXm:X∈L:=by rw [hq];simp
  have hXl:=(hG.2.2.1 X hXm).1
  have e1:(q.length:Int)<L.length:=by omega
  have i1:eI 1 (.int .i64 q.length) (vSl vI0 (slo L))=some (.eptr [vI0 X] 0):=iaS (f:=vI0) (sz:=1) hq rfl
  have nL:(vSl vI0 (slo L)).ng=vSl vI0 (slo L):=Qaf
  have a2:eL [.cells (plD p L)] false 1 (.ptr 0 3)=some (vSl vI0 (slo L)):=by
   show some (vSl vI0 (slo L)).ng=_
   rw [nL]
  have l1:Qai (vSl vI0 (slo L))=some (.int .i64 L.length):=lenS
  have f1:∀k U l,fz k U fzD (vGy V.str 1 l)=some (vGy V.str 1 l):=fun k U l=>Qar (Qhj fun _ _=>rfl)
  have k1:=Wa7 hG X hXm q.length X0o i1 (l_Z3w_0 (Mi cx) 0 1) X [] out rfl X0o
  have hpl:=Qko (rows:=p.rows) X out
  have ih:=Wa8 r (q++[X]) (psd1 p.rows out X) (by rw [hq];simp) (by rw [Xas];simp only [Xal,Xa9];omega)
  rw [show ((q++[X]).length:Int)=q.length+1 by simp] at ih
  have e2:psd0 p.rows (psd1 p.rows out X) r=psd0 p.rows out (X::r):=rfl
  rw [e2] at ih
  have k1':l_Z3w_1 (Mi cx) 0 1 (l_Z3w_0 (Mi cx) 0 1) 1 [.ptr 0 0,vGy V.str 1 out,.int .i64 q.length,.int .i64 0] [.cells (plD p L)]=some (vT0 (psd0 p.rows out (X::r)),[]):=k1.trans ih
  have hP:V.rbs 1 (plD p L)=true:=Qcg
  rw [u_Z3w_0]
  clear hG k1 ih hq hXm i1
  generalize vSl vI0 (slo L)=LV at *
  generalize plD p L=P at *
  simp +contextual -implicitDefEqProofs (disch:=try exact X0d) only [↓reduceIte,go_sem,b_Z3w_0,a2,nL,l1,e1,f1,k1']
theorem Qwg (U:Objs) (hσ:Wf U):E cx 25 [.agg (plD p L)] U=some (vT0 (psd0 p.rows [] L),U):=by
 refine Qbe Qbb ?_ (by simp only [Qag,Qa0,Qcg];rfl) Wa6 U hσ
 have h:l_Z3w_0 (Mi cx) 0 1 [.ptr 0 0,.sl [] .fx,.int .i64 0] [.cells (plD p L)]=some (vT0 (psd0 p.rows [] L),[]):=Wa8 hG L [] [] rfl (Xa1 _)
 have h1:boxV [] (.agg (plD p L))=some (.ptr 0 0,[.cells (plD p L)]):=Qau Qmz Qj2
 have b1:Qam false 1 0 .any []=some (.sl [] .fx):=rfl
 have f3:∀k' U,fz k' U fzD (.sl [] .fx)=some (.sl [] .fx):=fun k' U=>Qar rfl
 rw [e_Z3w]
 clear hG
 generalize vT0 (psd0 p.rows [] L)=O at *
 generalize plD p L=P at *
 simp +contextual -implicitDefEqProofs (disch:=try exact X0d) only [↓reduceIte,go_sem,s_Z3w,h1,b1,f3,h]
end
def spH (a b:Int):Int:=if 0<a then (if 0<b - 1 then b - 1 else 0) else if 0<b then b else 0
def spR (a:Int):Int:=if a=0 then 1 else if 0≤a then a else 0 - a
def absI (a:Int):Int:=if 0≤a then a else 0 - a
theorem mmF (x y:Int):mmV false [.int .i64 x,.int .i64 y]=some (.int .i64 (if y<x then y else x)):=rfl
theorem mmT (x y:Int):mmV true [.int .i64 x,.int .i64 y]=some (.int .i64 (if y > x then y else x)):=rfl
theorem Wiq (a:Int) (h:-1000000≤a∧a≤1000000) (U:Objs) (hσ:Wf U):E cx 65 [.int .i64 a] U=some (.int .i64 (absI a),U):=by
 refine Qbe Qbb ?_ rfl rfl U hσ
 have m1:mmV true [.int .i64 a,.int .i64 (0 - a)]=some (.int .i64 (absI a)):=by
  rw [mmT]
  unfold absI
  split <;> split <;> first|rfl|(congr 2;omega)
 have e1:¬a < -4611686018427387904:=by omega
 have e2:¬(4611686018427387904:Int)<a:=by omega
 rw [e_Z1g]
 simp +contextual -implicitDefEqProofs (disch:=try exact X0d) only [↓reduceIte,go_sem,s_Z1g,e1,e2,m1]
theorem Wmq (A:Int) (h:1≤A∧A≤1000000) (U:Objs) (hσ:Wf U):E cx 89 [.int .i64 1,.int .i64 A] U=some (.int .i64 1,U):=by
 refine Qbe Qbb ?_ rfl rfl U hσ
 have k0:l_Z1f_0 (Mi cx) 0 0 [.int .i64 1,.int .i64 0] []=some (.int .i64 1,[]):=by
  rw [u_Z1f_0]
  simp +contextual -implicitDefEqProofs (disch:=try exact X0d) only [↓reduceIte,go_sem,b_Z1f_0]
 have ha:(0:Int)<A:=by omega
 have ha0:¬A=0:=by omega
 have key:l_Z1f_0 (Mi cx) 0 0 [.int .i64 1,.int .i64 A] []=some (.int .i64 1,[]):=by
  by_cases c:A=1
  ·subst c
   have t:(1:Int).tmod 1=0:=by decide
   rw [u_Z1f_0]
   simp +contextual -implicitDefEqProofs (disch:=try exact X0d) only [↓reduceIte,go_sem,b_Z1f_0,t,k0]
  ·have t1:(1:Int).tmod A=1:=Int.tmod_eq_of_lt X0o X0o
   have t2:A.tmod 1=0:=Int.tmod_one A
   have k1:l_Z1f_0 (Mi cx) 0 0 [.int .i64 A,.int .i64 1] []=some (.int .i64 1,[]):=by
    rw [u_Z1f_0]
    simp +contextual -implicitDefEqProofs (disch:=try exact X0d) only [↓reduceIte,go_sem,b_Z1f_0,t2,k0]
   rw [u_Z1f_0]
   simp +contextual -implicitDefEqProofs (disch:=try exact X0d) only [↓reduceIte,go_sem,b_Z1f_0,ha,ha0,t1,k1]
 rw [e_Z1f]
 simp +contextual -implicitDefEqProofs (disch:=try exact X0d) only [↓reduceIte,go_sem,s_Z1f,key]
theorem Wmr (A:Int) (h:1≤A∧A≤1000000) (U:Objs) (hσ:Wf U):E cx 66 [.int .i64 1,.int .i64 A] U=some (.int .i64 1,U):=by
 refine Qbe Qbb ?_ rfl rfl U hσ
 have k0:l_Z36_0 (Mi cx) 0 0 [.int .i64 1,.int .i64 0] []=some (.int .i64 1,[]):=by
  rw [u_Z36_0]
  simp +contextual -implicitDefEqProofs (disch:=try exact X0d) only [↓reduceIte,go_sem,b_Z36_0]
 have ha0:¬A=0:=by omega
 have key:l_Z36_0 (Mi cx) 0 0 [.int .i64 1,.int .i64 A] []=some (.int .i64 1,[]):=by
  by_cases c:A=1
  ·subst c
   have t:(1:Int).tmod 1=0:=by decide
   rw [u_Z36_0]
   simp +contextual -implicitDefEqProofs (disch:=try exact X0d) only [↓reduceIte,go_sem,b_Z36_0,t,k0]
  ·have t1:(1:Int).tmod A=1:=Int.tmod_eq_of_lt X0o X0o
   have t2:A.tmod 1=0:=Int.tmod_one A
   have k1:l_Z36_0 (Mi cx) 0 0 [.int .i64 A,.int .i64 1] []=some (.int .i64 1,[]):=by
    rw [u_Z36_0]
    simp +contextual -implicitDefEqProofs (disch:=try exact X0d) only [↓reduceIte,go_sem,b_Z36_0,t2,k0]
   rw [u_Z36_0]
   simp +contextual -implicitDefEqProofs (disch:=try exact X0d) only [↓reduceIte,go_sem,b_Z36_0,ha0,t1,k1]
 rw [e_Z36]
 simp +contextual -implicitDefEqProofs (disch:=try exact X0d) only [↓reduceIte,go_sem,s_Z36,key]
theorem Qus (A:Int) (h:1≤A∧A≤1000000):1≤(4611686018427387904:Int).tdiv A∧(4611686018427387904:Int).tdiv A≤4611686018427387904:=by
 rw [Qla ⟨by decide,by omega⟩]
 constructor
 ·exact (Int.le_ediv_iff_mul_le X0o).2 X0o
 ·exact Int.ediv_le_self _ (by decide)
theorem Wa9 (A:Int) (h:1≤A∧A≤1000000) (U:Objs) (hσ:Wf U):E cx 64 [.int .i64 1,.int .i64 A] U=some (.int .i64 A,U):=by
 refine Qbe Qbb ?_ rfl rfl U hσ
 have k1:=Wmq A h [] Qs4
 have t1:A.tdiv 1=A:=Int.tdiv_one A
 have ha0:¬A=0:=by omega
 obtain ⟨q1,q2⟩:=Qus A h
 rw [e_Z1e]
 generalize hQ:(4611686018427387904:Int).tdiv A=Q at *
 have e1:¬Q<1:=by omega
 have t2:1 * A=A:=Int.one_mul A
 simp +contextual -implicitDefEqProofs (disch:=try exact X0d) only [↓reduceIte,go_sem,s_Z1e,k1,t1,ha0,hQ,e1,t2]
section
variable (a b:Int) (h:(-1000000≤a∧a≤1000000)∧-1000000≤b∧b≤1000000)
include h
theorem Wir (U:Objs) (hσ:Wf U):E cx 44 [.sl [.agg [.int .i64 a,.int .i64 b]] .no] U=some (.tup [.int .i64 (spH a b),.int .i64 (spR a)],U):=by
 refine Qbe Qbb ?_ rfl rfl U hσ
 obtain ⟨⟨h1,h2⟩,h3,h4⟩:=h
 have f1:∀k U,fz k U fzD (.sl [.agg [.int .i64 a,.int .i64 b]] .no)=some (.sl [.agg [.int .i64 a,.int .i64 b]] .no):=fun k U=>Qar rfl
 have fin:∀x y:Int,l_Z1d_0 (Mi cx) 0 0 [.int .i64 x,.int .i64 y,.sl [.agg [.int .i64 a,.int .i64 b]] .no,.int .i64 1,.int .i64 1] []=some (.tup [.int .i64 x,.int .i64 y],[]):=fun x y=>by
  rw [u_Z1d_0]
  simp +contextual -implicitDefEqProofs (disch:=try exact X0d) only [↓reduceIte,go_sem,b_Z1d_0]
 have i1:eI 2 (.int .i64 0) (.sl [.agg [.int .i64 a,.int .i64 b]] .no)=some (.eptr [.int .i64 a,.int .i64 b] 0):=rfl
 have l1:∀U,eL U true 2 (.eptr [.int .i64 a,.int .i64 b] 0)=some (.agg [.int .i64 a,.int .i64 b]):=fun U=>rfl
 have s1:stV [.cells [.int .i64 0,.int .i64 0]] 2 (.ptr 0 0) (.agg [.int .i64 a,.int .i64 b]) (.agg [.int .i64 a,.int .i64 b])=some (.undef,[.cells [.int .i64 a,.int .i64 b]]):=rfl
 have m1:mmV false [.int .i64 b,.int .i64 4611686018427387904]=some (.int .i64 b):=by rw [mmF,if_neg X0o]
 have hw:Wf [.cells [.int .i64 a,.int .i64 b]]:=rfl
 have key:l_Z1d_0 (Mi cx) 0 0 [.int .i64 0,.int .i64 1,.sl [.agg [.int .i64 a,.int .i64 b]] .no,.int .i64 1,.int .i64 0] []=some (.tup [.int .i64 (spH a b),.int .i64 (spR a)],[]):=by
  rw [u_Z1d_0]
  by_cases c0:a=0
  ·subst c0
   have m5:mmV true [.int .i64 0,.int .i64 b]=some (.int .i64 (spH 0 b)):=rfl
   have e2:spR 0=1:=rfl
   rw [e2]
   generalize spH 0 b=Hww at *
   simp +contextual -implicitDefEqProofs (disch:=try exact X0d) only [↓reduceIte,go_sem,b_Z1d_0,j_Z1d_0,j_Z1d_1,i1,l1,s1,m1,m5,f1,fin]
  ·have k1:=Wiq a ⟨h1,h2⟩ _ hw
   have ha:1≤absI a∧absI a≤1000000:=by unfold absI;split <;> omega
   have k2:=Wa9 (absI a) ha _ hw
   have e2:spR a=absI a:=by unfold spR absI;rw [if_neg c0]
   rw [e2]
   generalize absI a=A at *
   by_cases c1:0<a
   ·have m2:mmV false [.int .i64 b,.int .i64 (b - 1)]=some (.int .i64 (b - 1)):=by rw [mmF,if_pos X0o]
    have m3:mmV true [.int .i64 (b - 1),.int .i64 0]=some (.int .i64 (spH a b)):=by
     rw [mmT]
     unfold spH
     rw [if_pos c1]
     split <;> split <;> first|rfl|omega|(congr 2;omega)
    have m4:mmV true [.int .i64 0,.int .i64 (spH a b)]=some (.int .i64 (spH a b)):=by
     rw [mmT]
     unfold spH
     rw [if_pos c1]
     by_cases c:0<b - 1
     ·rw [if_pos c,if_pos c]
     ·rw [if_neg c];rfl
    generalize spH a b=Hww at *
    simp +contextual -implicitDefEqProofs (disch:=try exact X0d) only [↓reduceIte,go_sem,b_Z1d_0,j_Z1d_0,j_Z1d_1,i1,l1,s1,m1,c1,c0,m2,m3,m4,k1,k2,f1,fin]
   ·have m5:mmV true [.int .i64 0,.int .i64 b]=some (.int .i64 (spH a b)):=by
     rw [mmT]
     unfold spH
     rw [if_neg c1]
    generalize spH a b=Hww at *
    simp +contextual -implicitDefEqProofs (disch:=try exact X0d) only [↓reduceIte,go_sem,b_Z1d_0,j_Z1d_0,j_Z1d_1,i1,l1,s1,m1,c1,c0,m5,k1,k2,f1,fin]
 have lN:Qai (.sl [.agg [.int .i64 a,.int .i64 b]] .no)=some (.int .i64 1):=rfl
 rw [e_Z1d]
 simp +contextual -implicitDefEqProofs (disch:=try exact X0d) only [↓reduceIte,go_sem,s_Z1d,lN,f1,key]
theorem Wis (U:Objs) (hσ:Wf U):E cx 45 [.sl [.agg [.int .i64 a,.int .i64 b]] .no] U=some (.tup [.int .i64 (spH a b),.int .i64 (spR a)],U):=by
 refine Qbe Qbb ?_ rfl rfl U hσ
 obtain ⟨⟨h1,h2⟩,h3,h4⟩:=h
 have lN:Qai (.sl [.agg [.int .i64 a,.int .i64 b]] .no)=some (.int .i64 1):=rfl
 have f1:∀k U,fz k U fzD (.sl [.agg [.int .i64 a,.int .i64 b]] .no)=some (.sl [.agg [.int .i64 a,.int .i64 b]] .no):=fun k U=>Qar rfl
 have fin:∀x y:Int,l_Z35_0 (Mi cx) 0 0 [.sl [.agg [.int .i64 a,.int .i64 b]] .no,.int .i64 x,.int .i64 y,.int .i64 1] []=some (.tup [.int .i64 x,.int .i64 y],[]):=fun x y=>by
  rw [u_Z35_0]
  simp +contextual -implicitDefEqProofs (disch:=try exact X0d) only [↓reduceIte,go_sem,b_Z35_0,lN]
 have i1:eI 2 (.int .i64 0) (.sl [.agg [.int .i64 a,.int .i64 b]] .no)=some (.eptr [.int .i64 a,.int .i64 b] 0):=rfl
 have key:l_Z35_0 (Mi cx) 0 0 [.sl [.agg [.int .i64 a,.int .i64 b]] .no,.int .i64 0,.int .i64 1,.int .i64 0] []=some (.tup [.int .i64 (spH a b),.int .i64 (spR a)],[]):=by
  have fin3:∀(x A:Int),(A=0∨1≤A)→A≤1000000→j_Z35_3 (Mi cx) 0 0 (l_Z35_0 (Mi cx) 0 0) (.sl [.agg [.int .i64 a,.int .i64 b]] .no) (.int .i64 x) (.int .i64 1) (.int .i64 0) (.int .i64 A) []=some (.tup [.int .i64 x,.int .i64 (if A=0 then 1 else A)],[]):=by
   intro x A hA hA2
   by_cases c:A=0
   ·subst c
    rw [if_pos rfl]
    simp +contextual -implicitDefEqProofs (disch:=try exact X0d) only [↓reduceIte,go_sem,j_Z35_3,j_Z35_0,f1,fin]
   ·rw [if_neg c]
    have k1:=Wmr A ⟨by omega,hA2⟩ [] Qs4
    have t1:A.tdiv 1=A:=Int.tdiv_one A
    obtain ⟨q1,q2⟩:=Qus A ⟨by omega,hA2⟩
    generalize hQ:(4611686018427387904:Int).tdiv A=Q at *
    have e1:¬Q<1:=by omega
    have t2:1 * A=A:=Int.one_mul A
    simp +contextual -implicitDefEqProofs (disch:=try exact X0d) only [↓reduceIte,go_sem,j_Z35_3,j_Z35_0,c,k1,t1,hQ,e1,t2,f1,fin]
  have fin2:∀x:Int,j_Z35_2 (Mi cx) 0 0 (l_Z35_0 (Mi cx) 0 0) (.sl [.agg [.int .i64 a,.int .i64 b]] .no) (.int .i64 x) (.int .i64 1) (.int .i64 0) (.int .i64 a) []=some (.tup [.int .i64 x,.int .i64 (spR a)],[]):=by
   intro x
   by_cases c:a<0
   ·have k:=fin3 x (0 - a) (.inr X0o) X0o
    have e:(if 0 - a=0 then 1 else 0 - a)=spR a:=by
     unfold spR
     rw [if_neg X0o,if_neg X0o,if_neg X0o]
    rw [e] at k
    simp +contextual -implicitDefEqProofs (disch:=try exact X0d) only [↓reduceIte,go_sem,j_Z35_2,c,k]
   ·have k:=fin3 x a X0o X0o
    have e:(if a=0 then 1 else a)=spR a:=by
     unfold spR
     split
     ·rfl
     ·rw [if_pos X0o]
    rw [e] at k
    simp +contextual -implicitDefEqProofs (disch:=try exact X0d) only [↓reduceIte,go_sem,j_Z35_2,c,k]
  rw [u_Z35_0]
  by_cases c1:0<a
  ·by_cases c2:0<b - 1
   ·have e:spH a b=b - 1:=by unfold spH;rw [if_pos c1,if_pos c2]
    rw [e]
    simp +contextual -implicitDefEqProofs (disch:=try exact X0d) only [↓reduceIte,go_sem,b_Z35_0,j_Z35_1,lN,i1,c1,c2,fin2]
   ·have e:spH a b=0:=by unfold spH;rw [if_pos c1,if_neg c2]
    rw [e]
    simp +contextual -implicitDefEqProofs (disch:=try exact X0d) only [↓reduceIte,go_sem,b_Z35_0,j_Z35_1,lN,i1,c1,c2,fin2]
  ·by_cases c2:0<b
   ·have e:spH a b=b:=by unfold spH;rw [if_neg c1,if_pos c2]
    rw [e]
    simp +contextual -implicitDefEqProofs (disch:=try exact X0d) only [↓reduceIte,go_sem,b_Z35_0,j_Z35_1,lN,i1,c1,c2,fin2]
   ·have e:spH a b=0:=by unfold spH;rw [if_neg c1,if_neg c2]
    rw [e]
    simp +contextual -implicitDefEqProofs (disch:=try exact X0d) only [↓reduceIte,go_sem,b_Z35_0,j_Z35_1,lN,i1,c1,c2,fin2]
 rw [e_Z35]
 simp +contextual -implicitDefEqProofs (disch:=try exact X0d) only [↓reduceIte,go_sem,s_Z35,f1,key]
end
theorem Qm1 {a b:Int} (h:nthS a b=true):(-1000000≤a∧a≤1000000)∧-1000000≤b∧b≤1000000:=by
 unfold nthS at h
 simp only [Xac,decide_eq_true_eq] at h
 omega
def spHs (l:List Ctr):List Int:=l.map fun c=>spH c.a c.b
def spRs (l:List Ctr):List Int:=l.map fun c=>spR c.a
section
variable {p:Pln} {L:List (List Int)} (hG:PG p L)
include hG
theorem Qut:∀(r q:List Ctr),p.ctrs=q++r→
  l_Z1a_0 (Mi cx) 0 1 [vG (V.int .i64) 1 (spHs q),vG (V.int .i64) 1 (spRs q),vSl vCtr (slo p.ctrs),.int .i64 p.ctrs.length,.int .i64 q.length] [.cells (plC p L)]=some (.tup [vIs (spHs p.ctrs),vIs (spRs p.ctrs)],[])
 |[],q,hq=>by
  have hq':q=p.ctrs:=by rw [hq];simp
  have e1:¬(q.length:Int)<p.ctrs.length:=by rw [hq'];omega
  have hP:V.rbs 1 (plC p L)=true:=Qcl
  have f1:∀k U l,fz k U fzD (vG (V.int .i64) 1 l)=some (vG (V.int .i64) 1 l):=fun k U l=>Qar (Qdv fun _=>rfl)
  have r1:V.rb 0 (.tup [vIs (spHs p.ctrs),vIs (spRs p.ctrs)])=true:=by
   show V.rbs 0 [vIs (spHs p.ctrs),vIs (spRs p.ctrs)]=true
   simp only [Qag,Qdp];rfl
  rw [u_Z1a_0]
  rw [hq'] at *
  clear hG hq
  generalize plC p L=P at *
  simp +contextual -implicitDefEqProofs (disch:=try exact X0d) only [↓reduceIte,go_sem,b_Z1a_0,e1,f1,n_vG]
 |c::r,q,hq=>by
  have hlen:p.ctrs.length=q.length+r.length+1:=by rw [hq];simp;omega
  have hb:=hG.1.2.2.1
  have e1:(q.length:Int)<p.ctrs.length:=by omega
  have hc:=Qm1 (hG.2.1.1 c (by rw [hq];simp)).1
  have hP:V.rbs 1 (plC p L)=true:=Qcl
  have i1:eI 3 (.int .i64 q.length) (vSl vCtr (slo p.ctrs))=some (.eptr (ctC c) 0):=iaS (f:=vCtr) hq rfl
  have nC:(vSl vCtr (slo p.ctrs)).ng=vSl vCtr (slo p.ctrs):=Qaf
  have l2:∀U,eL U true 3 (.eptr (ctC c) 0)=some (.agg (ctC c)):=fun U=>Qc3 rfl Wlt
  have s1:stV [.cells (plC p L),.cells [.int .i64 0,.int .i64 0,.nils]] 3 (.ptr 1 0) (.agg (ctC c)) (.agg (ctC c))=some (.undef,[.cells (plC p L),.cells (ctC c)]):=Qc7 rfl rfl rfl Wls Wlt
  have l3:eL [.cells (plC p L),.cells (ctC c)] true 2 (.ptr 1 0)=some (.agg [.int .i64 c.a,.int .i64 c.b]):=rfl
  have b1:Qam true 2 1 (.agg [.int .i64 0,.int .i64 0]) [(0,.agg [.int .i64 c.a,.int .i64 c.b])]=some (.sl [.agg [.int .i64 c.a,.int .i64 c.b]] .fx):=rfl
  have n1:(V.sl [.agg [.int .i64 c.a,.int .i64 c.b]] .fx).ng = .sl [.agg [.int .i64 c.a,.int .i64 c.b]] .no:=rfl
  have k1:=Wir c.a c.b hc [.cells (plC p L),.cells (ctC c)] (Qa9 (Qab Qcl (Qab Qz3 Qaq)))
  have hl1:(spHs q).length=q.length:=by unfold spHs;rw [Xao]
  have hl2:(spRs q).length=q.length:=by unfold spRs;rw [Xao]
  have a1:∀U,appV false false 1 8 U (vG (V.int .i64) 1 (spHs q)) (.sl [.int .i64 (spH c.a c.b)] .no)=some (vG (V.int .i64) 1 (spHs (q++[c]))):=fun U=>by
   have e:spHs (q++[c])=spHs q++[spH c.a c.b]:=by unfold spHs;rw [Xbj];rfl
   rw [e];exact Qun X0o
  have a2:∀U,appV false false 1 8 U (vG (V.int .i64) 1 (spRs q)) (.sl [.int .i64 (spR c.a)] .no)=some (vG (V.int .i64) 1 (spRs (q++[c]))):=fun U=>by
   have e:spRs (q++[c])=spRs q++[spR c.a]:=by unfold spRs;rw [Xbj];rfl
   rw [e];exact Qun X0o
  have ih:=Qut r (q++[c]) (by rw [hq];simp)
  rw [show ((q++[c]).length:Int)=q.length+1 by simp] at ih
  have f1:∀k U l,fz k U fzD (vG (V.int .i64) 1 l)=some (vG (V.int .i64) 1 l):=fun k U l=>Qar (Qdv fun _=>rfl)
  have f2:∀k U,fz k U fzD (vSl vCtr (slo p.ctrs))=some (vSl vCtr (slo p.ctrs)):=fun k U=>Qar (Qaj fun n x=>Qtx)
  have c1:∀H:Objs,cuO 1 (.cells (plC p L)::H)=some [.cells (plC p L)]:=fun H=>Qda hP
  rw [u_Z1a_0]
  clear hG hq hc
  generalize spHs (q++[c])=Hww' at *
  generalize spRs (q++[c])=R' at *
  generalize spHs q=Hww at *
  generalize spRs q=R at *
  generalize vSl vCtr (slo p.ctrs)=CV at *
  generalize spH c.a c.b=x at *
  generalize spR c.a=y at *
  generalize hC:ctC c=C at *
  generalize plC p L=P at *
  simp +contextual -implicitDefEqProofs (disch:=try exact X0d) only [↓reduceIte,go_sem,b_Z1a_0,e1,i1,nC,l2,s1,l3,b1,n1,k1,a1,a2,f1,f2,c1,ih]
theorem Wit (U:Objs) (hσ:Wf U):E cx 19 [.agg (plC p L)] U=some (.tup [vIs (spHs p.ctrs),vIs (spRs p.ctrs)],U):=by
 refine Qbe Qbb ?_ (by simp only [Qag,Qa0,Qcl];rfl) (by show V.rbs 0 [vIs (spHs p.ctrs),vIs (spRs p.ctrs)]=true;simp only [Qag,Qdp];rfl) U hσ
 have h:l_Z1a_0 (Mi cx) 0 1 [.nils,.nils,vSl vCtr (slo p.ctrs),.int .i64 p.ctrs.length,.int .i64 0] [.cells (plC p L)]=some (.tup [vIs (spHs p.ctrs),vIs (spRs p.ctrs)],[]):=Qut hG p.ctrs [] rfl
 have h1:boxV [] (.agg (plC p L))=some (.ptr 0 0,[.cells (plC p L)]):=Qau Qwc Qqb
 have n1:(vSl vCtr (slo p.ctrs)).ng=vSl vCtr (slo p.ctrs):=Qaf
 have a1:eL [.cells (plC p L)] false 1 (.ptr 0 2)=some (vSl vCtr (slo p.ctrs)):=by
  show some (vSl vCtr (slo p.ctrs)).ng=_
  rw [n1]
 have l1:Qai (vSl vCtr (slo p.ctrs))=some (.int .i64 p.ctrs.length):=lenS
 have f2:∀k U,fz k U fzD (vSl vCtr (slo p.ctrs))=some (vSl vCtr (slo p.ctrs)):=fun k U=>Qar (Qaj fun n x=>Qtx)
 rw [e_Z1a]
 clear hG
 generalize vIs (spHs p.ctrs)=O1 at *
 generalize vIs (spRs p.ctrs)=O2 at *
 generalize vSl vCtr (slo p.ctrs)=CV at *
 generalize plC p L=P at *
 simp +contextual -implicitDefEqProofs (disch:=try exact X0d) only [↓reduceIte,go_sem,s_Z1a,h1,n1,a1,l1,f2,h]
theorem Qql:∀(r q:List Ctr),p.ctrs=q++r→
  l_Z3y_0 (Mi cx) 0 1 [.ptr 0 0,vGy (V.int .i64) 1 (spHs q),vGy (V.int .i64) 1 (spRs q),.int .i64 q.length] [.cells (plD p L)]=some (.tup [vI0 (spHs p.ctrs),vI0 (spRs p.ctrs)],[])
 |[],q,hq=>by
  have hq':q=p.ctrs:=by rw [hq];simp
  have e1:¬(q.length:Int)<p.ctrs.length:=by rw [hq'];omega
  have hP:V.rbs 1 (plD p L)=true:=Qcg
  have n2:(vSl vCt0 (slo p.ctrs)).ng=vSl vCt0 (slo p.ctrs):=Qaf
  have a1:eL [.cells (plD p L)] false 1 (.ptr 0 2)=some (vSl vCt0 (slo p.ctrs)):=by
   show some (vSl vCt0 (slo p.ctrs)).ng=_
   rw [n2]
  have l1:Qai (vSl vCt0 (slo p.ctrs))=some (.int .i64 p.ctrs.length):=lenS
  have f1:∀k U l,fz k U fzD (vGy (V.int .i64) 1 l)=some (vGy (V.int .i64) 1 l):=fun k U l=>Qar (Qhj fun _ _=>rfl)
  have nH:∀l,(vGy (V.int .i64) 1 l).ng=vI0 l:=fun l=>Wmm
  have r1:V.rb 0 (.tup [vI0 (spHs p.ctrs),vI0 (spRs p.ctrs)])=true:=by
   show V.rbs 0 [vI0 (spHs p.ctrs),vI0 (spRs p.ctrs)]=true
   simp only [Qag,Qfi];rfl
  rw [u_Z3y_0]
  rw [hq'] at *
  clear hG hq
  have nH1:=nH (spHs p.ctrs)
  have nH2:=nH (spRs p.ctrs)
  generalize vI0 (spHs p.ctrs)=O1 at *
  generalize vI0 (spRs p.ctrs)=O2 at *
  generalize vSl vCt0 (slo p.ctrs)=CV at *
  generalize plD p L=P at *
  simp +contextual -implicitDefEqProofs (disch:=try exact X0d) only [↓reduceIte,go_sem,b_Z3y_0,a1,n2,l1,e1,f1,nH1,nH2]
 |c::r,q,hq=>by
  have hlen:p.ctrs.length=q.length+r.length+1:=by rw [hq];simp;omega
  have hb:=hG.1.2.2.1
  have e1:(q.length:Int)<p.ctrs.length:=by omega
  have hc:=Qm1 (hG.2.1.1 c (by rw [hq];simp)).1
  have hP:V.rbs 1 (plD p L)=true:=Qcg
  have n2:(vSl vCt0 (slo p.ctrs)).ng=vSl vCt0 (slo p.ctrs):=Qaf
  have a0:eL [.cells (plD p L)] false 1 (.ptr 0 2)=some (vSl vCt0 (slo p.ctrs)):=by
   show some (vSl vCt0 (slo p.ctrs)).ng=_
   rw [n2]
  have l1:Qai (vSl vCt0 (slo p.ctrs))=some (.int .i64 p.ctrs.length):=lenS
  have i1:eI 3 (.int .i64 q.length) (vSl vCt0 (slo p.ctrs))=some (.eptr (ct0 c) 0):=iaS (f:=vCt0) hq rfl
  have l2:∀U,eL U true 2 (.eptr (ct0 c) 0)=some (.agg [.int .i64 c.a,.int .i64 c.b]):=fun U=>rfl
  have b1:Qam true 2 1 (.agg [.int .i64 0,.int .i64 0]) [(0,.agg [.int .i64 c.a,.int .i64 c.b])]=some (.sl [.agg [.int .i64 c.a,.int .i64 c.b]] .fx):=rfl
  have n1:(V.sl [.agg [.int .i64 c.a,.int .i64 c.b]] .fx).ng = .sl [.agg [.int .i64 c.a,.int .i64 c.b]] .no:=rfl
  have k1:=Wis c.a c.b hc [.cells (plD p L)] (Qa9 (Qab Qcg Qaq))
  have hl1:(spHs q).length=q.length:=by unfold spHs;rw [Xao]
  have hl2:(spRs q).length=q.length:=by unfold spRs;rw [Xao]
  have a1:∀U,appV false false 1 8 U (vGy (V.int .i64) 1 (spHs q)) (.sl [.int .i64 (spH c.a c.b)] .no)=some (vGy (V.int .i64) 1 (spHs (q++[c]))):=fun U=>by
   have e:spHs (q++[c])=spHs q++[spH c.a c.b]:=by unfold spHs;rw [Xbj];rfl
   rw [e];exact Quo X0o
  have a2:∀U,appV false false 1 8 U (vGy (V.int .i64) 1 (spRs q)) (.sl [.int .i64 (spR c.a)] .no)=some (vGy (V.int .i64) 1 (spRs (q++[c]))):=fun U=>by
   have e:spRs (q++[c])=spRs q++[spR c.a]:=by unfold spRs;rw [Xbj];rfl
   rw [e];exact Quo X0o
  have ih:=Qql r (q++[c]) (by rw [hq];simp)
  rw [show ((q++[c]).length:Int)=q.length+1 by simp] at ih
  have f1:∀k U l,fz k U fzD (vGy (V.int .i64) 1 l)=some (vGy (V.int .i64) 1 l):=fun k U l=>Qar (Qhj fun _ _=>rfl)
  rw [u_Z3y_0]
  clear hG hq hc
  generalize spHs (q++[c])=Hww' at *
  generalize spRs (q++[c])=R' at *
  generalize spHs q=Hww at *
  generalize spRs q=R at *
  generalize vSl vCt0 (slo p.ctrs)=CV at *
  generalize spH c.a c.b=x at *
  generalize spR c.a=y at *
  generalize hC:ct0 c=C at *
  generalize plD p L=P at *
  simp +contextual -implicitDefEqProofs (disch:=try exact X0d) only [↓reduceIte,go_sem,b_Z3y_0,a0,n2,l1,e1,i1,l2,b1,n1,k1,a1,a2,f1,ih]
theorem Wd6 (U:Objs) (hσ:Wf U):E cx 20 [.agg (plD p L)] U=some (.tup [vI0 (spHs p.ctrs),vI0 (spRs p.ctrs)],U):=by
 refine Qbe Qbb ?_ (by simp only [Qag,Qa0,Qcg];rfl) (by show V.rbs 0 [vI0 (spHs p.ctrs),vI0 (spRs p.ctrs)]=true;simp only [Qag,Qfi];rfl) U hσ
 have h:l_Z3y_0 (Mi cx) 0 1 [.ptr 0 0,.sl [] .fx,.sl [] .fx,.int .i64 0] [.cells (plD p L)]=some (.tup [vI0 (spHs p.ctrs),vI0 (spRs p.ctrs)],[]):=Qql hG p.ctrs [] rfl
 have h1:boxV [] (.agg (plD p L))=some (.ptr 0 0,[.cells (plD p L)]):=Qau Qmz Qj2
 have b1:Qam false 1 0 .any []=some (.sl [] .fx):=rfl
 have f3:∀k' U,fz k' U fzD (.sl [] .fx)=some (.sl [] .fx):=fun k' U=>Qar rfl
 rw [e_Z3y]
 clear hG
 generalize vI0 (spHs p.ctrs)=O1 at *
 generalize vI0 (spRs p.ctrs)=O2 at *
 generalize plD p L=P at *
 simp +contextual -implicitDefEqProofs (disch:=try exact X0d) only [↓reduceIte,go_sem,s_Z3y,h1,b1,f3,h]
end
end Go.Proofs.YtapnplljnpconaaGreatDoor
namespace Go.Ev
open Go
abbrev Road:=Mach→List V→Objs→Ro
def ap1 (s:Mach→V→Objs→Ro):Road:=fun M xs U=>match xs with|[a]=>s M a U|_=>none
def ap2 (s:Mach→V→V→Objs→Ro):Road:=fun M xs U=>match xs with|[a,b]=>s M a b U|_=>none
def ap3 (s:Mach→V→V→V→Objs→Ro):Road:=fun M xs U=>match xs with|[a,b,c]=>s M a b c U|_=>none
def ap4 (s:Mach→V→V→V→V→Objs→Ro):Road:=fun M xs U=>match xs with|[a,b,c,d]=>s M a b c d U|_=>none
def Qly (F:Fn) (h:Road):Prop:=∀M xs U,Le (h M xs U) (fnK M F xs U)
theorem Qa6 {F:Fn} {s} (h:∀M a U,fnK M F [a] U=s M a U):Qly F (ap1 s):=fun M xs U r hr=>by
 unfold ap1 at hr
 split at hr
 ·rw [h];exact hr
 ·cases hr
theorem Qbc {F:Fn} {s} (h:∀M a b U,fnK M F [a,b] U=s M a b U):Qly F (ap2 s):=fun M xs U r hr=>by
 unfold ap2 at hr
 split at hr
 ·rw [h];exact hr
 ·cases hr
theorem Qhk {F:Fn} {s} (h:∀M a b c U,fnK M F [a,b,c] U=s M a b c U):Qly F (ap3 s):=fun M xs U r hr=>by
 unfold ap3 at hr
 split at hr
 ·rw [h];exact hr
 ·cases hr
theorem Quu {F:Fn} {s} (h:∀M a b c d U,fnK M F [a,b,c,d] U=s M a b c d U):Qly F (ap4 s):=fun M xs U r hr=>by
 unfold ap4 at hr
 split at hr
 ·rw [h];exact hr
 ·cases hr
def fnR (F:Fn):Road:=fun M xs U=>fnK M F xs U
theorem Qbl (F:Fn):Qly F (fnR F):=fun _ _ _=>Le.refl _
inductive Tr where
 |nil|node (f:Nat) (h:Road) (l r:Tr)
noncomputable def Tr.get (t:Tr) (g:Nat):Option Road:=
 Tr.rec none (fun f h _ _ il ir=>cond (Nat.beq g f) (some h) (cond (Nat.ble g f) il ir)) t
def TrOk (C:Ctx):Tr→Prop
 | .nil=>True
 | .node f h l r=>(∃F,C.prim f=none∧C.code f=some F∧Qly F h)∧TrOk C l∧TrOk C r
theorem Wba {C:Ctx} : ∀ {t:Tr},TrOk C t→∀ {g:Nat} {h:Road},t.get g=some h→∃F,C.prim g=none∧C.code g=some F∧Qly F h
 | .nil,_,g,h,hg=>by cases hg
 | .node f h0 l r,ht,g,h,hg=>by
  have e:(Tr.node f h0 l r).get g=cond (Nat.beq g f) (some h0) (cond (Nat.ble g f) (l.get g) (r.get g)):=rfl
  rw [e] at hg
  cases hb:Nat.beq g f with
  |true=>
   rw [hb] at hg
   cases hg
   rw [Nat.eq_of_beq_eq_true hb]
   exact ht.1
  |false=>
   rw [hb] at hg
   cases hl:Nat.ble g f with
   |true=>rw [hl] at hg;exact Wba ht.2.1 hg
   |false=>rw [hl] at hg;exact Wba ht.2.2 hg
noncomputable def run (G:GV) (prim:FuncId→Option (List V→Objs→Ro)) (t:Tr) (k:Nat) (n:Nat):FuncId→List V→Objs→Ro:=
 Nat.rec (fun _ _ _=>none) (fun _ ih f xs U=>match t.get f with|some h=>h ⟨G,ih,fun F=>iter F k⟩ xs U|none=>match prim f with|some h=>h xs U|none=>none) n
theorem Wd7 {F F':Rk→Rk} (hF:∀f g,LeF f g→LeF (F f) (F g)) (hF':∀f g,LeF f g→LeF (F' f) (F' g)) (h:∀f g,LeF f g→LeF (F f) (F' g)):LeF (fixL F) (fixL F'):=by
 intro vs U r hr
 obtain ⟨j,hj⟩:=((Qpe (Qge hF vs U)).iff r).1 hr
 exact ((Qpe (Qge hF' vs U)).iff r).2 ⟨j,Qi6 h (Xai j) vs U r hj⟩
theorem Wd8 {F F':Rk→Rk} (hF':∀f g,LeF f g→LeF (F' f) (F' g)) (h:∀f g,LeF f g→LeF (F f) (F' g)) (k:Nat):LeF (iter F k) (fixL F'):=by
 intro vs U r hr
 exact ((Qpe (Qge hF' vs U)).iff r).2 ⟨k,Qi6 h (Xai k) vs U r hr⟩
theorem Wms {C:Ctx} {t:Tr} (ht:TrOk C t) (k:Nat):∀(n:Nat) (f:FuncId) (xs:List V) (U:Objs),Le (run C.G C.prim t k n f xs U) (E C f xs U)
 |0,f,xs,U=>fun r h=>by cases h
 |n+1,f,xs,U=>by
  intro r h
  have e:run C.G C.prim t k (n+1) f xs U=match t.get f with|some h=>h ⟨C.G,run C.G C.prim t k n,fun F=>iter F k⟩ xs U|none=>match C.prim f with|some h=>h xs U|none=>none:=rfl
  rw [e] at h
  cases hg:t.get f with
  |none=>
   rw [hg] at h
   simp only at h
   cases hp:C.prim f with
   |none=>rw [hp] at h;cases h
   |some p=>rw [hp] at h;rw [Qmk hp];exact h
  |some hh=>
   rw [hg] at h
   obtain ⟨F,hp,hc,hr⟩:=Wba ht hg
   have h1:=hr _ _ _ r h
   rw [E_fn hp hc]
   refine Ql5 (M:=⟨C.G,run C.G C.prim t k n,fun F=>iter F k⟩) (N:=Mi C) F.body ⟨rfl,fun f xs U=>Wms ht k n f xs U⟩ (fun F F' _ h2 h3=>Wd8 h2 h3 k) ⟨rfl,fun _ _ _=>Le.refl _⟩ (fun F F' _ _ h3=>Qi6 h3 (Xai k)) ⟨rfl,fun _ _ _=>Le.refl _⟩ (fun F F' h2 h3 h4=>Wd7 h2 h3 h4) (Qng _) _ _ r h1
theorem Woe {C:Ctx} {t:Tr} (ht:TrOk C t) {k n:Nat} {f:FuncId} {xs:List V} {U:Objs} {r:V×Objs} (h:run C.G C.prim t k n f xs U=some r):E C f xs U=some r:=Wms ht k n f xs U r h
end Go.Ev
namespace Go.Proofs.YtapnplljnpconaaGreatDoor
open Go.Ev
def Wiu:Tr:=(.node 89 (ap2 s_Z1f) (.node 43 (ap2 s_Z3z) (.node 24 (ap1 s_Z19) (.node 13 (ap2 s_Z27) (.node 8 (ap2 s_Z18) (.node 6 (fnR c_Z26) (.node 5 (ap2 s_Z21) (.node 3 (ap2 s_Z22) .nil .nil) .nil) (.node 7 (ap3 s_Z23) .nil .nil)) (.node 11 (ap2 s_Z37) (.node 10 (ap1 s_Z3s) (.node 9 (ap3 s_Z24) .nil .nil) .nil) (.node 12 (ap1 s_Z25) .nil .nil))) (.node 20 (ap1 s_Z3y) (.node 18 (ap2 s_Z3x) (.node 17 (ap2 s_Z3v) (.node 14 (ap1 s_Z3c) .nil .nil) .nil) (.node 19 (ap1 s_Z1a) .nil .nil)) (.node 22 (ap1 s_Z3u) (.node 21 (ap1 s_Z17) .nil .nil) (.node 23 (ap2 s_Z28) .nil .nil)))) (.node 33 (ap1 s_Z3t) (.node 29 (ap1 s_Z1i) (.node 27 (ap1 s_Z20) (.node 26 (fnR c_Z3q) (.node 25 (ap1 s_Z3w) .nil .nil) .nil) (.node 28 (ap2 s_Z3a) .nil .nil)) (.node 31 (ap3 s_Z15) (.node 30 (ap2 s_Z1h) .nil .nil) (.node 32 (ap2 s_Z6) .nil .nil))) (.node 38 (ap1 s_Z3k) (.node 36 (ap3 s_Z3e) (.node 35 (ap1 s_Z38) (.node 34 (ap1 s_Z3h) .nil .nil) .nil) (.node 37 (ap1 s_Z3m) .nil .nil)) (.node 41 (ap2 s_Zq) (.node 39 (ap2 s_Z3b) .nil .nil) (.node 42 (ap2 s_Z41) .nil .nil))))) (.node 67 (ap2 s_Z1x) (.node 54 (ap3 s_Zx) (.node 48 (fnR c_Z2u) (.node 46 (ap2 s_Z1v) (.node 45 (ap1 s_Z35) (.node 44 (ap1 s_Z1d) .nil .nil) .nil) (.node 47 (fnR c_Z3r) .nil .nil)) (.node 51 (ap1 s_Z1p) (.node 50 (ap1 s_Z1u) (.node 49 (ap3 s_Z3j) .nil .nil) .nil) (.node 52 (ap2 s_Z14) .nil .nil))) (.node 63 (ap2 s_Z42) (.node 57 (ap2 s_Z3f) (.node 56 (ap1 s_Z2b) (.node 55 (ap2 s_Z5) .nil .nil) .nil) (.node 62 (ap2 s_Zs) .nil .nil)) (.node 65 (ap1 s_Z1g) (.node 64 (ap2 s_Z1e) .nil .nil) (.node 66 (ap2 s_Z36) .nil .nil)))) (.node 77 (ap2 s_Z2a) (.node 72 (ap1 s_Z16) (.node 70 (fnR c_Z2c) (.node 69 (fnR c_Z2q) (.node 68 (fnR c_Zh) .nil .nil) .nil) (.node 71 (fnR c_Z29) .nil .nil)) (.node 75 (ap1 s_Z1k) (.node 74 (ap3 s_Zw) .nil .nil) (.node 76 (ap2 s_Z9) .nil .nil))) (.node 82 (ap1 s_Z39) (.node 80 (ap2 s_Z3o) (.node 79 (ap1 s_Z3l) (.node 78 (ap1 s_Z2j) .nil .nil) .nil) (.node 81 (ap1 s_Z3i) .nil .nil)) (.node 87 (ap1 s_Z3d) (.node 83 (ap1 s_Z3n) .nil .nil) (.node 88 (ap2 s_Zv) .nil .nil)))))) (.node 130 (fnR c_Z34) (.node 110 (ap4 s_Zp) (.node 101 (ap2 s_Z0) (.node 95 (ap1 s_Z2e) (.node 92 (ap2 s_Zn) (.node 91 (fnR c_Za) (.node 90 (fnR c_Ze) .nil .nil) .nil) (.node 94 (ap2 s_Z2t) .nil .nil)) (.node 99 (ap2 s_Z3) (.node 98 (ap2 s_Zy) (.node 96 (ap1 s_Z1y) .nil .nil) .nil) (.node 100 (ap4 s_Z1) .nil .nil))) (.node 106 (ap1 s_Z4) (.node 104 (ap1 s_Z1c) (.node 103 (ap2 s_Z7) (.node 102 (ap3 s_Z8) .nil .nil) .nil) (.node 105 (ap2 s_Z2) .nil .nil)) (.node 108 (ap1 s_Z2g) (.node 107 (ap1 s_Z2i) .nil .nil) (.node 109 (ap1 s_Z2d) .nil .nil)))) (.node 119 (fnR c_Z2o) (.node 115 (ap1 s_Z40) (.node 113 (ap2 s_Zo) (.node 112 (ap4 s_Zu) (.node 111 (ap4 s_Zr) .nil .nil) .nil) (.node 114 (ap2 s_Zt) .nil .nil)) (.node 117 (fnR c_Zd) (.node 116 (fnR c_Zf) .nil .nil) (.node 118 (fnR c_Z2v) .nil .nil))) (.node 126 (fnR c_Z2w) (.node 124 (ap3 s_Z2z) (.node 122 (fnR c_Z31) (.node 120 (fnR c_Z32) .nil .nil) .nil) (.node 125 (fnR c_Z2s) .nil .nil)) (.node 128 (fnR c_Z2y) (.node 127 (fnR c_Z30) .nil .nil) (.node 129 (fnR c_Z2r) .nil .nil))))) (.node 149 (ap2 s_Z3g) (.node 140 (ap1 s_Zy_2) (.node 135 (ap1 s_Z1t) (.node 133 (ap2 s_Z1s) (.node 132 (ap2 s_Z13) (.node 131 (ap1 s_Z1z) .nil .nil) .nil) (.node 134 (ap1 s_Zy_1) .nil .nil)) (.node 138 (ap1 s_Z1j) (.node 137 (ap1 s_Z1m) (.node 136 (ap1 s_Z1q) .nil .nil) .nil) (.node 139 (ap1 s_Z1n) .nil .nil))) (.node 145 (ap2 s_Z1w) (.node 143 (ap1 s_Zy_4) (.node 142 (ap1 s_Z1r) (.node 141 (ap1 s_Zy_3) .nil .nil) .nil) (.node 144 (ap1 s_Z1o) .nil .nil)) (.node 147 (ap1 s_Z1b) (.node 146 (ap2 s_Z1l) .nil .nil) (.node 148 (ap3 s_Z2h) .nil .nil)))) (.node 161 (fnR c_Z2f) (.node 155 (fnR c_Z2x) (.node 152 (fnR c_Zl) (.node 151 (fnR c_Zi) (.node 150 (fnR c_Zj) .nil .nil) .nil) (.node 153 (fnR c_Zm) .nil .nil)) (.node 158 (fnR c_Z2l) (.node 157 (fnR c_Z33) .nil .nil) (.node 160 (fnR c_Z2m) .nil .nil))) (.node 169 (ap1 s_Z2n) (.node 167 (fnR c_Z2k) (.node 165 (fnR c_Zc) (.node 162 (fnR c_Zk) .nil .nil) .nil) (.node 168 (ap1 s_Z2p) .nil .nil)) (.node 174 (fnR c_Zb) (.node 172 (fnR c_Z3p) .nil .nil) (.node 177 (fnR c_Zg) .nil .nil)))))))
theorem Qwh:TrOk cx Wiu:=⟨⟨c_Z1f,by kernel_rfl,by kernel_rfl,Qbc k_Z1f⟩,⟨⟨c_Z3z,by kernel_rfl,by kernel_rfl,Qbc k_Z3z⟩,⟨⟨c_Z19,by kernel_rfl,by kernel_rfl,Qa6 k_Z19⟩,⟨⟨c_Z27,by kernel_rfl,by kernel_rfl,Qbc k_Z27⟩,⟨⟨c_Z18,by kernel_rfl,by kernel_rfl,Qbc k_Z18⟩,⟨⟨c_Z26,by kernel_rfl,by kernel_rfl,Qbl _⟩,⟨⟨c_Z21,by kernel_rfl,by kernel_rfl,Qbc k_Z21⟩,⟨⟨c_Z22,by kernel_rfl,by kernel_rfl,Qbc k_Z22⟩,trivial,trivial⟩,trivial⟩,⟨⟨c_Z23,by kernel_rfl,by kernel_rfl,Qhk k_Z23⟩,trivial,trivial⟩⟩,⟨⟨c_Z37,by kernel_rfl,by kernel_rfl,Qbc k_Z37⟩,⟨⟨c_Z3s,by kernel_rfl,by kernel_rfl,Qa6 k_Z3s⟩,⟨⟨c_Z24,by kernel_rfl,by kernel_rfl,Qhk k_Z24⟩,trivial,trivial⟩,trivial⟩,⟨⟨c_Z25,by kernel_rfl,by kernel_rfl,Qa6 k_Z25⟩,trivial,trivial⟩⟩⟩,⟨⟨c_Z3y,by kernel_rfl,by kernel_rfl,Qa6 k_Z3y⟩,⟨⟨c_Z3x,by kernel_rfl,by kernel_rfl,Qbc k_Z3x⟩,⟨⟨c_Z3v,by kernel_rfl,by kernel_rfl,Qbc k_Z3v⟩,⟨⟨c_Z3c,by kernel_rfl,by kernel_rfl,Qa6 k_Z3c⟩,trivial,trivial⟩,trivial⟩,⟨⟨c_Z1a,by kernel_rfl,by kernel_rfl,Qa6 k_Z1a⟩,trivial,trivial⟩⟩,⟨⟨c_Z3u,by kernel_rfl,by kernel_rfl,Qa6 k_Z3u⟩,⟨⟨c_Z17,by kernel_rfl,by kernel_rfl,Qa6 k_Z17⟩,trivial,trivial⟩,⟨⟨c_Z28,by kernel_rfl,by kernel_rfl,Qbc k_Z28⟩,trivial,trivial⟩⟩⟩⟩,⟨⟨c_Z3t,by kernel_rfl,by kernel_rfl,Qa6 k_Z3t⟩,⟨⟨c_Z1i,by kernel_rfl,by kernel_rfl,Qa6 k_Z1i⟩,⟨⟨c_Z20,by kernel_rfl,by kernel_rfl,Qa6 k_Z20⟩,⟨⟨c_Z3q,by kernel_rfl,by kernel_rfl,Qbl _⟩,⟨⟨c_Z3w,by kernel_rfl,by kernel_rfl,Qa6 k_Z3w⟩,trivial,trivial⟩,trivial⟩,⟨⟨c_Z3a,by kernel_rfl,by kernel_rfl,Qbc k_Z3a⟩,trivial,trivial⟩⟩,⟨⟨c_Z15,by kernel_rfl,by kernel_rfl,Qhk k_Z15⟩,⟨⟨c_Z1h,by kernel_rfl,by kernel_rfl,Qbc k_Z1h⟩,trivial,trivial⟩,⟨⟨c_Z6,by kernel_rfl,by kernel_rfl,Qbc k_Z6⟩,trivial,trivial⟩⟩⟩,⟨⟨c_Z3k,by kernel_rfl,by kernel_rfl,Qa6 k_Z3k⟩,⟨⟨c_Z3e,by kernel_rfl,by kernel_rfl,Qhk k_Z3e⟩,⟨⟨c_Z38,by kernel_rfl,by kernel_rfl,Qa6 k_Z38⟩,⟨⟨c_Z3h,by kernel_rfl,by kernel_rfl,Qa6 k_Z3h⟩,trivial,trivial⟩,trivial⟩,⟨⟨c_Z3m,by kernel_rfl,by kernel_rfl,Qa6 k_Z3m⟩,trivial,trivial⟩⟩,⟨⟨c_Zq,by kernel_rfl,by kernel_rfl,Qbc k_Zq⟩,⟨⟨c_Z3b,by kernel_rfl,by kernel_rfl,Qbc k_Z3b⟩,trivial,trivial⟩,⟨⟨c_Z41,by kernel_rfl,by kernel_rfl,Qbc k_Z41⟩,trivial,trivial⟩⟩⟩⟩⟩,⟨⟨c_Z1x,by kernel_rfl,by kernel_rfl,Qbc k_Z1x⟩,⟨⟨c_Zx,by kernel_rfl,by kernel_rfl,Qhk k_Zx⟩,⟨⟨c_Z2u,by kernel_rfl,by kernel_rfl,Qbl _⟩,⟨⟨c_Z1v,by kernel_rfl,by kernel_rfl,Qbc k_Z1v⟩,⟨⟨c_Z35,by kernel_rfl,by kernel_rfl,Qa6 k_Z35⟩,⟨⟨c_Z1d,by kernel_rfl,by kernel_rfl,Qa6 k_Z1d⟩,trivial,trivial⟩,trivial⟩,⟨⟨c_Z3r,by kernel_rfl,by kernel_rfl,Qbl _⟩,trivial,trivial⟩⟩,⟨⟨c_Z1p,by kernel_rfl,by kernel_rfl,Qa6 k_Z1p⟩,⟨⟨c_Z1u,by kernel_rfl,by kernel_rfl,Qa6 k_Z1u⟩,⟨⟨c_Z3j,by kernel_rfl,by kernel_rfl,Qhk k_Z3j⟩,trivial,trivial⟩,trivial⟩,⟨⟨c_Z14,by kernel_rfl,by kernel_rfl,Qbc k_Z14⟩,trivial,trivial⟩⟩⟩,⟨⟨c_Z42,by kernel_rfl,by kernel_rfl,Qbc k_Z42⟩,⟨⟨c_Z3f,by kernel_rfl,by kernel_rfl,Qbc k_Z3f⟩,⟨⟨c_Z2b,by kernel_rfl,by kernel_rfl,Qa6 k_Z2b⟩,⟨⟨c_Z5,by kernel_rfl,by kernel_rfl,Qbc k_Z5⟩,trivial,trivial⟩,trivial⟩,⟨⟨c_Zs,by kernel_rfl,by kernel_rfl,Qbc k_Zs⟩,trivial,trivial⟩⟩,⟨⟨c_Z1g,by kernel_rfl,by kernel_rfl,Qa6 k_Z1g⟩,⟨⟨c_Z1e,by kernel_rfl,by kernel_rfl,Qbc k_Z1e⟩,trivial,trivial⟩,⟨⟨c_Z36,by kernel_rfl,by kernel_rfl,Qbc k_Z36⟩,trivial,trivial⟩⟩⟩⟩,⟨⟨c_Z2a,by kernel_rfl,by kernel_rfl,Qbc k_Z2a⟩,⟨⟨c_Z16,by kernel_rfl,by kernel_rfl,Qa6 k_Z16⟩,⟨⟨c_Z2c,by kernel_rfl,by kernel_rfl,Qbl _⟩,⟨⟨c_Z2q,by kernel_rfl,by kernel_rfl,Qbl _⟩,⟨⟨c_Zh,by kernel_rfl,by kernel_rfl,Qbl _⟩,trivial,trivial⟩,trivial⟩,⟨⟨c_Z29,by kernel_rfl,by kernel_rfl,Qbl _⟩,trivial,trivial⟩⟩,⟨⟨c_Z1k,by kernel_rfl,by kernel_rfl,Qa6 k_Z1k⟩,⟨⟨c_Zw,by kernel_rfl,by kernel_rfl,Qhk k_Zw⟩,trivial,trivial⟩,⟨⟨c_Z9,by kernel_rfl,by kernel_rfl,Qbc k_Z9⟩,trivial,trivial⟩⟩⟩,⟨⟨c_Z39,by kernel_rfl,by kernel_rfl,Qa6 k_Z39⟩,⟨⟨c_Z3o,by kernel_rfl,by kernel_rfl,Qbc k_Z3o⟩,⟨⟨c_Z3l,by kernel_rfl,by kernel_rfl,Qa6 k_Z3l⟩,⟨⟨c_Z2j,by kernel_rfl,by kernel_rfl,Qa6 k_Z2j⟩,trivial,trivial⟩,trivial⟩,⟨⟨c_Z3i,by kernel_rfl,by kernel_rfl,Qa6 k_Z3i⟩,trivial,trivial⟩⟩,⟨⟨c_Z3d,by kernel_rfl,by kernel_rfl,Qa6 k_Z3d⟩,⟨⟨c_Z3n,by kernel_rfl,by kernel_rfl,Qa6 k_Z3n⟩,trivial,trivial⟩,⟨⟨c_Zv,by kernel_rfl,by kernel_rfl,Qbc k_Zv⟩,trivial,trivial⟩⟩⟩⟩⟩⟩,⟨⟨c_Z34,by kernel_rfl,by kernel_rfl,Qbl _⟩,⟨⟨c_Zp,by kernel_rfl,by kernel_rfl,Quu k_Zp⟩,⟨⟨c_Z0,by kernel_rfl,by kernel_rfl,Qbc k_Z0⟩,⟨⟨c_Z2e,by kernel_rfl,by kernel_rfl,Qa6 k_Z2e⟩,⟨⟨c_Zn,by kernel_rfl,by kernel_rfl,Qbc k_Zn⟩,⟨⟨c_Za,by kernel_rfl,by kernel_rfl,Qbl _⟩,⟨⟨c_Ze,by kernel_rfl,by kernel_rfl,Qbl _⟩,trivial,trivial⟩,trivial⟩,⟨⟨c_Z2t,by kernel_rfl,by kernel_rfl,Qbc k_Z2t⟩,trivial,trivial⟩⟩,⟨⟨c_Z3,by kernel_rfl,by kernel_rfl,Qbc k_Z3⟩,⟨⟨c_Zy,by kernel_rfl,by kernel_rfl,Qbc k_Zy⟩,⟨⟨c_Z1y,by kernel_rfl,by kernel_rfl,Qa6 k_Z1y⟩,trivial,trivial⟩,trivial⟩,⟨⟨c_Z1,by kernel_rfl,by kernel_rfl,Quu k_Z1⟩,trivial,trivial⟩⟩⟩,⟨⟨c_Z4,by kernel_rfl,by kernel_rfl,Qa6 k_Z4⟩,⟨⟨c_Z1c,by kernel_rfl,by kernel_rfl,Qa6 k_Z1c⟩,⟨⟨c_Z7,by kernel_rfl,by kernel_rfl,Qbc k_Z7⟩,⟨⟨c_Z8,by kernel_rfl,by kernel_rfl,Qhk k_Z8⟩,trivial,trivial⟩,trivial⟩,⟨⟨c_Z2,by kernel_rfl,by kernel_rfl,Qbc k_Z2⟩,trivial,trivial⟩⟩,⟨⟨c_Z2g,by kernel_rfl,by kernel_rfl,Qa6 k_Z2g⟩,⟨⟨c_Z2i,by kernel_rfl,by kernel_rfl,Qa6 k_Z2i⟩,trivial,trivial⟩,⟨⟨c_Z2d,by kernel_rfl,by kernel_rfl,Qa6 k_Z2d⟩,trivial,trivial⟩⟩⟩⟩,⟨⟨c_Z2o,by kernel_rfl,by kernel_rfl,Qbl _⟩,⟨⟨c_Z40,by kernel_rfl,by kernel_rfl,Qa6 k_Z40⟩,⟨⟨c_Zo,by kernel_rfl,by kernel_rfl,Qbc k_Zo⟩,⟨⟨c_Zu,by kernel_rfl,by kernel_rfl,Quu k_Zu⟩,⟨⟨c_Zr,by kernel_rfl,by kernel_rfl,Quu k_Zr⟩,trivial,trivial⟩,trivial⟩,⟨⟨c_Zt,by kernel_rfl,by kernel_rfl,Qbc k_Zt⟩,trivial,trivial⟩⟩,⟨⟨c_Zd,by kernel_rfl,by kernel_rfl,Qbl _⟩,⟨⟨c_Zf,by kernel_rfl,by kernel_rfl,Qbl _⟩,trivial,trivial⟩,⟨⟨c_Z2v,by kernel_rfl,by kernel_rfl,Qbl _⟩,trivial,trivial⟩⟩⟩,⟨⟨c_Z2w,by kernel_rfl,by kernel_rfl,Qbl _⟩,⟨⟨c_Z2z,by kernel_rfl,by kernel_rfl,Qhk k_Z2z⟩,⟨⟨c_Z31,by kernel_rfl,by kernel_rfl,Qbl _⟩,⟨⟨c_Z32,by kernel_rfl,by kernel_rfl,Qbl _⟩,trivial,trivial⟩,trivial⟩,⟨⟨c_Z2s,by kernel_rfl,by kernel_rfl,Qbl _⟩,trivial,trivial⟩⟩,⟨⟨c_Z2y,by kernel_rfl,by kernel_rfl,Qbl _⟩,⟨⟨c_Z30,by kernel_rfl,by kernel_rfl,Qbl _⟩,trivial,trivial⟩,⟨⟨c_Z2r,by kernel_rfl,by kernel_rfl,Qbl _⟩,trivial,trivial⟩⟩⟩⟩⟩,⟨⟨c_Z3g,by kernel_rfl,by kernel_rfl,Qbc k_Z3g⟩,⟨⟨c_Zy_2,by kernel_rfl,by kernel_rfl,Qa6 k_Zy_2⟩,⟨⟨c_Z1t,by kernel_rfl,by kernel_rfl,Qa6 k_Z1t⟩,⟨⟨c_Z1s,by kernel_rfl,by kernel_rfl,Qbc k_Z1s⟩,⟨⟨c_Z13,by kernel_rfl,by kernel_rfl,Qbc k_Z13⟩,⟨⟨c_Z1z,by kernel_rfl,by kernel_rfl,Qa6 k_Z1z⟩,trivial,trivial⟩,trivial⟩,⟨⟨c_Zy_1,by kernel_rfl,by kernel_rfl,Qa6 k_Zy_1⟩,trivial,trivial⟩⟩,⟨⟨c_Z1j,by kernel_rfl,by kernel_rfl,Qa6 k_Z1j⟩,⟨⟨c_Z1m,by kernel_rfl,by kernel_rfl,Qa6 k_Z1m⟩,⟨⟨c_Z1q,by kernel_rfl,by kernel_rfl,Qa6 k_Z1q⟩,trivial,trivial⟩,trivial⟩,⟨⟨c_Z1n,by kernel_rfl,by kernel_rfl,Qa6 k_Z1n⟩,trivial,trivial⟩⟩⟩,⟨⟨c_Z1w,by kernel_rfl,by kernel_rfl,Qbc k_Z1w⟩,⟨⟨c_Zy_4,by kernel_rfl,by kernel_rfl,Qa6 k_Zy_4⟩,⟨⟨c_Z1r,by kernel_rfl,by kernel_rfl,Qa6 k_Z1r⟩,⟨⟨c_Zy_3,by kernel_rfl,by kernel_rfl,Qa6 k_Zy_3⟩,trivial,trivial⟩,trivial⟩,⟨⟨c_Z1o,by kernel_rfl,by kernel_rfl,Qa6 k_Z1o⟩,trivial,trivial⟩⟩,⟨⟨c_Z1b,by kernel_rfl,by kernel_rfl,Qa6 k_Z1b⟩,⟨⟨c_Z1l,by kernel_rfl,by kernel_rfl,Qbc k_Z1l⟩,trivial,trivial⟩,⟨⟨c_Z2h,by kernel_rfl,by kernel_rfl,Qhk k_Z2h⟩,trivial,trivial⟩⟩⟩⟩,⟨⟨c_Z2f,by kernel_rfl,by kernel_rfl,Qbl _⟩,⟨⟨c_Z2x,by kernel_rfl,by kernel_rfl,Qbl _⟩,⟨⟨c_Zl,by kernel_rfl,by kernel_rfl,Qbl _⟩,⟨⟨c_Zi,by kernel_rfl,by kernel_rfl,Qbl _⟩,⟨⟨c_Zj,by kernel_rfl,by kernel_rfl,Qbl _⟩,trivial,trivial⟩,trivial⟩,⟨⟨c_Zm,by kernel_rfl,by kernel_rfl,Qbl _⟩,trivial,trivial⟩⟩,⟨⟨c_Z2l,by kernel_rfl,by kernel_rfl,Qbl _⟩,⟨⟨c_Z33,by kernel_rfl,by kernel_rfl,Qbl _⟩,trivial,trivial⟩,⟨⟨c_Z2m,by kernel_rfl,by kernel_rfl,Qbl _⟩,trivial,trivial⟩⟩⟩,⟨⟨c_Z2n,by kernel_rfl,by kernel_rfl,Qa6 k_Z2n⟩,⟨⟨c_Z2k,by kernel_rfl,by kernel_rfl,Qbl _⟩,⟨⟨c_Zc,by kernel_rfl,by kernel_rfl,Qbl _⟩,⟨⟨c_Zk,by kernel_rfl,by kernel_rfl,Qbl _⟩,trivial,trivial⟩,trivial⟩,⟨⟨c_Z2p,by kernel_rfl,by kernel_rfl,Qa6 k_Z2p⟩,trivial,trivial⟩⟩,⟨⟨c_Zb,by kernel_rfl,by kernel_rfl,Qbl _⟩,⟨⟨c_Z3p,by kernel_rfl,by kernel_rfl,Qbl _⟩,trivial,trivial⟩,⟨⟨c_Zg,by kernel_rfl,by kernel_rfl,Qbl _⟩,trivial,trivial⟩⟩⟩⟩⟩⟩⟩
theorem Wd9:E cx 6 [] []=some (.bool true,[]):=Woe Qwh (k:=100) (n:=40) (by kernel_rfl)
theorem Wmt {k:Nat} : ∀l:List (Sl (Cx k)),(∀s∈l,tot k s≤100)→wA l≤400 * l.length
 |[],h=>Xa1 _
 |s::r,h=>by
  have h1:=Wmt r fun s' h'=>h s' (Xax _ h')
  have h2:=Wmi k s
  have h3:=h s (Xaw ..)
  show wN k s+wA r≤400 * (r.length+1)
  omega
theorem Wof {r:Rd} : rdG (.bool true) true r=r:=rfl
theorem Wiv (c:Int) (U:Objs):E cx 15 [errN c] U=some (.int .i64 c,U):=by
 rw [Qmk (C:=cx) (h:=Qny) (by kernel_rfl)];rfl
theorem Wog (c:Int) (U:Objs):E cx 16 [errN c] U=some (.int .i64 0,U):=by
 rw [Qmk (C:=cx) (h:=atP) (by kernel_rfl)];rfl
theorem Wiw (i:Nat) (c:Int) (U:Objs):E cx 15 [errW i c] U=some (.int .i64 1,U):=by
 rw [Qmk (C:=cx) (h:=Qny) (by kernel_rfl)];rfl
theorem Woh (i:Nat) (c:Int) (U:Objs):E cx 16 [errW i c] U=some (.int .i64 i,U):=by
 rw [Qmk (C:=cx) (h:=atP) (by kernel_rfl)];rfl
theorem Quv {n:Nms} {k:Nat} : ∀(r:List (Sl (Cx k))) (p:Pln) (L:List (List Int)) (i j:Nat),Qfs n p L i r = .inr j→j<i+r.length
 |[],p,L,i,j,h=>by cases h
 |s::r,p,L,i,j,h=>by
  unfold Qfs at h
  rw [Xal]
  split at h
  ·have:=Quv r _ _ _ _ h
   omega
  ·cases h;omega
theorem Qr6 (n:Nms) {k:Nat} (LL:Sl (Sl (Cx k))) (hL:SlOk (SlOk (CxOk k)) LL):E cx 5 [vSl (vSl (vCx k)) LL,vNms n] []=some (.bool true,[]):=by
 show E cx 5 [vSl (vSl (vCx k)) LL,.agg (Qaa n)] []=_
 have w1:Wf [.cells (Qaa n)]:=Qa9 (Qab Qak Qaq)
 have h1:boxV [] (.agg (Qaa n))=some (.ptr 0 0,[.cells (Qaa n)]):=Qau ok_n no_n
 have l0:∀H:Objs,eL (.cells (Qaa n)::H) true 4 (.ptr 0 0)=some (.agg (Qaa n)):=fun H=>Qbf rfl rfl no_n
 have ks:=Qbe Qbb Wd9 rfl rfl _ w1
 obtain ⟨g,kg,hg⟩:=Wdn n LL hL
 have kg1:=kg _ w1
 have nZ:(vSl (vSl (vCx k)) LL).ng=vSl (vSl (vCx k)) LL:=Qaf
 rw [e_Z21]
 cases g with
 |true=>
  clear kg hg
  generalize vSl (vSl (vCx k)) LL=Zww at *
  generalize Qaa n=N at *
  simp +contextual -implicitDefEqProofs (disch:=try exact X0d) only [↓reduceIte,go_sem,s_Z21,h1,l0,ks,kg1,nZ]
 |false=>
  obtain ⟨g1,hn,g3⟩:=hg rfl
  have hw:wA LL.l≤800000:=by
   have:=Wmt LL.l fun s hs=>(g3 s hs).2.2
   omega
  have hB:∀s∈LL.l,Bd 41 k s:=fun s hs=>(g3 s hs).1
  have kp:=fun U hσ=>Wih hn LL g1 hB (fun s hs h=>Wax h) hw U hσ
  obtain ⟨x,hx,kx⟩:=Wl5 hn LL g1 hB hw
  have kx1:=kx _ w1
  have w2:Wf [.cells (Qaa n),.cells plZ]:=Qa9 (Qab Qak (Qab rfl Qaq))
  have kn:=fun U hσ=>Qmx hn U hσ
  clear kg g3 kx
  rcases hx with ⟨hok,rfl⟩|⟨hok,⟨i,hi,rfl⟩|⟨q,hq,rfl⟩⟩
  ·have kn1:=kn _ w2
   rw [hok] at kn1
   have q1:=Wiv 11 [.cells (Qaa n),.cells plZ]
   have q2:=Wog 11 [.cells (Qaa n),.cells plZ]
   have s1:stV [.cells (Qaa n),.cells [.nils,.nils,.nils,.nils,.int .i64 0]] 5 (.ptr 1 0) (.agg plZ) (.agg plZ)=some (.undef,[.cells (Qaa n),.cells plZ]):=rfl
   have nE:(errN 11).ng=errN 11:=rfl
   clear kp kn hB
   generalize errN 11=ER at *
   generalize vSl (vSl (vCx k)) LL=Zww at *
   generalize Qaa n=N at *
   generalize hP:plZ=P at *
   simp +contextual -implicitDefEqProofs (disch:=try exact X0d) only [↓reduceIte,go_sem,s_Z21,h1,l0,ks,kg1,kx1,nZ,s1,kn1,q1,q2,nE]
  ·have kn1:=kn _ w2
   rw [hok] at kn1
   have kp1:=kp _ w2
   rw [hi] at kp1
   have il:=Quv LL.l p0 [] 0 i hi
   have kp2:E cx 17 [vSl (vSl (vCx k)) LL,.agg (Qaa n)] [.cells (Qaa n),.cells plZ]=some (.tup [.agg plZ,.int .i64 i],[.cells (Qaa n),.cells plZ]):=kp1
   have w3:Wf [.cells (Qaa n),.cells plZ,.cells plZ]:=Qa9 (Qab Qak (Qab rfl (Qab rfl Qaq)))
   have q1:=Wiw i (chkS n (LL.l.getD i .nil)) [.cells (Qaa n),.cells plZ,.cells plZ]
   have q2:=Woh i (chkS n (LL.l.getD i .nil)) [.cells (Qaa n),.cells plZ,.cells plZ]
   have nE:(errW i (chkS n (LL.l.getD i .nil))).ng=errW i (chkS n (LL.l.getD i .nil)):=rfl
   have hG:PG p0 []:=⟨⟨by decide,by decide,by decide,by decide,by decide⟩,⟨fun c hc=>(by cases hc),fun r hr=>(by cases hr)⟩,fun l hl=>(by cases hl),by decide⟩
   have q3:E cx 18 [.agg plZ,.agg plZ] [.cells (Qaa n),.cells plZ,.cells plZ]=some (.bool true,[.cells (Qaa n),.cells plZ,.cells plZ]):=Wa1 hG _ w3
   have s1:stV [.cells (Qaa n),.cells [.nils,.nils,.nils,.nils,.int .i64 0]] 5 (.ptr 1 0) (.agg plZ) (.agg plZ)=some (.undef,[.cells (Qaa n),.cells plZ]):=rfl
   have s2:stV [.cells (Qaa n),.cells plZ,.cells [.nils,.nils,.nils,.nils,.int .i64 0]] 5 (.ptr 2 0) (.agg plZ) (.agg plZ)=some (.undef,[.cells (Qaa n),.cells plZ,.cells plZ]):=rfl
   have l1:∀H:Objs,eL (.cells (Qaa n) :: .cells plZ::H) true 5 (.ptr 1 0)=some (.agg plZ):=fun H=>rfl
   have b1:Qaw [.nils,.nils,.nils,.nils,.int .i64 0] []=some (.agg plZ):=rfl
   have e1:(0:Int)≤i:=by omega
   have e2:(i:Int)≤4:=by omega
   clear kp kn hB kp1 hG
   generalize errW i (chkS n (LL.l.getD i .nil))=ER at *
   generalize vSl (vSl (vCx k)) LL=Zww at *
   generalize Qaa n=N at *
   generalize hP:plZ=P at *
   simp +contextual -implicitDefEqProofs (disch:=try exact X0d) only [↓reduceIte,go_sem,s_Z21,h1,l0,ks,kg1,kx1,nZ,s1,s2,kn1,kp2,q1,q2,q3,nE,l1,b1,e1]
  ·have hG:PG q.1 q.2:=Waz hn LL.l p0 [] 0 0 q hq ⟨Xai _,Xai _,Xai _,Xc7 _,Xc7 _⟩ X0o ⟨fun c hc=>(by cases hc),fun r hr=>(by cases hr)⟩ (fun l hl=>(by cases hl)) (by simpa using g1)
   have w2':Wf [.cells (Qaa n),.cells (plC q.1 q.2)]:=Qa9 (Qab Qak (Qab Qcl Qaq))
   have w3:Wf [.cells (Qaa n),.cells (plC q.1 q.2),.cells (plD q.1 q.2)]:=Qa9 (Qab Qak (Qab Qcl (Qab Qcg Qaq)))
   have kn1:=kn _ w2'
   rw [hok] at kn1
   have kp1:=kp _ w2'
   rw [hq] at kp1
   have kp2:E cx 17 [vSl (vSl (vCx k)) LL,.agg (Qaa n)] [.cells (Qaa n),.cells (plC q.1 q.2)]=some (.tup [.agg (plD q.1 q.2),.int .i64 (-1)],[.cells (Qaa n),.cells (plC q.1 q.2)]):=kp1
   have k1:=Wit hG _ w3
   have k2:=Wd6 hG _ w3
   have k3:=Wa1 hG _ w3
   have k4:=Wmn hG _ w3
   have k5:=Wio hG _ w3
   have hk:=Qqk (p:=q.1) q.1.rows fun w hw=>(hG.2.1.2 w hw).1
   have hrl:=hG.1.2.1
   have hcl:=hG.1.2.2.1
   have k6:=Qr3 (Qd5 q.1.rows) X0o _ w3
   have k7:=Qr5 hG _ w3
   have k8:=Qwg hG _ w3
   have hp:=Qur (rows:=q.1.rows) q.2 [] fun x hx=>(hG.2.2.1 x hx).1
   have hLl:=hG.2.2.2
   have k9:=Wip (psd0 q.1.rows [] q.2) (by simp only [Xa9] at hp;omega) _ w3
   have m1:=Qr3 (spHs q.1.ctrs) (by unfold spHs;rw [Xao];omega) _ w3
   have m2:=Qr3 (spRs q.1.ctrs) (by unfold spRs;rw [Xao];omega) _ w3
   have s1:stV [.cells (Qaa n),.cells [.nils,.nils,.nils,.nils,.int .i64 0]] 5 (.ptr 1 0) (.agg (plC q.1 q.2)) (.agg (plC q.1 q.2))=some (.undef,[.cells (Qaa n),.cells (plC q.1 q.2)]):=Qc7 rfl rfl rfl Qwc Qqb
   have s2:stV [.cells (Qaa n),.cells (plC q.1 q.2),.cells [.nils,.nils,.nils,.nils,.int .i64 0]] 5 (.ptr 2 0) (.agg (plD q.1 q.2)) (.agg (plD q.1 q.2))=some (.undef,[.cells (Qaa n),.cells (plC q.1 q.2),.cells (plD q.1 q.2)]):=Qc7 rfl rfl rfl Qmz Qj2
   have l1:∀H:Objs,eL (.cells (Qaa n) :: .cells (plC q.1 q.2)::H) true 5 (.ptr 1 0)=some (.agg (plC q.1 q.2)):=fun H=>Qbf rfl rfl Qqb
   have l2:eL [.cells (Qaa n),.cells (plC q.1 q.2),.cells (plD q.1 q.2)] true 5 (.ptr 2 0)=some (.agg (plD q.1 q.2)):=Qbf rfl rfl Qj2
   have op:Qei [Qcn true 5 (.ptr 2 0)] [.cells (Qaa n),.cells (plC q.1 q.2),.cells (plD q.1 q.2)] [.cells (Qaa n),.cells (plC q.1 q.2),.cells (plD q.1 q.2)]=some [.cells (Qaa n),.cells (plC q.1 q.2),.cells (plD q.1 q.2)]:=Qod rfl
   have lk:Qgd [Qcn true 5 (.ptr 2 0)] [.cells (Qaa n),.cells (plC q.1 q.2),.cells (plD q.1 q.2)]=some [.cells (Qaa n),.cells (plC q.1 q.2),.cells (plD q.1 q.2)]:=rfl
   have nI:∀l,(vIs l).ng=vIs l:=fun l=>Qaf
   have nJ:∀l,(vI0 l).ng=vI0 l:=fun l=>Qaf
   have nTk:∀l,(vTn l).ng=vTn l:=fun l=>Qaf
   have nT:∀l,(vT0 l).ng=vT0 l:=fun l=>Qaf
   have x1:=nI (Qd5 q.1.rows)
   have x2:=nJ (Qd5 q.1.rows)
   have x3:=nTk (psd0 q.1.rows [] q.2)
   have x4:=nT (psd0 q.1.rows [] q.2)
   have x5:=nI (spHs q.1.ctrs)
   have x6:=nJ (spHs q.1.ctrs)
   have x7:=nI (spRs q.1.ctrs)
   have x8:=nJ (spRs q.1.ctrs)
   clear kp kn hB kp1 hG w2 w3 w2' hq nI nJ nTk nT hk hp
   generalize vIs (Qd5 q.1.rows)=A1 at *
   generalize vI0 (Qd5 q.1.rows)=A2 at *
   generalize vTn (psd0 q.1.rows [] q.2)=A3 at *
   generalize vT0 (psd0 q.1.rows [] q.2)=A4 at *
   generalize vIs (spHs q.1.ctrs)=A5 at *
   generalize vI0 (spHs q.1.ctrs)=A6 at *
   generalize vIs (spRs q.1.ctrs)=A7 at *
   generalize vI0 (spRs q.1.ctrs)=A8 at *
   generalize plC q.1 q.2=P at *
   generalize plD q.1 q.2=Q at *
   generalize vSl (vSl (vCx k)) LL=Zww at *
   generalize Qaa n=N at *
   simp +contextual -implicitDefEqProofs (disch:=try exact X0d) only [↓reduceIte,go_sem,s_Z21,h1,l0,ks,kg1,kx1,nZ,s1,s2,kn1,kp2,l1,l2,k1,k2,k3,k4,k5,k6,k7,k8,k9,m1,m2,Wof,lk,op,x1,x2,x3,x4,x5,x6,x7,x8]
end Go.Proofs.YtapnplljnpconaaGreatDoor
namespace Go.Proofs.YtapnplljnpconaaGreatDoor
open Go Go.Ev Go.ChangeShapes Go.WideShapes Go.RowKit
theorem Wfi:∀(n:Nat) (cs:List Value) (g:Nat→List Value),cs.length=2 * n→(∀i,i<n→(cs.drop (i * 2)).take 2=g i)→cs=(List.range n).flatMap g
 |0,cs,g,h,_=>by rw [Xap.1 (by omega:cs.length=0)];rfl
 |n+1,cs,g,h,hg=>by
  have h0:=hg 0 X0o
  rw [Xea,Xb0] at h0
  have ih:=Wfi n (cs.drop 2) (fun i=>g (i+1)) (by rw [Xa5];omega) (fun i hi=>by
   rw [Xcu]
   have:=hg (i+1) X0o
   rw [show (i+1) * 2=2+i * 2 by omega] at this
   exact this)
  rw [List.range_succ_eq_map,Xbp,List.flatMap_map,←h0]
  show cs=cs.take 2++(List.range n).flatMap fun i=>g (i+1)
  rw [←ih,Xdn]
theorem Qlz {Hww:Type} {enc:TypeId×Value→Hww} {P:Program} {w:World} {base:Nat} {sp:Nat→Bool} {held:Bool} {fuel:Nat} {t e:TypeId} {n:Nat} {cs:List Value} {zs:List (List UInt8)} {p:List MemPlace}
  (ht:P.underlying t=some (.array n e)) (he:P.underlying e=some .string) (hce:P.cellsOf e=1) (hct:P.cellsOf t=n)
  (h:DataW.trod enc P w base sp held fuel t cs=some (.agg (zs.map fun z=>.lit (.string z)),p)):cs=zs.map fun z=>Value.string ⟨z.toArray⟩:=by
 cases fuel with
 |zero=>simp [DataW.trod] at h
 |succ fuel=>
  simp only [DataW.trod,ht,hce,hct,Nat.mul_one] at h
  split at h
  ·rename_i hl
   obtain ⟨xs,hm,hx⟩:=Xam.1 h
   have hxs:xs.map (·.1)=zs.map fun z=>(DataW.lit (.string z):DataW Hww):=by
    have:=congrArg Prod.fst hx
    simpa using this
   have hxl:xs.length=n:=by simpa using Lib.mapM_length hm
   have hzl:zs.length=n:=by
    have:=congrArg List.length hxs
    simp at this
    omega
   apply Xbz
   intro i
   by_cases hi:i<n
   ·obtain ⟨b,hb,hf⟩:=Lib.mapM_at hm i i (by simp [hi])
    obtain ⟨c,hc⟩:∃c,cs[i]? = some c:=⟨cs[i]'X0o,Xae X0o⟩
    have hone:(cs.drop i).take 1=[c]:=by
     rw [Xbn X0o]
     have:=(Xaf.1 hc).2
     rw [this];rfl
    rw [hone] at hf
    have h2:(xs.map (·.1))[i]? = some b.1:=by simp [hb]
    rw [hxs] at h2
    simp only [Xan,Xam] at h2
    obtain ⟨z,hz,hz2⟩:=h2
    have hcz:c = .string ⟨z.toArray⟩:=by
     cases fuel with
     |zero=>simp [DataW.trod] at hf
     |succ fuel=>
      cases c with
      |string s=>
       simp only [DataW.trod,he] at hf
       split at hf
       ·cases hf
        cases hz2
        rfl
       ·cases hf
      |_=>simp [DataW.trod,he] at hf
    rw [hc,Xan,hz,hcz];rfl
   ·rw [Xa3 X0o,Xa3 (by simp;omega)]
  ·cases h
theorem Qfu {P:Program} {W:World} {n:String} {g:Nat} {us:List Value} {Vs:List V} (hg:P.globalNamed n=some g) (hv:W.var? P n=some us.toArray) (hl:Vs.length=us.length) (hr:∀(i:Nat) u c,us[i]? = some u→Vs[i]? = some c→Rep (memOf W) noPlc u c):
  Rep (memOf W) noPlc (.pointer (some ⟨g,0,none⟩)) (.eptr Vs 0):=by
 refine Rep.eptr (M:=memOf W) (Z:=noPlc) Vs 0 g 0 us X0o (fun i u hu => ?_) hr
 have h:=World.var?_cell hg hv i
 rw [Xb1]
 exact h.trans (by rw [Xdk];exact hu)
end Go.Proofs.YtapnplljnpconaaGreatDoor
namespace Go.Proofs.YtapnplljnpconaaGreatDoor
open Go.ChangeShapes Go.WideShapes Go.RowKit Go.Joins
open Go.ChangeMaps (open_string)
theorem Tryz.et:prog.globalNamed "errors.errorType" = some 0:=by kernel_rfl
theorem Tryz.rt:(prog.cutTypes.find? (fun x=>x.1 == "internal/reflectlite.rtype")).map (fun x=>x.2)=some 157:=by kernel_rfl
theorem Tryz.oneRow:((List.range 271).filter fun t=>prog.rowNamed t [101,114,114,111,114])=[35]:=by kernel_rfl
theorem Tryz.ntypes:prog.types.size=271:=by kernel_rfl
theorem Wbb {l:List (String×DataW Unit)} {d:DataW Unit} (hl:(l.filter fun x=>x.2.handleName?.isSome)=[("errors.errorType",d)]) (hd:d.handleName? = some [101,114,114,111,114]) (hf:d.funcsIn? = none) {W:World} (h:laidMetH prog l W):Qgj W:=by
 obtain ⟨_,h'⟩:=laidMetH_iff.1 h
 rw [hl] at h'
 have h2:=h' _ (Xbr.2 rfl)
 simp only [hf] at h2
 obtain ⟨name,u,ty,e1,e2,e3,e4,e5⟩:=h2
 have en:name=[101,114,114,111,114]:=(Xbi (hd.symm.trans e1)).symm
 subst en
 obtain rfl:=Xbi (Tryz.rt.symm.trans e2)
 have hm:ty∈(List.range 271).filter fun t=>prog.rowNamed t [101,114,114,111,114]:=List.mem_filter.2 ⟨Xd3.2 (by rw [←Tryz.ntypes];exact e3),e4⟩
 rw [Tryz.oneRow] at hm
 obtain rfl:=Xbr.1 hm
 have hh:typeHandle prog 35 = .pointer (some ⟨5,35,none⟩):=by kernel_rfl
 rw [hh] at e5
 simpa [Qgj] using World.var?_cell Tryz.et e5 0
noncomputable def Wbc (os:Os) (l:List (String×DataW Unit)):World:=
 let w0:=World.laidAll prog os (l.filter fun x=>x.2.handleName?.isNone)
 { w0 with heap:=w0.heap.modify 0 fun
   | .cells _ t frozen=>.cells #[.iface 157 (.agg #[.pointer (some ⟨5,35,none⟩)])] t frozen
   |o=>o }
open Go Go.Ev
def accI:List Int:=accN.flatMap fun p=>[(p.1:Int),(p.2:Int)]
theorem Quw:prog.globalNamed "wattle/sel.states" = some 3:=by kernel_rfl
theorem Qm2:prog.globalNamed "wattle/sel.elements" = some 4:=by kernel_rfl
theorem Wbd:prog.globalNamed "unicode/utf8.first" = some 1:=by kernel_rfl
theorem Wmu:prog.globalNamed "unicode/utf8.acceptRanges" = some 2:=by kernel_rfl
theorem Wix {W:World} (h:laidMetH prog Rows.flatMakesRow.laid W):∀g,Ev.Rep (Ev.memOf W) Ev.noPlc (.pointer (some ⟨g,0,none⟩)) (gTab g):=by
 have hm:laidMet prog [("unicode/utf8.acceptRanges",Rows.laid_unicode_utf8_acceptRanges),("wattle/sel.states",Rows.laid_wattle_sel_states),("wattle/sel.elements",Rows.laid_wattle_sel_elements),("unicode/utf8.first",Rows.laid_unicode_utf8_first)] W:=(laidMetH_iff.1 h).1
 intro g
 unfold gTab
 split
 ·rename_i e
  subst e
  obtain ⟨g,t,cs,fuel,p,e1,e2,e3,e4⟩:=Lib.laidMet.reads hm (n:="wattle/sel.states") (d:=Rows.laid_wattle_sel_states) (by simp)
  obtain rfl:=Xbi (e1.symm.trans Quw)
  obtain rfl:=Xbi (e2.symm.trans (show _=some 218 by kernel_rfl))
  have e5:cs.toList=Qci.map fun z=>Value.string ⟨z.toArray⟩:=Qlz Tryz.underlying218 Tryz.underlying9 (by kernel_rfl) (by kernel_rfl) e4
  refine Qfu (us:=Qci.map fun z=>Value.string ⟨z.toArray⟩) Quw (by rw [e3,←e5]) (by simp [Qrs]) (fun i u c hu hc => ?_)
  unfold Qrs at hc
  rw [Xan] at hu hc
  cases hz:Qci[i]? with
  |none=>rw [hz] at hu;cases hu
  |some z=>
   rw [hz] at hu hc
   cases hu;cases hc
   exact .str _ _ rfl
 split
 ·rename_i e
  subst e
  obtain ⟨g,t,cs,fuel,p,e1,e2,e3,e4⟩:=Lib.laidMet.reads hm (n:="wattle/sel.elements") (d:=Rows.laid_wattle_sel_elements) (by simp)
  obtain rfl:=Xbi (e1.symm.trans Qm2)
  obtain rfl:=Xbi (e2.symm.trans (show _=some 219 by kernel_rfl))
  have e5:cs.toList=Qbs.map fun z=>Value.string ⟨z.toArray⟩:=Qlz Tryz.underlying219 Tryz.underlying9 (by kernel_rfl) (by kernel_rfl) e4
  refine Qfu (us:=Qbs.map fun z=>Value.string ⟨z.toArray⟩) Qm2 (by rw [e3,←e5]) (by simp [Qlb]) (fun i u c hu hc => ?_)
  unfold Qlb at hc
  rw [Xan] at hu hc
  cases hz:Qbs[i]? with
  |none=>rw [hz] at hu;cases hu
  |some z=>
   rw [hz] at hu hc
   cases hu;cases hc
   exact .str _ _ rfl
 split
 ·rename_i e
  subst e
  obtain ⟨g,t,cs,fuel,p,e1,e2,e3,e4⟩:=Lib.laidMet.reads hm (n:="unicode/utf8.first") (d:=Rows.laid_unicode_utf8_first) (by simp)
  obtain rfl:=Xbi (e1.symm.trans Wbd)
  obtain rfl:=Xbi (e2.symm.trans (show _=some 193 by kernel_rfl))
  have hd:Rows.laid_unicode_utf8_first=Lib.tabData .u8 (Qfz.map fun (n:Nat)=>(n:Int)):=by kernel_rfl
  rw [hd] at e4
  have e5:=Lib.cells_of_tab Tryz.underlying193 Tryz.underlying5 (by kernel_rfl) (by kernel_rfl) e4
  refine Qfu (us:=(Qfz.map fun (n:Nat)=>(n:Int)).map fun z=>Value.int .u8 z) Wbd (by rw [e3,←e5]) (by simp [Qil]) (fun i u c hu hc => ?_)
  unfold Qil at hc
  rw [Xan,Xan] at hu
  rw [Xan] at hc
  cases hz:Qfz[i]? with
  |none=>rw [hz] at hu;cases hu
  |some z=>
   rw [hz] at hu hc
   cases hu;cases hc
   exact .int _ _
 split
 ·rename_i e
  subst e
  obtain ⟨g,t,cs,fuel,p,e1,e2,e3,e4⟩:=Lib.laidMet.reads hm (n:="unicode/utf8.acceptRanges") (d:=Rows.laid_unicode_utf8_acceptRanges) (by simp)
  obtain rfl:=Xbi (e1.symm.trans Wmu)
  obtain rfl:=Xbi (e2.symm.trans (show _=some 196 by kernel_rfl))
  have hd:(Rows.laid_unicode_utf8_acceptRanges:DataW Unit) = .agg (accN.map fun p=>.agg ([(p.1:Int),(p.2:Int)].map fun z=>.lit (.int .u8 z))):=by kernel_rfl
  rw [hd] at e4
  have hlen:cs.toList.length=2 * 16:=by
   cases fuel with
   |zero=>simp [DataW.trod] at e4
   |succ fuel=>
    simp only [DataW.trod,Tryz.underlying196] at e4
    split at e4
    ·rename_i hl;rw [hl];kernel_rfl
    ·cases e4
  have e5:=Wfi 16 cs.toList (fun i=>[Value.int .u8 ((accN.getD i (0,0)).1:Int),.int .u8 ((accN.getD i (0,0)).2:Int)]) hlen (fun i hi=>by
   obtain ⟨fuel',d,q,h1,h2⟩:=Lib.array_elem Tryz.underlying196 e4 i hi
   have hc2:prog.cellsOf 195=2:=by kernel_rfl
   rw [hc2] at h2
   have hi':i<accN.length:=hi
   rw [Xan,Xae hi'] at h1
   simp only [Xag,Xah] at h1
   have hgd:accN.getD i (0,0)=accN[i]:=by rw [Xav,Xae hi'];rfl
   rw [←h1] at h2
   rw [hgd]
   exact Lib.ints_of_struct Tryz.underlying195 (fun j f hf=>by
    match j,hf with
    |0,hf=>cases hf;exact ⟨Tryz.underlying5,rfl,by kernel_rfl⟩
    |1,hf=>cases hf;exact ⟨Tryz.underlying5,rfl,by kernel_rfl⟩
    |j+2,hf=>exact absurd hf (by simp)) (by kernel_rfl) h2)
  have e6:(List.range 16).flatMap (fun i=>[Value.int .u8 ((accN.getD i (0,0)).1:Int),.int .u8 ((accN.getD i (0,0)).2:Int)])=accI.map (Value.int .u8):=by kernel_rfl
  refine Qfu (us:=accI.map (Value.int .u8)) Wmu (by rw [e3,←e6,←e5]) (by kernel_rfl) (fun i u c hu hc => ?_)
  have e7:accV=accI.map (V.int .u8):=by kernel_rfl
  rw [e7] at hc
  rw [Xan] at hu hc
  cases hz:accI[i]? with
  |none=>rw [hz] at hu;cases hu
  |some z=>
   rw [hz] at hu hc
   cases hu;cases hc
   exact .int _ _
 ·exact .any _
set_option maxRecDepth 100000 in
theorem Qj7 (os:Os) (started:os.Started) (Hww:Type) (enc:TypeId×Value→Hww):
  ReturnsInHanded {} Tryz.checked os 5 .any (fun w args=>(Rows.flatMakesSpec.pre enc prog Tryz.f5 [] false w args∧laidMetH prog Rows.flatMakesRow.laid w)∧sizedMet enc prog Tryz.f5 (OpenSpec.ofChange Rows.flatMakesSpec) false w args)
   (Rows.flatMakesSpec.post enc prog Tryz.f5 false true false false):=by
 refine returnsInHanded_of_change_and (C:=Tryz.checked) (X:=fun w _=>laidMetH prog Rows.flatMakesRow.laid w) (fun _ _ _ hh h=>h.of_heap hh) Tryz.ownKnob started (by kernel_rfl) func5
  (ChangeSpec.witness_shaped (enc:=enc) (C:=Tryz.checked) (os:=os) (X:=fun w _=>laidMetH prog Rows.flatMakesRow.laid w) false (Wbc os Rows.flatMakesRow.laid) #[.slice none 0 0,.agg #[.bool false,.string ⟨#[]⟩,.slice none 0 0,.slice none 0 0]] 8 (World.laidAll_os _ _ _) (World.shaped_of_ZipB (by kernel_rfl) (by kernel_rfl)) (by kernel_rfl) (by kernel_rfl) (by kernel_rfl)
   (laidMetH_of_parts (laidMet_of_run' 8 (by kernel_rfl) (by kernel_rfl)) (by kernel_rfl))) ?_
 intro W base args ds gs before hval0 hW _ hS hL _
 have hval:∀(j:Nat) t v,Tryz.f5.params[j]? = some t→args[j]? = some v→Value.okWide prog W .any base t v:=hval0
 have hW':=hW
 obtain ⟨p,q,hA0,hV0,rfl,hfz,hnd⟩:=hW
 have hA:DataW.TrodAll enc prog W 0 (fun _=>true) true Tryz.f5.params.toList args.toList ds p:=hA0
 have hV:DataW.TrodVars enc prog W (fun _=>true) [] gs q:=hV0
 rw [Tryz.params5] at hA hval hS
 obtain ⟨v0,v1,d0,d1,p0,p1,rfl,rfl,rfl,h0,h1⟩:=trodAll_two hA
 obtain ⟨rfl,rfl⟩:=trodVars_none hV
 have z0:Hv prog 22 d0:=fun m hm=>by
  have:=Xbb.1 hS m (DataW.weights_mem_each (j:=0) (t:=22) (d:=d0) rfl rfl m hm)
  simpa using this
 obtain ⟨k0,x0,q0,hb0⟩:=Qv0 (hval 0 22 v0 rfl rfl) h0 z0
 have z1:Hv prog 25 d1:=fun m hm=>by
  have:=Xbb.1 hS m (DataW.weights_mem_each (j:=1) (t:=25) (d:=d1) rfl rfl m hm)
  simpa using this
 obtain ⟨x1,q1,hb1⟩:=Qv1 (hval 1 25 v1 rfl rfl) h1 z1
 clear hA0 hval0
 obtain ⟨nf,hev⟩:=Ev.ev_of_E Wk5 (Qr6 x1 x0 q0)
 refine (Ev.calls_of_ev (P:=prog) (by kernel_rfl) cx Whf Wm5 (F:=c_Z21) rfl W (args:=[vSl (vSl (vCx k0)) x0,vNms x1]) (Ev.Reps.cons (hb0) (Ev.Reps.cons (hb1) (Ev.Reps.nil))) (by intro x hx;simp only [Xay,Xc6,or_false] at hx;(repeat' (rcases hx with rfl|hx));all_goals first|rfl|exact Qaf|(subst hx;first|rfl|exact Qaf)) ⟨Wix hL,fun p hp=>by obtain rfl:=Xbr.1 hp;exact Wbb (d:=Rows.laid_errors_errorType) (by kernel_rfl) (by kernel_rfl) (by kernel_rfl) hL⟩ hev).mono fun e W' ⟨he,hb⟩ => ?_
 subst he
 exact ⟨_,rfl,Wdh (tb:=4) Tryz.laidOut (by rw [Tryz.params5];intro t ht;simp only [Xay,Xc6,or_false] at ht;(repeat' (rcases ht with rfl|ht));all_goals first|exact ⟨by kernel_rfl,of_decide_eq_true (by kernel_rfl)⟩|(subst ht;exact ⟨by kernel_rfl,of_decide_eq_true (by kernel_rfl)⟩)) hW' rfl rfl Tryz.underlying4 rfl hb⟩
theorem Ql0:Rows.FlatMakesSaid:=
 OpenClaim.holds_of_wide 5 Tryz.f5 rfl rfl rfl rfl rfl rfl rfl ⟨rfl,rfl,rfl,rfl,rfl⟩ rfl rfl rfl rfl rfl (by kernel_rfl) func5 (by kernel_rfl)
  (of_decide_eq_true (by kernel_rfl)) (by unfold Func.isWrapper;rw [if_neg (of_decide_eq_false (by kernel_rfl))];exact ⟨rfl,rfl⟩)
  (fun os started Hww enc _=>Qj7 os started Hww enc)
theorem flatMakes_card:Rows.FlatMakesCardSaid:=
 Claim7.holds_tied_plain_at .later [] _ _ _ _
  Ql0 (fun _ h=>by cases h) (by kernel_rfl) (fun _ h=>by cases h) flatMakes_row_tie rfl ⟨rfl,rfl⟩ (by kernel_rfl) rfl
  (fun f fn hf hfn=>by
   obtain rfl:f=5:=Xbi ((show prog.funcNamed "wattle/wattlelaw14.FlatMakes" = some 5 by kernel_rfl).symm.trans hf) |>.symm
   obtain rfl:fn=Tryz.f5:=(Xbi (func5.symm.trans hfn)).symm
   exact ⟨by kernel_rfl,fun j t ht=>by
    rw [Tryz.params5] at ht
    have hm:=Array.mem_of_getElem? ht
    simp only [List.mem_toArray,Xay,Xc6,or_false] at hm
    (repeat' (rcases hm with rfl|hm))
    all_goals first|(subst hm;show prog.wantsStandIn _=false;kernel_rfl)|(show prog.wantsStandIn _=false;kernel_rfl)⟩)
  (by kernel_rfl)
#print axioms flatMakes_card
end Go.Proofs.YtapnplljnpconaaGreatDoor
