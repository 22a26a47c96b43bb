/- Part of a proof: the small language, and functions of the program on it. -/
import Derived.Test.YtapnplljnpconaaGreatDoorFlXa
import Derived.Laws.Sem
import Derived.Test.YtapnplljnpconaaGreatDoorChecked
set_option linter.unusedSimpArgs false
set_option linter.unusedVariables false
set_option linter.unusedSectionVars false
set_option maxRecDepth 100000
open Go.Proofs.Tryz
namespace Go.Ev
open Go
section
variable {P:Program} {ops:Array Oper} {l:List DS} {dp:List (List Nat)} {G:GV} {call:FuncId→List V→Objs→Option (V×Objs)} {R:Nat→List V} {S:Nat→Objs}
theorem Qgx (hk:DrwOK P ops l dp) (hc:Canon G call l R S) {p:Nat} (hp:p<l.length) (hd:dly (dsAt l p).s.ins=true):Qb4 G call (dsAt l p).s (R p) (S p)=some (R (p+1),S (p+1)):=by
 obtain ⟨U0,U1,h1,h2,h3,_⟩:=hc p hp
 rw [hk.un p hp hd] at h1 h3
 simp only [Xa8,List.filterMap_nil,Qg8,Qe0,Xah] at h1 h3
 rw [h1,←h3];exact h2
theorem Qid {A:Arg→V} {U:Objs} {i:Ins} (h:neutral i=true):reads A U i = .none:=by
 cases i <;> first|rfl|cases h
inductive LateCase (G:GV) (l:List DS) (R:Nat→List V) (S:Nat→Objs) (p:Nat):Prop
 |none (h1:S (p+1)=S p) (h2:rdAt G l R S p = .none)
 |same (ex:Bool) (o off n:Nat) (h1:S (p+1)=S p) (h2:rdAt G l R S p = .same ex o off n) (h3:Same (S p) (S p) (.same ex o off n)) (h4:Quiet (S p) (.same ex o off n))
 |took (o off:Nat) (cs xs:List V) (s:Nat) (h1:(S p)[o]? = some (.cells cs)) (h2:cs[off]? = some (.sl xs (.gr s))) (h3:S (p+1)=(S p).set o (.cells (cs.set off (.sl xs .no)))) (h4:rdAt G l R S p = .took o off)
 |made (cs:List V) (h1:S (p+1)=S p++[.cells cs]) (h2:rdAt G l R S p = .made (S p).length) (h3:∀x∈cs,noGr x)
theorem Qo3 {x:V} (h:x.ng=x):noGr x:=fun xs s e=>by subst e;cases h
theorem Qk1 (hk:DrwOK P ops l dp) (hc:Canon G call l R S) {p:Nat} (hp:p<l.length) (hd:dly (dsAt l p).s.ins=true):LateCase G l R S p:=by
 have h:=Qgx hk hc hp hd
 obtain ⟨op,hop,hcs⟩:=hk.step p hp
 simp only [Qev,Xac] at hcs
 have hci:=hcs.1.2
 have hrd:∀b,wanted (R p) (dsAt l p).s.gd=some b→rdAt G l R S p=if b then reads (arg G (R p)) (S p) (dsAt l p).s.ins else .none:=fun b hb=>by unfold rdAt;rw [hb];rfl
 unfold Qb4 ev1 at h
 simp only [Xaa,Xab] at h
 obtain ⟨b,hb,h⟩:=h
 cases b with
 |false=>
  simp only [Xaj,if_false,Xah,Prod.mk.injEq] at h
  exact .none h.2.symm (by rw [hrd _ hb];rfl)
 |true=>
  simp only [if_true,Xab,Xah,Prod.mk.injEq] at h
  obtain ⟨⟨v,U2⟩,hi,-,h2⟩:=h
  simp only at h2
  subst h2
  have hr:=hrd _ hb
  simp only [if_true] at hr
  by_cases hn:neutral (dsAt l p).s.ins=true
  ·obtain ⟨e,_⟩:=Qic (U2:=S p) hn hi
   exact .none e (by rw [hr,Qid hn])
  ·generalize hins:(dsAt l p).s.ins=ins at *
   cases ins <;> (try (exact absurd hd hn)) <;> (try (cases hd;done))
   case load ag sz x=>
    simp only [Qa5,Qa8,Xaa,Xab,Xah,Prod.mk.injEq] at hi
    obtain ⟨y,hy,_,h2⟩:=hi
    simp only [reads] at hr
    split at hr
    ·rename_i o off ho
     rw [ho] at hy
     simp only [eL,Xaa,Xab] at hy
     obtain ⟨cs,hcs,_⟩:=hy
     exact .same false o off _ h2.symm hr ⟨cs,cs,hcs,hcs,rfl,rfl⟩ trivial
    ·exact .none h2.symm hr
   case loadT x=>
    simp only [Qa5] at hi
    simp only [reads] at hr
    split at hi
    ·rename_i o off ho
     rw [ho] at hr
     simp only [Xaa,Xab] at hi
     obtain ⟨cs,hcs,c,hcc,hi⟩:=hi
     simp only [hcs,Xad,hcc] at hr
     split at hi
     ·rename_i xs s
      simp only [Xah,Prod.mk.injEq] at hi
      exact .took o off cs xs s (Qbu hcs) hcc hi.2.symm hr
     ·cases hi
     ·rename_i hng _
      simp only [Xah,Prod.mk.injEq] at hi
      have hr':rdAt G l R S p = .same true o off 1:=by
       rw [hr]
       split
       ·rename_i xs s e
        cases e
        exact absurd rfl (hng xs s)
       ·rfl
      refine .same true o off 1 hi.2.symm hr' ⟨cs,cs,hcs,hcs,rfl,rfl⟩ (fun ds hds y hy => ?_)
      rw [hcs] at hds;cases hds
      obtain ⟨j,hj⟩:=Xcc.1 hy
      rw [Xar] at hj
      split at hj
      ·rename_i hj1
       rw [Xa6,show off+j=off from by omega,hcc] at hj
       cases hj
       exact fun xs s e=>hng xs s e
      ·cases hj
    ·rename_i cs off ho
     rw [ho] at hr
     simp only [Xaa,Xab,Xah,Prod.mk.injEq] at hi
     obtain ⟨_,_,_,h2⟩:=hi
     exact .none h2.symm hr
    ·cases hi
   case alloc z=>
    simp only [Qa5] at hi
    split at hi
    ·simp only [Xah,Prod.mk.injEq] at hi
     refine .made z hi.2.symm hr (fun y hy => ?_)
     cases hoo:op.op <;> rw [hoo] at hci <;> (try (cases hci;done))
     simp only [Qba] at hci
     split at hci
     ·exact Qo3 ((Qb5 (M:=fun _ _=>none) (Z:=fun _=>none) hci).2.1 y hy).2
     ·cases hci
    ·cases hi
   case box x=>
    simp only [Qa5] at hi
    split at hi
    ·simp only [Xah,Prod.mk.injEq] at hi
     refine .made _ hi.2.symm hr (fun y hy => ?_)
     obtain ⟨z,_,rfl⟩:=Xbc.1 hy
     exact Qo3 (V.nogr_nogr z)
    ·cases hi
theorem LateCase.late {p:Nat} (h:LateCase G l R S p):Late (S p) (S (p+1)):=by
 cases h with
 |none h1=>rw [h1];exact .stay
 |same ex o off n h1=>rw [h1];exact .stay
 |took o off cs xs s h1 h2 h3=>rw [h3];exact .took o off cs xs s h1 h2
 |made cs h1=>rw [h1];exact .made cs
theorem Late.len {U U':Objs} (h:Late U U'):U.length≤U'.length:=by cases h <;> simp
def pend (L:Nat→Prop) (c p:Nat):Prop:=p<c∧¬L p
def XR (X:Nat→Prop) (L:Nat→Prop) (c:Nat) (rs:Nat→Option Nat) (b:Nat):Prop:=X b∨∃p,pend L c p∧rs p=some b
structure Took (S:Nat→Objs) (M:Mem) (Z:Plc) (w:World) (rs:Nat→Option Nat) (p o off:Nat) (xs:List V) (s b bb:Nat) (v:Value) (cs:List V):Prop where
 i:Z o=some b
 cell:w.cell? ⟨b,off,none⟩=some v
 rep:Rep M Z v (.sl xs (.gr s))
 own:ownB v (.sl xs (.gr s))=some bb
 rs:rs p=some bb
 gr:GrOK M w v (.sl xs (.gr s))
 obj:(S p)[o]? = some (.cells cs)
 val:cs[off]? = some (.sl xs (.gr s))
structure Inv (G:GV) (l:List DS) (dp:List (List Nat)) (R:Nat→List V) (S:Nat→Objs) (X:Nat→Prop) (L:Nat→Prop) (c:Nat) (us:List Value) (J:List V) (w:World) (M:Mem) (Z:Plc) (D:Own) (rs:Nat→Option Nat):Prop where
 cn:c≤l.length
 cl:Closed l dp L
 lt:∀p,L p→p<c
 eff:∀p,p<c→dly (dsAt l p).s.ins=false→L p
 slot:Qmg l R L J
 st:St M Z (XR X L c rs) D w us J (S c)
 rsx:∀p b,pend L c p→rs p=some b→¬X b
 rsi:∀p q b,pend L c p→pend L c q→rs p=some b→rs q=some b→p=q
 same:∀p,pend L c p→Same (S (p+1)) (S c) (rdAt G l R S p)
 quiet:∀p,pend L c p→Quiet (S c) (rdAt G l R S p)
 made:∀p o,pend L c p→rdAt G l R S p = .made o→Z o=none
 mdist:∀p q o,pend L c p→pend L c q→rdAt G l R S p = .made o→rdAt G l R S q = .made o→p=q
 took:∀p o off,pend L c p→rdAt G l R S p = .took o off→o<(S c).length∧((Z o=none∧∀q,pend L c q→rdAt G l R S q≠.made o)∨∃xs s b bb v cs,Took S M Z w rs p o off xs s b bb v cs)
section
variable {X:Nat→Prop} {L:Nat→Prop} {c:Nat} {us:List Value} {J:List V} {w:World} {M:Mem} {Z:Plc} {D:Own} {rs:Nat→Option Nat}
theorem St.moreX {X':Nat→Prop} {U:Objs} (h:St M Z X D w us J U) (h1:∀b,X' b→b<w.heap.size) (h2:∀o b,Z o=some b→¬X' b) (h3:∀b p,D b=some p→¬X' b):St M Z X' D w us J U:=
 ⟨⟨h.wd.mem,h.wd.obj,h.wd.olt,h.wd.inj,h1,h2,fun b p hp=>⟨h3 b p hp,(h.wd.kap b p hp).2⟩⟩,h.rep,h.own,h.gr⟩
theorem St.lessX {X':Nat→Prop} {U:Objs} (h:St M Z X D w us J U) (hX:∀b,X' b→X b):St M Z X' D w us J U:=
 h.moreX (fun b hb=>h.wd.xlt b (hX b hb)) (fun o b hi hb=>h.wd.xobj o b hi (hX b hb)) (fun b p hp hb=>(h.wd.kap b p hp).1 (hX b hb))
theorem Qbr {L:Nat→Prop} {c p:Nat} (h:pend L (c+1) p):p=c∨pend L c p:=by
 rcases Xby p c with hlt|hge
 ·exact .inr ⟨hlt,h.2⟩
 ·left;have:=h.1;omega
theorem Inv.advance (hk:DrwOK P ops l dp) (hc:Canon G call l R S) (h:Inv G l dp R S X L c us J w M Z D rs) (hcn:c<l.length) (hd:dly (dsAt l c).s.ins=true):∃D' rs',Inv G l dp R S X L (c+1) us J w M Z D' rs':=by
 have hLc:¬L c:=fun hl=>by have:=h.lt c hl;omega
 have hcase:=Qk1 hk hc hcn hd
 have hlate:=hcase.late
 have hlen:=hlate.len
 have hsame:∀p,pend L c p→Same (S c) (S (c+1)) (rdAt G l R S p):=fun p hp=>Qxb hlate (h.quiet p hp) ⟨_,h.same p hp⟩
 have eff':∀p,p<c+1→dly (dsAt l p).s.ins=false→L p:=fun p hp hdp=>by
  rcases Xby p c with hlt|hge
  ·exact h.eff p hlt hdp
  ·have:p=c:=by omega
   subst this
   rw [hd] at hdp;cases hdp
 have lt':∀p,L p→p<c+1:=fun p hp=>by have:=h.lt p hp;omega
 have old:∀(D':Own) (rs':Nat→Option Nat),(∀p,pend L c p→rs' p=rs p)→St M Z (XR X L (c+1) rs') D' w us J (S (c+1))→(∀b,rs' c=some b→¬X b)→(∀p b,pend L c p→rs p=some b→rs' c=some b→False)→
   Same (S (c+1)) (S (c+1)) (rdAt G l R S c)→Quiet (S (c+1)) (rdAt G l R S c)→(∀o,rdAt G l R S c = .made o→Z o=none∧o=(S c).length)→
   (∀o off,rdAt G l R S c = .took o off→o<(S (c+1)).length∧((Z o=none∧∀q,pend L c q→rdAt G l R S q≠.made o)∨∃xs s b bb v cs,Took S M Z w rs' c o off xs s b bb v cs))→
   Inv G l dp R S X L (c+1) us J w M Z D' rs':=by
  intro D' rs' hrs hst hx hxx hsm hq hmd htk
  refine ⟨by omega,h.cl,lt',eff',h.slot,hst,fun p b hp hb => ?_,fun p q b hp hq' hb hb' => ?_,fun p hp => ?_,fun p hp => ?_,fun p o hp ho => ?_,fun p q o hp hq' ho ho' => ?_,fun p o off hp ho => ?_⟩
  ·rcases Qbr hp with rfl|hp
   ·exact hx b hb
   ·rw [hrs p hp] at hb;exact h.rsx p b hp hb
  ·rcases Qbr hp with rfl|hp
   ·rcases Qbr hq' with rfl|hq'
    ·rfl
    ·rw [hrs q hq'] at hb';exact absurd hb (fun e=>hxx q b hq' hb' e)
   ·rw [hrs p hp] at hb
    rcases Qbr hq' with rfl|hq'
    ·exact absurd hb' (fun e=>hxx p b hp hb e)
    ·rw [hrs q hq'] at hb';exact h.rsi p q b hp hq' hb hb'
  ·rcases Qbr hp with rfl|hp
   ·exact hsm
   ·exact (h.same p hp).trans (hsame p hp)
  ·rcases Qbr hp with rfl|hp
   ·exact hq
   ·exact (h.quiet p hp).same (hsame p hp)
  ·rcases Qbr hp with rfl|hp
   ·exact (hmd o ho).1
   ·exact h.made p o hp ho
  ·have lt1:∀q o,pend L c q→rdAt G l R S q = .made o→o<(S c).length:=fun q o hq ho=>by
    have:=h.same q hq
    rw [ho] at this
    obtain ⟨cs,_,h2⟩:=this
    exact (Xaf.1 (Qbu h2)).1
   rcases Qbr hp with rfl|hp
   ·rcases Qbr hq' with rfl|hq'
    ·rfl
    ·have:=lt1 q o hq' ho';have:=(hmd o ho).2;omega
   ·rcases Qbr hq' with rfl|hq'
    ·have:=lt1 p o hp ho;have:=(hmd o ho').2;omega
    ·exact h.mdist p q o hp hq' ho ho'
  ·rcases Qbr hp with rfl|hp
   ·obtain ⟨h1,h2⟩:=htk o off ho
    refine ⟨h1,h2.imp (fun ⟨a,b⟩=>⟨a,fun q hq' hm => ?_⟩) id⟩
    rcases Qbr hq' with rfl|hq'
    ·rw [ho] at hm;cases hm
    ·exact b q hq' hm
   ·obtain ⟨h1,h2⟩:=h.took p o off hp ho
    refine ⟨by omega,h2.imp (fun ⟨a,b⟩=>⟨a,fun q hq' hm => ?_⟩) fun ⟨xs,s,b,bb,v,cs,ht⟩=>⟨xs,s,b,bb,v,cs,ht.i,ht.cell,ht.rep,ht.own,by rw [hrs p hp];exact ht.rs,ht.gr,ht.obj,ht.val⟩⟩
    rcases Qbr hq' with rfl|hq'
    ·have:=(hmd o hm).2;omega
    ·exact b q hq' hm
 have plain:∀ {U':Objs},S (c+1)=U'→St M Z (XR X L c rs) D w us J U'→St M Z (XR X L (c+1) (fun p=>if p=c then none else rs p)) D w us J (S (c+1)):=by
  intro U' e hst
  rw [e]
  refine hst.lessX fun b hb => ?_
  rcases hb with hb|⟨p,hp,hb⟩
  ·exact .inl hb
  ·rcases Qbr hp with rfl|hp
   ·simp at hb
   ·refine .inr ⟨p,hp,?_⟩
    have hne:p≠c:=by have:=hp.1;omega
    simpa only [if_neg hne] using hb
 have hrs0:∀p,pend L c p→(fun p=>if p=c then none else rs p) p=rs p:=fun p hp=>by simp only;rw [if_neg (by have:=hp.1;omega)]
 cases hcase with
 |none h1 h2=>
  exact ⟨D,_,old D _ hrs0 (plain h1 h.st) (fun b hb=>by simp at hb) (fun p b _ _ hb=>by simp at hb) (by rw [h2];trivial) (by rw [h2];trivial) (fun o ho=>by rw [h2] at ho;cases ho) (fun o off ho=>by rw [h2] at ho;cases ho)⟩
 |same ex o off n h1 h2 h3 h4=>
  exact ⟨D,_,old D _ hrs0 (plain h1 h.st) (fun b hb=>by simp at hb) (fun p b _ _ hb=>by simp at hb) (by rw [h2,h1];exact h3) (by rw [h2,h1];exact h4) (fun o ho=>by rw [h2] at ho;cases ho) (fun o off ho=>by rw [h2] at ho;cases ho)⟩
 |made cs h1 h2 h3=>
  have hget:Objs.get (S (c+1)) (S c).length=some cs:=Qk0 (by rw [h1];simp)
  exact ⟨D,_,old D _ hrs0 (plain h1 (h.st.snoc _)) (fun b hb=>by simp at hb) (fun p b _ _ hb=>by simp at hb) (by rw [h2];exact ⟨cs,hget,hget⟩) (by
   rw [h2]
   intro ds hds
   rw [hget] at hds;cases hds
   exact h3) (fun o ho=>by
   rw [h2] at ho
   cases ho
   exact ⟨h.st.wd.none_of_ge (Xai _),rfl⟩) (fun o off ho=>by rw [h2] at ho;cases ho)⟩
 |took o off cs xs s h1 h2 h3 h4=>
  have hol:o<(S c).length:=(Xaf.1 h1).1
  cases hi:Z o with
  |none=>
   have hst:St M Z (XR X L c rs) D w us J ((S c).set o (.cells (cs.set off (.sl xs .no)))):=h.st.dropCell (x:=.sl xs (.gr s)) h1 h2 rfl
   refine ⟨D,_,old D _ hrs0 (plain h3 hst) (fun b hb=>by simp at hb) (fun p b _ _ hb=>by simp at hb) (by rw [h4];trivial) (by rw [h4];trivial) (fun o ho=>by rw [h4] at ho;cases ho) (fun o' off' ho => ?_)⟩
   rw [h4] at ho
   cases ho
   refine ⟨by omega,.inl ⟨hi,fun q hq hm => ?_⟩⟩
   have:=h.quiet q hq
   rw [hm] at this
   exact this cs (Qk0 h1) _ (Xat h2) xs s rfl
  |some b=>
   obtain ⟨O,hO,hor⟩:=h.st.wd.obj o b hi
   rw [h1] at hO;cases hO
   obtain ⟨ws,T,fz,hb,hr2,hfz,hM,hone2⟩:=hor
   obtain ⟨v,hv,hrv⟩:=hr2.get h2
   have hv':ws[off]? = some v:=by
    rw [Xar] at hv
    split at hv
    ·simpa using hv
    ·cases hv
   obtain ⟨bb,hbb⟩:∃bb,ownB v (.sl xs (.gr s))=some bb:=by
    cases hrv with
    |sl=>exact ⟨_,rfl⟩
    |sl0 a c hg=>exact absurd rfl (hg _)
   obtain ⟨D',hs,hf,hg⟩:=h.st.takeCell hi hb h1 hv' h2 hbb
   refine ⟨D',fun p=>if p=c then some bb else rs p,old D' _ (fun p hp=>if_neg (by have:=hp.1;omega)) ?_ (fun b' hb' => ?_) (fun p b' hp hb' hb'' => ?_) (by rw [h4];trivial) (by rw [h4];trivial) (fun o ho=>by rw [h4] at ho;cases ho) (fun o' off' ho => ?_)⟩
   ·rw [h3]
    have hX:∀b',XR X L (c+1) (fun p=>if p=c then some bb else rs p) b'→b'=bb∨XR X L c rs b':=fun b' hb'=>by
     rcases hb' with hb'|⟨p,hp,hb'⟩
     ·exact .inr (.inl hb')
     ·rcases Qbr hp with rfl|hp
      ·simp at hb';exact .inl hb'.symm
      ·have hne:p≠c:=by have:=hp.1;omega
       exact .inr (.inr ⟨p,hp,by simpa only [if_neg hne] using hb'⟩)
    refine hs.moreX (fun b' hb' => ?_) (fun o' b' hi' hb' => ?_) (fun b' p hp hb' => ?_)
    ·rcases hX b' hb' with rfl|hb'
     ·exact hf.lt
     ·exact hs.wd.xlt b' hb'
    ·rcases hX b' hb' with rfl|hb'
     ·exact hf.i o' hi'
     ·exact hs.wd.xobj o' b' hi' hb'
    ·rcases hX b' hb' with rfl|hb'
     ·rw [hf.k] at hp;cases hp
     ·exact (hs.wd.kap b' p hp).1 hb'
   ·simp at hb'
    subst hb'
    exact fun hx=>hf.x (.inl hx)
   ·simp at hb''
    subst hb''
    exact hf.x (.inr ⟨p,hp,hb'⟩)
   ·rw [h4] at ho
    cases ho
    exact ⟨by omega,.inr ⟨xs,s,b,bb,v,cs,hi,by rw [Qcx hb];exact hv',hrv,hbb,by simp,hg,h1,h2⟩⟩
end
end
section
variable {P:Program} {ops:Array Oper} {l:List DS} {dp:List (List Nat)} {G:GV} {call:FuncId→List V→Objs→Option (V×Objs)} {R:Nat→List V} {S:Nat→Objs} {Q:Exit→Act→World→Prop}
variable {X:Nat→Prop} {L:Nat→Prop} {c:Nat} {us:List Value} {J:List V} {w:World} {M:Mem} {Z:Plc} {D:Own} {rs:Nat→Option Nat} {a:Act}
theorem Qk2 {op:Op} {i:Ins} (hd:dly i=true) (hc:Qba P op i=true):∀t p x,op≠.store t p x:=by
 intro t p x e
 subst e
 cases i <;> first|cases hc|cases hd
theorem Qu7 {i:Ins} (hd:dly i=true):Qw2 i=false:=by
 cases i <;> first|rfl|cases hd
theorem Qxc {U U':Objs} (h:St M Z X D w a.tmps.toList J U) (hG:GOK G M Z) {i:Nat} {o:Oper} {s:Step} (ho:ops[i]? = some o) (hc:Qev P ops o s=true) (hd:dly s.ins=true) {J':List V} (he:Qb4 G call s J U=some (J',U')) {K:Act→World→Prop}
  (hn:∀a' w' M' Z' D',a'.defers=a.defers→Ext X M Z w M' Z' w'→Kp Z w U Z' w' U'→HK Z w w'→St M' Z' X D' w' a'.tmps.toList J' U'→K a' w'):wpOp P ops Q i K a w:=by
 simp only [Qev,Xac,beq_iff_eq] at hc
 obtain ⟨⟨hds,hi⟩,hg⟩:=hc
 unfold Qb4 at he
 simp only [Xaa,Xab] at he
 obtain ⟨b,hb,he⟩:=he
 have hw:=Qkz (ops:=ops) h.rep hg hb
 unfold wpOp
 simp only [ho,hw]
 cases b with
 |true=>
  simp only [if_true] at he ⊢
  obtain ⟨nx,v,w',M',Z',D',hrun,hnx,⟨hx,hk,hh⟩,hst⟩:=Qso h hG hds hi (Qu7 hd) he
  rw [←Qdt] at hst
  refine .inl ?_
  unfold Oper.wp
  rw [hrun]
  rcases hnx with rfl|⟨rfl,rfl⟩
  ·exact hn _ w' M' Z' D' (Qdc _ _ _) hx hk (hh (Qk2 hd hi)) hst
  ·exact hn _ w' M' Z' D' (Qdc _ _ _) hx hk (hh (Qk2 hd hi)) hst
 |false=>
  simp only [Xaj,if_false,Xah,Prod.mk.injEq] at he ⊢
  obtain ⟨rfl,rfl⟩:=he
  refine hn _ _ M Z D (Qdc _ _ _) (Ext.refl ..) (Kp.refl ..) (HK.refl _ _) ?_
  rw [Qdt,←hds]
  exact h.putNone .undef rfl _
theorem GrOK.keep {M':Mem} {w':World} {v:Value} {x:V} {bb:Nat} (h:GrOK M w v x) (ho:ownB v x=some bb) (hm:∀i,M' bb i=M bb i) (hw:w'.heap[bb]? = w.heap[bb]?):GrOK M' w' v x:=by
 refine ⟨fun xs sz hxx al len cap hv => ?_⟩
 obtain ⟨g1,g2,ws,T,fz,g3,g4⟩:=h.ok xs sz hxx al len cap hv
 have hbb:al.block=bb:=by subst hxx hv;simp only [ownB,Xah] at ho;exact ho
 exact ⟨g1,fun j hj=>by rw [hbb,hm j,←hbb];exact g2 j hj,ws,T,fz,by rw [hbb,hw,←hbb];exact g3,g4⟩
def also (L:Nat→Prop) (p q:Nat):Prop:=L q∨q=p
theorem Qb7 {p q:Nat} (h:pend (also L p) c q):pend L c q∧q≠p:=⟨⟨h.1,fun hl=>h.2 (.inl hl)⟩,fun e=>h.2 (.inr e)⟩
theorem Closed.also {p:Nat} (h:Closed l dp L) (hp:p<l.length) (hd:∀q∈dp.getD p [],L q):Closed l dp (also L p):=
 ⟨fun q hq=>by rcases hq with hq|rfl;exact h.lt q hq;exact hp,fun q hq r hr=>by
  rcases hq with hq|rfl
  ·exact .inl (h.dep q hq r hr)
  ·exact .inl (hd r hr)⟩
theorem Qq0 {p b:Nat} (h:XR X (also L p) c rs b):XR X L c rs b:=by
 rcases h with h|⟨q,hq,hb⟩
 ·exact .inl h
 ·exact .inr ⟨q,(Qb7 hq).1,hb⟩
theorem Inv.ran (h:Inv G l dp R S X L c us J w M Z D rs) {p:Nat} (hp:pend L c p) (hd:∀q∈dp.getD p [],L q) {us':List Value} {J':List V} {w':World} {M':Mem} {Z':Plc} {D':Own} (hslot:Qmg l R (also L p) J')
  (hx:Ext (XR X L c rs) M Z w M' Z' w') (hdom:∀o,o<(S c).length→rdAt G l R S p≠.made o→Z' o=Z o) (hh:HK Z w w') (hst:St M' Z' (XR X (also L p) c rs) D' w' us' J' (S c)):Inv G l dp R S X (also L p) c us' J' w' M' Z' D' rs:=by
 have hpc:=h.cn
 refine ⟨h.cn,h.cl.also (by have:=hp.1;omega) hd,fun q hq => ?_,fun q hq hdq=>.inl (h.eff q hq hdq),hslot,hst,fun q b hq=>h.rsx q b (Qb7 hq).1,fun q r b hq hr=>h.rsi q r b (Qb7 hq).1 (Qb7 hr).1,
  fun q hq=>h.same q (Qb7 hq).1,fun q hq=>h.quiet q (Qb7 hq).1,fun q o hq ho => ?_,fun q r o hq hr=>h.mdist q r o (Qb7 hq).1 (Qb7 hr).1,fun q o off hq ho => ?_⟩
 ·rcases hq with hq|rfl
  ·exact h.lt q hq
  ·exact hp.1
 ·obtain ⟨hq,hne⟩:=Qb7 hq
  have hs:=h.same q hq
  rw [ho] at hs
  obtain ⟨cs,_,h2⟩:=hs
  rw [hdom o (Xaf.1 (Qbu h2)).1 (fun e=>hne (h.mdist q p o hq hp ho e))]
  exact h.made q o hq ho
 ·obtain ⟨hq,hne⟩:=Qb7 hq
  obtain ⟨h1,h2⟩:=h.took q o off hq ho
  refine ⟨h1,?_⟩
  rcases h2 with ⟨h2,h3⟩|⟨xs,s,b,bb,v,cs,ht⟩
  ·exact .inl ⟨by rw [hdom o h1 (h3 p hp)];exact h2,fun r hr=>h3 r (Qb7 hr).1⟩
  ·have hXb:XR X L c rs bb:=.inr ⟨q,hq,ht.rs⟩
   exact .inr ⟨xs,s,b,bb,v,cs,hx.i.le _ _ ht.i,by unfold World.cell?; rw [hh o b ht.i];exact ht.cell,ht.rep.mono hx.m hx.i,ht.own,ht.rs,ht.gr.keep ht.own (fun i=>hx.mX bb i hXb) (hx.keep bb hXb),ht.obj,ht.val⟩
theorem Qe7 (hk:DrwOK P ops l dp) (hc:Canon G call l R S) (h:Inv G l dp R S X L c us J w M Z D rs) {p:Nat} (hpl:p<l.length) (hn:¬L p) (hd:∀q∈dp.getD p [],L q):
  J.length=(R p).length∧(∀t∈(dsAt l p).s.rd,J[t]? = (R p)[t]?):=
 ⟨h.slot.1.trans (hc.len p X0o).symm,fun t ht=>Qw9 hk h.cl h.slot hpl hn hd (.inl ht)⟩
theorem Qkd (hk:DrwOK P ops l dp) (hc:Canon G call l R S) (h:Inv G l dp R S X L c us J w M Z D rs) {p:Nat} (hpl:p<l.length) (hn:¬L p) {U U':Objs} {H:List V} (he:Qb4 G call (dsAt l p).s J U=some (H,U'))
  (hw:∀t∈(dsAt l p).s.wr,H[t]? = (R (p+1))[t]?):Qmg l R (also L p) H:=
 Qxa hk hc h.cl h.slot hpl hn (Qf9 he).1 hw (Qf9 he).2
theorem Inv.exec (hk:DrwOK P ops l dp) (hc:Canon G call l R S) (hG:GOK G M Z) (h:Inv G l dp R S X L c a.tmps.toList J w M Z D rs) {p:Nat} (hp:pend L c p) (hd:∀q∈dp.getD p [],L q) (hdl:dly (dsAt l p).s.ins=true)
  (hre:∀H,Qb4 G call (dsAt l p).s J (S p)=some (H,S (p+1))→Qb4 G call (dsAt l p).s J (S c)=some (H,S c)) {K:Act→World→Prop}
  (hn:∀a' w' M' Z' D' J',a'.defers=a.defers→Ext (XR X L c rs) M Z w M' Z' w'→(∀o,o<(S c).length→rdAt G l R S p≠.made o→Z' o=Z o)→HK Z w w'→Inv G l dp R S X (also L p) c a'.tmps.toList J' w' M' Z' D' rs→K a' w'):wpOp P ops Q (dsAt l p).op K a w:=by
 have hpl:p<l.length:=by have:=hp.1;have:=h.cn;omega
 obtain ⟨o,ho,hck⟩:=hk.step p hpl
 obtain ⟨hl,hr⟩:=Qe7 hk hc h hpl hp.2 hd
 obtain ⟨H,he,hw⟩:=Qen (Qgx hk hc hpl hdl) hl hr
 have hec:=hre H he
 refine Qxc h.st hG ho hck hdl hec fun a' w' M' Z' D' hdf hx hkp hh hst => ?_
 exact hn a' w' M' Z' D' H hdf hx (fun o ho _=>hkp.dom o ho) hh (h.ran hp hd (Qkd hk hc h hpl hp.2 hec hw) hx (fun o ho _=>hkp.dom o ho) hh (hst.lessX fun b hb=>Qq0 hb))
end
section
variable {P:Program} {ops:Array Oper} {l:List DS} {dp:List (List Nat)} {G:GV} {call:FuncId→List V→Objs→Option (V×Objs)} {R:Nat→List V} {S:Nat→Objs} {Q:Exit→Act→World→Prop}
variable {X:Nat→Prop} {L:Nat→Prop} {c:Nat} {us:List Value} {J:List V} {w:World} {M:Mem} {Z:Plc} {D:Own} {rs:Nat→Option Nat} {a:Act}
theorem Qq1 {A A':Arg→V} {U:Objs} {i:Ins} (h:∀x∈i.args,A x=A' x):reads A U i=reads A' U i:=by
 cases i <;> first|rfl|(simp only [reads];rw [h _ (Xaw ..)])
theorem Qxd {ag:Bool} {sz off:Nat} {cs ds:List V} {y:V} (hl:cs.length=ds.length) (he:((cs.drop off).take (if ag then sz else 1)).map V.ng=((ds.drop off).take (if ag then sz else 1)).map V.ng) (h:part ag sz cs off=some y):part ag sz ds off=some y:=by
 unfold part at h ⊢
 cases ag with
 |true=>
  simp only [if_true] at h he ⊢
  rw [←hl]
  split at h
  ·rename_i hle
   rw [if_pos hle,←he]
   exact h
  ·cases h
 |false=>
  simp only [Xaj,if_false] at h he ⊢
  split at h
  ·rename_i h1
   rw [if_pos h1]
   have e:∀es:List V,(((es.drop off).take 1).map V.ng)[0]? = es[off]?.map V.ng:=fun es=>by
    rw [Xan,Xar,if_pos X0o,Xa6,Xd2]
   rw [←e ds,←he,e cs]
   exact h
  ·cases h
theorem relook {A T:Arg→V} {U U2 U':Objs} {i:Ins} {v:V} (hd:dly i=true) (h:Qa5 call A T U i=some (v,U')) (hs:Same U U2 (reads A U i)) (hnt:∀o off,reads A U i≠.took o off) (hnm:∀o,reads A U i≠.made o):Qa5 call A T U2 i=some (v,U2):=by
 by_cases hn:neutral i=true
 ·exact (Qic hn h).2
 ·cases i <;> (try (exact absurd hd hn)) <;> (try (cases hd;done))
  case alloc=>exact absurd rfl (hnm _)
  case box=>exact absurd rfl (hnm _)
  case load ag sz x=>
   simp only [Qa5,Qa8,Xaa,Xab,Xah,Prod.mk.injEq,and_true] at h ⊢
   obtain ⟨y,hy,hv,_⟩:=h
   refine ⟨y,?_,hv⟩
   simp only [reads] at hs
   unfold eL at hy ⊢
   split at hy
   ·rename_i o off ho
    simp only [ho] at hs ⊢
    obtain ⟨cs,ds,h1,h2,h3,h4⟩:=hs
    simp only [Xaj,if_false] at h4
    simp only [Xaa,h1,Xad] at hy
    simp only [Xaa,h2,Xad]
    exact Qxd h3 h4 hy
   ·exact hy
   ·cases hy
  case loadT x=>
   simp only [Qa5] at h ⊢
   simp only [reads] at hs hnt
   split at h
   ·rename_i o off ho
    simp only [ho] at hs hnt ⊢
    simp only [Xaa,Xab] at h
    obtain ⟨cs,hcs,y,hy,h⟩:=h
    simp only [hcs,Xad,hy] at hs hnt
    split at h
    ·rename_i xs s
     exact absurd rfl (hnt o off)
    ·cases h
    ·rename_i hng hnl
     simp only [Xah,Prod.mk.injEq] at h
     have hs':Same U U2 (.same true o off 1):=by
      split at hs
      ·rename_i xs s e
       cases e
       exact absurd rfl (hng xs s)
      ·exact hs
     obtain ⟨cs',ds,h1,h2,h3,h4⟩:=hs'
     rw [hcs] at h1;cases h1
     simp only [if_true] at h4
     have e:∀es:List V,((es.drop off).take 1)[0]? = es[off]? := fun es=>by rw [Xar,if_pos X0o,Xa6,Xd2]
     have hy2:ds[off]? = some y:=by rw [←e ds,←h4,e cs];exact hy
     simp only [Xaa,h2,Xad,hy2]
     rw [←h.1]
   ·simp only [Xaa,Xab,Xah,Prod.mk.injEq,and_true] at h ⊢
    obtain ⟨y,hy,hv,_⟩:=h
    exact ⟨y,hy,hv⟩
   ·cases h
theorem Qq2 (hk:DrwOK P ops l dp) (hc:Canon G call l R S) (h:Inv G l dp R S X L c us J w M Z D rs) {p:Nat} (hp:pend L c p) (hd:∀q∈dp.getD p [],L q):
  rdAt G l R S p=if (wanted J (dsAt l p).s.gd).getD false then reads (arg G J) (S p) (dsAt l p).s.ins else .none:=by
 have hpl:p<l.length:=by have:=hp.1;have:=h.cn;omega
 obtain ⟨hl,hr⟩:=Qe7 hk hc h hpl hp.2 hd
 have hr':∀t∈(dsAt l p).s.rd,J.getD t .undef=(R p).getD t .undef:=fun t ht=>by simp only [List.getD,hr t ht]
 unfold rdAt
 rw [Qjt (J':=J) (J:=R p) fun n hn=>hr' n (Xb5 _ hn)]
 rw [Qq1 (A:=arg G J) (A':=arg G (R p)) fun x hx=>by
  unfold arg
  rw [Qmf (J':=J) (J:=R p) fun n hn=>hr' n (Xbv _ (Xdd.2 ⟨x,hx,hn⟩))]]
theorem Inv.exec_same (hk:DrwOK P ops l dp) (hc:Canon G call l R S) (hG:GOK G M Z) (h:Inv G l dp R S X L c a.tmps.toList J w M Z D rs) {p:Nat} (hp:pend L c p) (hd:∀q∈dp.getD p [],L q) (hdl:dly (dsAt l p).s.ins=true)
  (hS:S (p+1)=S p) (hnt:∀o off,rdAt G l R S p≠.took o off) (hnm:∀o,rdAt G l R S p≠.made o) {K:Act→World→Prop}
  (hn:∀a' w' M' Z' D' J',a'.defers=a.defers→Ext (XR X L c rs) M Z w M' Z' w'→(∀o,o<(S c).length→rdAt G l R S p≠.made o→Z' o=Z o)→HK Z w w'→Inv G l dp R S X (also L p) c a'.tmps.toList J' w' M' Z' D' rs→K a' w'):wpOp P ops Q (dsAt l p).op K a w:=by
 refine h.exec hk hc hG hp hd hdl (fun H he => ?_) hn
 have hrd:=Qq2 hk hc h hp hd
 have hsm:=h.same p hp
 rw [hS] at hsm
 unfold Qb4 ev1 at he ⊢
 simp only [Xaa,Xab] at he
 obtain ⟨b,hb,he⟩:=he
 simp only [Xaa,hb,Xad]
 rw [hb] at hrd
 cases b with
 |false=>
  simp only [Xaj,if_false,Xah,Prod.mk.injEq] at he ⊢
  exact ⟨he.1,trivial⟩
 |true=>
  simp only [if_true,Xab,Xah,Prod.mk.injEq] at he ⊢
  simp only [Xbg,if_true] at hrd
  obtain ⟨⟨v,U2⟩,hi,hτ,_⟩:=he
  rw [hrd] at hsm hnt hnm
  exact ⟨(v,S c),relook hdl hi hsm hnt hnm,hτ,rfl⟩
end
section
variable {P:Program} {ops:Array Oper} {l:List DS} {dp:List (List Nat)} {G:GV} {call:FuncId→List V→Objs→Option (V×Objs)} {R:Nat→List V} {S:Nat→Objs} {Q:Exit→Act→World→Prop}
variable {X:Nat→Prop} {L:Nat→Prop} {c:Nat} {us:List Value} {J:List V} {w:World} {M:Mem} {Z:Plc} {D:Own} {rs:Nat→Option Nat} {a:Act}
theorem Qxe {o:Oper} {t:TypeId} {x:Operand} {b off:Nat} {u:Value} (ho:o.op = .load t x) (ht:Qet P t false 1=true) (hev:a.eval x = .pointer (some ⟨b,off,none⟩)) (hc:w.cell? ⟨b,off,none⟩=some u):(execOp a.eval o).run P w = .ok (.value u) w:=by
 have hag:agOf P t=some false:=by simp only [Qet,Xac,beq_iff_eq] at ht;exact ht.1.1
 unfold execOp
 rw [ho]
 simp only [Instr.loadAt,Instr.sureAddr,hev,loadVar,Qad,Qap,Qdy hag,Result.andThen,Xaj,if_false,Qj8 hc]
theorem Qmh {i:Nat} {o:Oper} {s:Step} {K:Act→World→Prop} {v:Value} {w':World} (hr:Reps M Z a.tmps.toList J) (ho:ops[i]? = some o) (hg:Wbs ops o.guard s.gd=true) (hw:wanted J s.gd=some true) (hrun:(execOp a.eval o).run P w = .ok (.value v) w')
  (hK:K (a.put o.dst v) w'):wpOp P ops Q i K a w:=by
 have:=Qkz (ops:=ops) hr hg hw
 unfold wpOp
 simp only [ho,this,if_true]
 refine .inl ?_
 unfold Oper.wp
 rw [hrun]
 exact hK
theorem Inv.exec_took (hk:DrwOK P ops l dp) (hc:Canon G call l R S) (hG:GOK G M Z) (h:Inv G l dp R S X L c a.tmps.toList J w M Z D rs) {p:Nat} (hp:pend L c p) (hd:∀q∈dp.getD p [],L q) (hdl:dly (dsAt l p).s.ins=true)
  {o off:Nat} (hto:rdAt G l R S p = .took o off) {K:Act→World→Prop}
  (hn:∀a' w' M' Z' D' J',a'.defers=a.defers→Ext (XR X L c rs) M Z w M' Z' w'→(∀o,o<(S c).length→rdAt G l R S p≠.made o→Z' o=Z o)→HK Z w w'→Inv G l dp R S X (also L p) c a'.tmps.toList J' w' M' Z' D' rs→K a' w'):wpOp P ops Q (dsAt l p).op K a w:=by
 have hpl:p<l.length:=by have:=hp.1;have:=h.cn;omega
 obtain ⟨op,hop,hck⟩:=hk.step p hpl
 obtain ⟨hl,hr⟩:=Qe7 hk hc h hpl hp.2 hd
 obtain ⟨H,he,hwr⟩:=Qen (Qgx hk hc hpl hdl) hl hr
 have hslot:=Qkd hk hc h hpl hp.2 he hwr
 simp only [Qev,Xac,beq_iff_eq] at hck
 obtain ⟨⟨hds,hi⟩,hg⟩:=hck
 have hrd:=Qq2 hk hc h hp hd
 rw [hto] at hrd
 unfold Qb4 ev1 at he
 simp only [Xaa,Xab] at he
 obtain ⟨b0,hb,he⟩:=he
 rw [hb] at hrd
 cases b0 with
 |false=>cases hrd
 |true=>
  simp only [if_true,Xab,Xah,Prod.mk.injEq,Xbg] at he hrd
  obtain ⟨⟨v,U2⟩,hev,hτ,_⟩:=he
  generalize hins:(dsAt l p).s.ins=ins at *
  cases ins <;> (try (cases hdl;done)) <;> (try (cases hrd;done))
  case load ag sz x=>simp only [reads] at hrd;split at hrd <;> cases hrd
  case loadT y=>
   simp only [reads] at hrd
   split at hrd
   ·rename_i o' off' hy
    split at hrd
    ·rename_i xs s hval
     cases hrd
     rw [Xab] at hval
     obtain ⟨cs,hcs,hcc⟩:=hval
     simp only [Qa5,hy,hcs,hcc,Xaa,Xad,Xah,Prod.mk.injEq] at hev
     obtain ⟨rfl,_⟩:=hev
     cases hoo:op.op <;> rw [hoo] at hi <;> (try (cases hi;done))
     rename_i t x
     simp only [Qba,Xac] at hi
     have hA:=Opd.of_state h.st.rep hG
     have hvx:=hA.ok _ _ hi.2
     rw [hy] at hvx
     obtain ⟨b,hxb,hib⟩:=hvx.inv_ptr
     obtain ⟨hlen,hcase⟩:=h.took p o off hp hto
     rcases hcase with ⟨hno,_⟩|⟨xs',s',b',bb,u,cs',ht⟩
     ·rw [hib] at hno;cases hno
     ·have e1:=ht.i
      rw [hib] at e1;cases e1
      have e2:=ht.obj
      rw [Qbu hcs] at e2;cases e2
      have e3:=ht.val
      rw [hcc] at e3;cases e3
      have hrun:=Qxe (P:=P) (w:=w) hoo hi.1 hxb ht.cell
      have hXb:XR X L c rs bb:=.inr ⟨p,hp,ht.rs⟩
      have hfree:Free M Z (XR X (also L p) c rs) D w bb:=by
       refine ⟨?_,fun hx => ?_,fun o' ho'=>h.st.wd.xobj o' bb ho' hXb,h.st.wd.xlt bb hXb⟩
       ·cases hkb:D bb with
        |none=>rfl
        |some q=>exact absurd hXb (h.st.wd.kap bb q hkb).1
       ·rcases hx with hx|⟨q,hq,hb'⟩
        ·exact h.rsx p bb hp ht.rs hx
        ·obtain ⟨hq,hne⟩:=Qb7 hq
         exact hne (h.rsi q p bb hq hp hb' ht.rs)
      obtain ⟨D',hst⟩:=(h.st.lessX (X':=XR X (also L p) c rs) fun b hb=>Qq0 hb).putOwn ht.rep (fun b hb'=>by rw [ht.own] at hb';cases hb';exact ⟨hfree,ht.gr⟩) op.dst
      rw [←Qdt] at hst
      have hτ':H=put J op.dst (.sl xs (.gr s)):=by rw [hds,←hτ];rfl
      rw [←hτ'] at hst
      exact Qmh h.st.rep hop hg hb hrun (hn _ w M Z D' H (Qdc _ _ _) (Ext.refl ..) (fun _ _ _=>rfl) (HK.refl _ _) (h.ran hp hd hslot (Ext.refl ..) (fun _ _ _=>rfl) (HK.refl _ _) hst))
    ·cases hrd
   ·cases hrd
theorem Inv.exec_made (hk:DrwOK P ops l dp) (hc:Canon G call l R S) (hG:GOK G M Z) (h:Inv G l dp R S X L c a.tmps.toList J w M Z D rs) {p:Nat} (hp:pend L c p) (hd:∀q∈dp.getD p [],L q) (hdl:dly (dsAt l p).s.ins=true)
  {o:Nat} (hto:rdAt G l R S p = .made o) {K:Act→World→Prop}
  (hn:∀a' w' M' Z' D' J',a'.defers=a.defers→Ext (XR X L c rs) M Z w M' Z' w'→(∀o,o<(S c).length→rdAt G l R S p≠.made o→Z' o=Z o)→HK Z w w'→Inv G l dp R S X (also L p) c a'.tmps.toList J' w' M' Z' D' rs→K a' w'):wpOp P ops Q (dsAt l p).op K a w:=by
 have hpl:p<l.length:=by have:=hp.1;have:=h.cn;omega
 obtain ⟨op,hop,hck⟩:=hk.step p hpl
 obtain ⟨hl,hr⟩:=Qe7 hk hc h hpl hp.2 hd
 obtain ⟨H,he,hwr⟩:=Qen (Qgx hk hc hpl hdl) hl hr
 have hslot:=Qkd hk hc h hpl hp.2 he hwr
 simp only [Qev,Xac,beq_iff_eq] at hck
 obtain ⟨⟨hds,hi⟩,hg⟩:=hck
 have hrd:=Qq2 hk hc h hp hd
 rw [hto] at hrd
 have hsm:=h.same p hp
 rw [hto] at hsm
 obtain ⟨cs,hs1,hs2⟩:=hsm
 have hι0:=h.made p o hp hto
 have fin:∀(ars:Array Value) (T:TypeId),wanted J (dsAt l p).s.gd=some true→(execOp a.eval op).run P w = .ok (.value (.pointer (some ⟨w.heap.size,0,none⟩))) (Qcm w (.cells ars T))→H=put J op.dst (.ptr o 0)→Reps M Z ars.toList cs→(∀x∈cs,x.one=true)→(∀x∈cs,x.ng=x)→wpOp P ops Q (dsAt l p).op K a w:=by
  intro ars T hb hrun hτ hrep hone hng
  have hcl:cs.length=ars.size:=by have:=hrep.1;simpa using this.symm
  obtain ⟨M',Z',hx,hi',hst,hdm⟩:=h.st.mapO hι0 (Qbu hs2) ars T (0,0) (by rw [hcl,←Xa4,Xbx];exact hrep) (fun i _=>by unfold Qbp;simp) hone (fun x hx v=>by rw [←hng x hx];exact Qbh _ _)
  have hst2:=(hst.lessX (X':=XR X (also L p) c rs) fun b hb=>Qq0 hb).putNone (.ptr o 0 _ hi') rfl op.dst
  rw [←Qdt,←hτ] at hst2
  have hdom:∀o',o'<(S c).length→rdAt G l R S p≠.made o'→Z' o'=Z o':=fun o' _ hne=>hdm o' (fun e=>hne (by rw [hto,e]))
  exact Qmh h.st.rep hop hg hb hrun (hn _ _ M' Z' D H (Qdc _ _ _) hx hdom (h.st.wd.hkPush' _) (h.ran hp hd hslot hx hdom (h.st.wd.hkPush' _) hst2))
 unfold Qb4 ev1 at he
 simp only [Xaa,Xab] at he
 obtain ⟨b0,hb,he⟩:=he
 rw [hb] at hrd
 cases b0 with
 |false=>cases hrd
 |true=>
  simp only [if_true,Xab,Xah,Prod.mk.injEq,Xbg] at he hrd
  obtain ⟨⟨v,U2⟩,hev,hτ,hσ⟩:=he
  simp only at hσ
  subst hσ
  have hA:=Opd.of_state h.st.rep hG
  generalize hins:(dsAt l p).s.ins=ins at *
  have last:∀z,v = .ptr (S p).length 0→S (p+1)=S p++[.cells z]→cs=z:=fun z _ hz=>by
   cases ins <;> (try (cases hdl;done)) <;> (try (cases hrd;done))
   case load=>simp only [reads] at hrd;split at hrd <;> cases hrd
   case loadT=>simp only [reads] at hrd;split at hrd <;> (try (cases hrd;done));split at hrd <;> cases hrd
   all_goals
    cases hrd
    have:=Qbu hs1
    rw [hz] at this
    simp at this
    exact this.symm
  cases ins <;> (try (cases hdl;done)) <;> (try (cases hrd;done))
  case load=>simp only [reads] at hrd;split at hrd <;> cases hrd
  case loadT=>simp only [reads] at hrd;split at hrd <;> (try (cases hrd;done));split at hrd <;> cases hrd
  case alloc z=>
   simp only [Qa5] at hev
   split at hev
   ·simp only [Xah,Prod.mk.injEq] at hev
    have hcz:=last z hev.1.symm hev.2.symm
    subst hcz
    cases hoo:op.op <;> rw [hoo] at hi <;> (try (cases hi;done))
    rename_i e
    simp only [Qba] at hi
    split at hi
    ·rename_i zv hzv
     obtain ⟨hr1,hr2,_⟩:=Qb5 (M:=M) (Z:=Z) hi
     refine fin zv.cells e hb ?_ ?_ hr1 (fun x hx=>(hr2 x hx).1) (fun x hx=>(hr2 x hx).2)
     ·unfold execOp
      rw [hoo]
      simp only [Instr.alloc,Qad,Qsm hzv,Result.andThen,Qgu,Qap]
     ·cases hrd
      rw [hds,←hτ,←hev.1];rfl
    ·cases hi
   ·cases hev
  case box y=>
   simp only [Qa5] at hev
   split at hev
   ·rename_i hok
    simp only [Xah,Prod.mk.injEq] at hev
    have hcz:=last _ hev.1.symm hev.2.symm
    subst hcz
    cases hoo:op.op <;> rw [hoo] at hi <;> (try (cases hi;done))
    rename_i e x
    simp only [Qba] at hi
    have hvx:=hA.ok _ _ hi
    refine fin (a.eval x).cells e hb ?_ ?_ ((hvx.cells (Qh7 hok)).ng) (Qjs (Qh7 hok)) (fun x hx=>by
     obtain ⟨y',_,rfl⟩:=Xbc.1 hx
     exact V.nogr_nogr y')
    ·unfold execOp
     rw [hoo]
     simp only [Qad,Qgu,Result.andThen]
     rfl
    ·cases hrd
     rw [hds,←hτ,←hev.1];rfl
   ·cases hev
end
section
variable {P:Program} {ops:Array Oper} {l:List DS} {dp:List (List Nat)} {G:GV} {call:FuncId→List V→Objs→Option (V×Objs)} {R:Nat→List V} {S:Nat→Objs} {Q:Exit→Act→World→Prop}
variable {X:Nat→Prop} {L:Nat→Prop} {c:Nat} {us:List Value} {J:List V} {w w0:World} {M M0:Mem} {Z Z0:Plc} {D:Own} {rs:Nat→Option Nat} {a:Act}
theorem Kp.late (h:St M Z X D w us J (S c)) {U':Objs} (hl:Late (S c) U'):Kp Z w (S c) Z w U':=by
 refine ⟨hl.len,fun _ _=>rfl,fun o b i hi hlk=>⟨?_,rfl⟩⟩
 cases hl with
 |stay=>exact hlk
 |took o' off cs xs s h1 h2=>
  rw [Qkc h1] at hlk
  split at hlk
  ·exact absurd hlk.1 (by simp [V.isLk])
  ·exact hlk
 |made cs=>
  obtain ⟨ds,x,h1,h2,h3⟩:=hlk
  rw [Xaz (h.wd.lt_of hi)] at h1
  exact ⟨ds,x,h1,h2,h3⟩
structure Acc (G:GV) (l:List DS) (R:Nat→List V) (S:Nat→Objs) (X:Nat→Prop) (L:Nat→Prop) (c:Nat) (M0:Mem) (Z0:Plc) (w0:World) (M:Mem) (Z:Plc) (w:World):Prop where
 ext:Ext X M0 Z0 w0 M Z w
 kp:Kp Z0 w0 (S 0) Z w (S c)
 mge:∀p o,pend L c p→rdAt G l R S p = .made o→(S 0).length≤o
theorem adv (hk:DrwOK P ops l dp) (hc:Canon G call l R S):∀(n c:Nat) (D:Own) (rs:Nat→Option Nat),l.length - c=n→Inv G l dp R S X L c us J w M Z D rs→Acc G l R S X L c M0 Z0 w0 M Z w→
  ∃c' D' rs',Inv G l dp R S X L c' us J w M Z D' rs'∧Acc G l R S X L c' M0 Z0 w0 M Z w∧(c'<l.length→dly (dsAt l c').s.ins=false)
 |0,c,D,rs,hn,h,hA=>⟨c,D,rs,h,hA,fun hlt=>by omega⟩
 |n+1,c,D,rs,hn,h,hA=>by
  cases hd:dly (dsAt l c).s.ins with
  |false=>exact ⟨c,D,rs,h,hA,fun _=>hd⟩
  |true=>
   have hcn:c<l.length:=by omega
   have hcase:=Qk1 hk hc hcn hd
   obtain ⟨D',rs',h'⟩:=h.advance hk hc hcn hd
   refine adv hk hc n (c+1) D' rs' X0o h' ⟨hA.ext,hA.kp.trans hA.ext.i (Kp.late h.st hcase.late),fun p o hp ho => ?_⟩
   rcases Qbr hp with rfl|hp
   ·cases hcase with
    |none _ h2=>rw [h2] at ho;cases ho
    |same _ _ _ _ _ h2=>rw [h2] at ho;cases ho
    |took _ _ _ _ _ _ _ _ h2=>rw [h2] at ho;cases ho
    |made _ _ h2=>rw [h2] at ho;cases ho;exact hA.kp.len
   ·exact hA.mge p o hp ho
theorem Acc.ran (hA:Acc G l R S X L c M0 Z0 w0 M Z w) {p:Nat} (hp:pend L c p) {M':Mem} {Z':Plc} {w':World} (hx:Ext (XR X L c rs) M Z w M' Z' w') (hdom:∀o,o<(S c).length→rdAt G l R S p≠.made o→Z' o=Z o) (hh:HK Z w w'):
  Acc G l R S X (also L p) c M0 Z0 w0 M' Z' w':=by
 refine ⟨hA.ext.trans (hx.less fun b hb=>.inl hb),⟨hA.kp.len,fun o ho => ?_,fun o b i hi hlk => ?_⟩,fun q o hq ho=>hA.mge q o (Qb7 hq).1 ho⟩
 ·rw [hdom o (Xbw ho hA.kp.len) (fun e=>by have:=hA.mge p o hp e;omega)]
  exact hA.kp.dom o ho
 ·obtain ⟨h1,h2⟩:=hA.kp.lk o b i hi hlk
  refine ⟨h1,?_⟩
  have:w'.cell? ⟨b,i,none⟩=w.cell? ⟨b,i,none⟩:=by unfold World.cell?; rw [hh o b (hA.ext.i.le _ _ hi)]
  rw [this,h2]
theorem Qo4 {p:Nat} (h:neutral (dsAt l p).s.ins=true):rdAt G l R S p = .none:=by
 unfold rdAt
 rw [Qid h]
 split <;> rfl
theorem Inv.effect (hk:DrwOK P ops l dp) (hc:Canon G call l R S) (hG:GOK G M Z) (hS:∀f,Sound P G f (call f)) (h:Inv G l dp R S X L c a.tmps.toList J w M Z D rs) (hA:Acc G l R S X L c M0 Z0 w0 M Z w) (hcl:c<l.length) (hd:∀q∈dp.getD c [],L q) (hdl:dly (dsAt l c).s.ins=false)
  {K:Act→World→Prop} (hn:∀a' w' M' Z' D' J',a'.defers=a.defers→Inv G l dp R S X (also L c) (c+1) a'.tmps.toList J' w' M' Z' D' rs→Acc G l R S X (also L c) (c+1) M0 Z0 w0 M' Z' w'→K a' w'):wpOp P ops Q (dsAt l c).op K a w:=by
 have hLc:¬L c:=fun hl=>by have:=h.lt c hl;omega
 obtain ⟨op,hop,hck⟩:=hk.step c hcl
 obtain ⟨hl,hr⟩:=Qe7 hk hc h hcl hLc hd
 obtain ⟨U0,U1,h1,h2,h3,h4⟩:=hc c hcl
 obtain ⟨H,he,hwr⟩:=Qen h2 hl hr
 have hslot:=Qkd hk hc h hcl hLc he hwr
 obtain ⟨l1,l2,l3⟩:=Qo1 (M:=M) (Z:=Z) (X:=XR X L c rs) (D:=D) (w:=w) (us:=a.tmps.toList) (J:=J) _ _ _ h1
 refine Qw3 (l1 h.st) hG hop hck hS he fun a' w' hgot => ?_
 obtain ⟨hdf,M',Z',D',hx,hkp,hst⟩:=hgot
 obtain ⟨o1,o2,o3,o4⟩:=Qo2 (M:=M') (Z:=Z') (X:=XR X L c rs) (D:=D') (w:=w') (us:=a'.tmps.toList) (J:=H) _ _ _ h3
 have hst':=o1 hst
 have hlen:(S c).length≤(S (c+1)).length:=by have:=hkp.len;omega
 have hps:∀ {q},pend (also L c) (c+1) q→pend L c q:=fun {q} hq=>by
  rcases Qbr hq with rfl|hq
  ·exact absurd (.inr rfl) hq.2
  ·exact (Qb7 hq).1
 have hsp:∀ {q},pend L c q→pend (also L c) (c+1) q:=fun {q} hq=>⟨by have:=hq.1;omega,fun hl=>by
  rcases hl with hl|rfl
  ·exact hq.2 hl
  ·exact absurd hq.1 (Nat.lt_irrefl _)⟩
 have hun:∀q,pend L c q→rdAt G l R S q = .none∨q∈(dsAt l c).un:=fun q hq=>by
  rcases hk.pair c hcl q hq.1 with hm|⟨_,_,hm⟩
  ·exact absurd (hd q hm) hq.2
  ·rcases hm with hm|hm|hm
   ·rw [hdl] at hm;cases hm
   ·exact .inl (Qo4 hm)
   ·exact .inr hm
 have hsame:∀q,pend L c q→Same (S c) (S (c+1)) (rdAt G l R S q):=fun q hq=>by
  rcases hun q hq with hm|hm
  ·rw [hm];trivial
  ·exact Qqy (h4 q hm)
 have hdom:∀o,o<(S c).length→Z' o=Z o:=fun o ho=>hkp.dom o X0o
 have hkp':Kp Z w (S c) Z' w' (S (c+1)):=by
  refine ⟨hlen,hdom,fun o b i hi hlk => ?_⟩
  obtain ⟨q1,q2⟩:=o3 o i hlk
  obtain ⟨q3,q4⟩:=hkp.lk o b i hi q1
  exact ⟨(l3 o i q3).resolve_right q2,q4⟩
 refine hn a' w' M' Z' D' H hdf ⟨by omega,h.cl.also hcl hd,fun q hq => ?_,fun q hq hdq => ?_,hslot,hst'.lessX fun b hb => ?_,fun q b hq=>h.rsx q b (hps hq),fun q r b hq hr=>h.rsi q r b (hps hq) (hps hr),
  fun q hq=>(h.same q (hps hq)).trans (hsame q (hps hq)),fun q hq=>(h.quiet q (hps hq)).same (hsame q (hps hq)),fun q o hq ho => ?_,fun q r o hq hr=>h.mdist q r o (hps hq) (hps hr),fun q o off hq ho => ?_⟩ ⟨hA.ext.trans (hx.less fun b hb=>.inl hb),hA.kp.trans hA.ext.i hkp',fun q o hq ho=>hA.mge q o (hps hq) ho⟩
 ·rcases hq with hq|rfl
  ·have:=h.lt q hq;omega
  ·omega
 ·rcases Xby q c with hlt|hge
  ·exact .inl (h.eff q hlt hdq)
  ·exact .inr X0o
 ·rcases hb with hb|⟨q,hq,hb⟩
  ·exact .inl hb
  ·exact .inr ⟨q,hps hq,hb⟩
 ·have hs:=h.same q (hps hq)
  rw [ho] at hs
  obtain ⟨cs,_,g2⟩:=hs
  rw [hdom o (Xaf.1 (Qbu g2)).1]
  exact h.made q o (hps hq) ho
 ·obtain ⟨g1,g2⟩:=h.took q o off (hps hq) ho
  refine ⟨by omega,?_⟩
  rcases g2 with ⟨g2,g3⟩|⟨xs,s,b,bb,v,cs,ht⟩
  ·exact .inl ⟨by rw [hdom o g1];exact g2,fun r hr=>g3 r (hps hr)⟩
  ·have hXb:XR X L c rs bb:=.inr ⟨q,hps hq,ht.rs⟩
   have hmem:(o,off)∈((dsAt l c).un.map (rdAt G l R S)).filterMap Rd.cell:=by
    refine Xdd.2 ⟨rdAt G l R S q,Xbc.2 ⟨q,(hun q (hps hq)).resolve_left (fun e=>by rw [ho] at e;cases e),rfl⟩,?_⟩
    rw [ho];rfl
   have hlk:=hkp.lk o b off ht.i (o4 _ hmem)
   exact .inr ⟨xs,s,b,bb,v,cs,hx.i.le _ _ ht.i,by rw [hlk.2];exact ht.cell,ht.rep.mono hx.m hx.i,ht.own,ht.rs,ht.gr.keep ht.own (fun i=>hx.mX bb i hXb) (hx.keep bb hXb),ht.obj,ht.val⟩
end
section
variable {P:Program} {ops:Array Oper} {l:List DS} {dp:List (List Nat)} {G:GV} {call:FuncId→List V→Objs→Option (V×Objs)} {R:Nat→List V} {S:Nat→Objs} {Q:Exit→Act→World→Prop}
variable {X:Nat→Prop} {J:List V} {U:Objs} {w w0:World} {M M0:Mem} {Z Z0:Plc} {D:Own} {a:Act}
def left (n:Nat) (listed:Array Bool):Nat:=(List.range n).countP fun i=>!listed.getD i false
theorem Qk3 {p q:Nat→Bool} {i:Nat} : ∀(xs:List Nat),(∀x∈xs,q x=true→p x=true)→i∈xs→p i=true→q i=false→xs.countP q+1≤xs.countP p
 |[],_,hi,_,_=>by simp at hi
 |x::xs,h,hi,hp,hq=>by
  have hmono:xs.countP q≤xs.countP p:=List.countP_mono_left fun y hy=>h y (Xax _ hy)
  rw [List.countP_cons,List.countP_cons]
  by_cases hx:x=i
  ·subst hx
   rw [hp,hq]
   simp
   exact hmono
  ·have:=Qk3 xs (fun y hy=>h y (Xax _ hy)) ((Xay.1 hi).resolve_left (Ne.symm hx)) hp hq
   have hxx:=h x (Xaw ..)
   cases hqx:q x
   ·simp only [Xaj,if_false];split <;> omega
   ·rw [hxx hqx];simp only [if_true];omega
theorem Wbu (hk:DrwOK P ops l dp) {i:Nat} (hi:i<ops.size):(dsAt l (place l i)).op=i:=by
 have h:=hk.all i hi
 have:=List.findIdx_getElem (p:=fun d:DS=>d.op == i) (xs:=l) (w:=h)
 unfold dsAt
 rw [List.getD,Xae h]
 exact beq_iff_eq.1 this
def isIn (l:List DS) (listed:Array Bool) (p:Nat):Prop:=p<l.length∧listed.getD (dsAt l p).op false=true
theorem Wfw (hk:DrwOK P ops l dp) {p:Nat} (hp:p<l.length):(dsAt l p).op<ops.size:=by
 obtain ⟨o,ho,_⟩:=hk.step p hp
 exact (Xa7.1 ho).1
theorem Wbv (hk:DrwOK P ops l dp) {listed:Array Bool} (hsz:listed.size=ops.size) {p:Nat} (hp:p<l.length):isIn l (listed.setIfInBounds (dsAt l p).op true)=also (isIn l listed) p:=by
 funext q
 apply propext
 unfold isIn also
 constructor
 ·rintro ⟨h1,h2⟩
  by_cases hq:q=p
  ·exact .inr hq
  ·refine .inl ⟨h1,?_⟩
   rwa [getD_set_ne false (fun e=>hq (hk.inj q p h1 hp e.symm))] at h2
 ·rintro (⟨h1,h2⟩|rfl)
  ·exact ⟨h1,getD_set_true h2⟩
  ·refine ⟨hp,?_⟩
   have:=Wfw hk hp
   simp [Xbs,Xcw,hsz,this]
theorem Qst (hk:DrwOK P ops l dp) {listed:Array Bool} {p:Nat} (hp:p<l.length) {o:Oper} (ho:ops[(dsAt l p).op]? = some o):
  (∀q∈edges ops l p,isIn l listed q)↔∀e∈o.after,Region.binds .any e=true→listed.getD e.on false=true:=by
 have hpl:∀e∈o.after,Region.binds .any e=true→place l e.on∈edges ops l p:=fun e he hb=>by
  unfold edges
  rw [ho]
  exact Xbc.2 ⟨e,List.mem_filter.2 ⟨by simpa using he,hb⟩,rfl⟩
 have hop:∀e∈o.after,Region.binds .any e=true→place l e.on<l.length∧(dsAt l (place l e.on)).op=e.on:=fun e he hb=>by
  have hlt:=hk.edge p hp _ (hpl e he hb)
  have hl:place l e.on<l.length:=by omega
  refine ⟨hl,?_⟩
  have:=List.findIdx_getElem (p:=fun d:DS=>d.op == e.on) (xs:=l) (w:=hl)
  unfold dsAt
  rw [List.getD,Xae hl]
  exact beq_iff_eq.1 this
 constructor
 ·intro h e he hb
  have:=(h _ (hpl e he hb)).2
  rwa [(hop e he hb).2] at this
 ·intro h q hq
  unfold edges at hq
  rw [ho] at hq
  obtain ⟨e,he,rfl⟩:=Xbc.1 hq
  obtain ⟨he1,he2⟩:=List.mem_filter.1 he
  have he1':e∈o.after:=by simpa using he1
  obtain ⟨h1,h2⟩:=hop e he1' he2
  exact ⟨h1,by rw [h2];exact h e he1' he2⟩
theorem Qxf (hk:DrwOK P ops l dp) (hc:Canon G call l R S) (hS:∀f,Sound P G f (call f)) (hG0:GOK G M0 Z0) {df:List Deferred}
  (hQ:∀a' w' M' Z' D',a'.defers=df→Ext X M0 Z0 w0 M' Z' w'→Kp Z0 w0 (S 0) Z' w' (S l.length)→St M' Z' X D' w' a'.tmps.toList (R l.length) (S l.length)→Q .normal a' w'):
  ∀(fuel:Nat) (listed:Array Bool) (a:Act) (c:Nat) (J:List V) (w:World) (M:Mem) (Z:Plc) (D:Own) (rs:Nat→Option Nat),listed.size=ops.size→left ops.size listed≤fuel→a.defers=df→
   Inv G l dp R S X (isIn l listed) c a.tmps.toList J w M Z D rs→Acc G l R S X (isIn l listed) c M0 Z0 w0 M Z w→(c<l.length→dly (dsAt l c).s.ins=false)→wpAny P .any ops Q fuel listed a w:=by
 have done:∀(listed:Array Bool) (a:Act) (c:Nat) (J:List V) (w:World) (M:Mem) (Z:Plc) (D:Own) (rs:Nat→Option Nat),a.defers=df→(∀p,p<l.length→isIn l listed p)→
   Inv G l dp R S X (isIn l listed) c a.tmps.toList J w M Z D rs→Acc G l R S X (isIn l listed) c M0 Z0 w0 M Z w→(c<l.length→dly (dsAt l c).s.ins=false)→Q .normal a w:=by
  intro listed a c J w M Z D rs hdf hall h hA hce
  have hcn:c=l.length:=by
   rcases Xby c l.length with hlt|hge
   ·have:=h.lt c (hall c hlt);omega
   ·have:=h.cn;omega
  subst hcn
  have hρ:J=R l.length:=Xbz fun t=>h.slot.2 t l.length (Xai _) (fun q hq _=>hall q hq) (fun q h1 h2 _=>by omega)
  subst hρ
  exact hQ a w M Z D hdf hA.ext hA.kp (h.st.lessX fun b hb=>.inl hb)
 intro fuel
 induction fuel with
 |zero=>
  intro listed a c J w M Z D rs hsz hleft hdf h hA hce
  have hall':∀i,i<ops.size→listed.getD i false=true:=fun i hi=>by
   have h0:(List.range ops.size).countP (fun i=>!listed.getD i false)=0:=by unfold left at hleft;omega
   have:=List.countP_eq_zero.1 h0 i (Xd3.2 hi)
   simpa using this
  have hall:∀p,p<l.length→isIn l listed p:=fun p hp=>⟨hp,hall' _ (Wfw hk hp)⟩
  refine ⟨?_,done listed a c J w M Z D rs hdf hall h hA hce⟩
  cases hrd:Region.ready .any ops listed with
  |nil=>rfl
  |cons i r=>
   have hm:i∈Region.ready .any ops listed:=by rw [hrd];exact Xaw ..
   obtain ⟨h1,o,ho,_⟩:=mem_ready.1 hm
   have hi:=(Xa7.1 ho).1
   have h2:=hall' i hi
   have hil:i<listed.size:=by omega
   simp [Array.getD,hil] at h1 h2
   rw [h1] at h2;cases h2
 |succ fuel ih=>
  intro listed a c J w M Z D rs hsz hleft hdf h hA hce
  have notIn:∀ {p},p<l.length→¬isIn l listed p→listed.getD (dsAt l p).op true=false:=fun {p} hp hn=>by
   have hil:(dsAt l p).op<listed.size:=by have:=Wfw hk hp;omega
   have:¬listed.getD (dsAt l p).op false=true:=fun e=>hn ⟨hp,e⟩
   simp [Array.getD,hil] at this ⊢
   exact this
  refine ⟨fun h0 => ?_,fun i hi => ?_⟩
  ·refine done listed a c J w M Z D rs hdf (fun p => ?_) h hA hce
   induction p using Nat.strongRecOn with
   |_ p ihp=>
    intro hp
    refine Classical.byContradiction fun hn => ?_
    obtain ⟨o,ho,_⟩:=hk.step p hp
    have he:=(Qst hk (listed:=listed) hp ho).1 (fun q hq=>ihp q (hk.edge p hp q hq) (by have:=hk.edge p hp q hq;omega))
    have:(dsAt l p).op∈Region.ready .any ops listed:=mem_ready.2 ⟨notIn hp hn,o,ho,he⟩
    rw [h0] at this
    cases this
  ·obtain ⟨h1,o,ho,h2⟩:=mem_ready.1 hi
   have hio:=(Xa7.1 ho).1
   have hpl:=hk.all i hio
   have hop:=Wbu hk hio
   generalize place l i=p at hpl hop
   subst hop
   have hn:¬isIn l listed p:=fun e=>by
    have hil:(dsAt l p).op<listed.size:=by omega
    have e2:=e.2
    simp [Array.getD,hil] at h1 e2
    rw [h1] at e2;cases e2
   have hd:∀q∈dp.getD p [],isIn l listed q:=Wfv hk (L:=isIn l listed) (fun q hq hql r hr=>h.cl.dep q hq r (hk.sub q hql r hr)) p hpl ((Qst hk hpl ho).2 h2)
   have hset:=Wbv hk hsz hpl
   have hsz':(listed.setIfInBounds (dsAt l p).op true).size=ops.size:=by rw [Array.size_setIfInBounds];exact hsz
   have hleft':left ops.size (listed.setIfInBounds (dsAt l p).op true)≤fuel:=by
    have:left ops.size (listed.setIfInBounds (dsAt l p).op true)+1≤left ops.size listed:=by
     unfold left
     refine Qk3 (i:=(dsAt l p).op) _ (fun x _ hx => ?_) (Xd3.2 hio) ?_ ?_
     ·cases hxl:listed.getD x false
      ·rfl
      ·rw [getD_set_true hxl] at hx;cases hx
     ·have:¬listed.getD (dsAt l p).op false=true:=fun e=>hn ⟨hpl,e⟩
      simpa using this
     ·have:=congrFun hset p
      have hin:isIn l (listed.setIfInBounds (dsAt l p).op true) p:=by rw [this];exact .inr rfl
      rw [hin.2];rfl
    omega
   have hGc:GOK G M Z:=hG0.mono hA.ext.m hA.ext.i
   have next:∀a' w' M' Z' D' J',a'.defers=a.defers→Ext (XR X (isIn l listed) c rs) M Z w M' Z' w'→(∀o,o<(S c).length→rdAt G l R S p≠.made o→Z' o=Z o)→HK Z w w'→pend (isIn l listed) c p→
     Inv G l dp R S X (also (isIn l listed) p) c a'.tmps.toList J' w' M' Z' D' rs→wpAny P .any ops Q fuel (listed.setIfInBounds (dsAt l p).op true) a' w':=by
    intro a' w' M' Z' D' J' hdf' hx hdom hh hp' hinv
    have hA':=hA.ran hp' hx hdom hh
    rw [←hset] at hinv hA'
    exact ih _ a' c J' w' M' Z' D' rs hsz' hleft' (hdf'.trans hdf) hinv hA' hce
   rcases Nat.lt_trichotomy p c with hpc|hpc|hpc
   ·have hp:pend (isIn l listed) c p:=⟨hpc,hn⟩
    have hdl:dly (dsAt l p).s.ins=true:=by
     cases hq:dly (dsAt l p).s.ins with
     |true=>rfl
     |false=>exact absurd (h.eff p hpc hq) hn
    have hcase:=Qk1 hk hc hpl hdl
    cases hcase with
    |none g1 g2=>exact h.exec_same hk hc hGc hp hd hdl g1 (fun o off e=>by rw [g2] at e;cases e) (fun o e=>by rw [g2] at e;cases e) (fun a' w' M' Z' D' J' q1 q2 q3 q4 q5=>next a' w' M' Z' D' J' q1 q2 q3 q4 hp q5)
    |same ex o off n g1 g2=>exact h.exec_same hk hc hGc hp hd hdl g1 (fun o off e=>by rw [g2] at e;cases e) (fun o e=>by rw [g2] at e;cases e) (fun a' w' M' Z' D' J' q1 q2 q3 q4 q5=>next a' w' M' Z' D' J' q1 q2 q3 q4 hp q5)
    |took o off cs xs s g1 g2 g3 g4=>exact h.exec_took hk hc hGc hp hd hdl g4 (fun a' w' M' Z' D' J' q1 q2 q3 q4 q5=>next a' w' M' Z' D' J' q1 q2 q3 q4 hp q5)
    |made cs g1 g2=>exact h.exec_made hk hc hGc hp hd hdl g2 (fun a' w' M' Z' D' J' q1 q2 q3 q4 q5=>next a' w' M' Z' D' J' q1 q2 q3 q4 hp q5)
   ·subst hpc
    refine h.effect hk hc hGc hS hA hpl hd (hce hpl) fun a' w' M' Z' D' J' hdf' hinv hA' => ?_
    obtain ⟨c',D'',rs',hinv',hA'',hce'⟩:=adv hk hc _ _ _ _ rfl hinv hA'
    rw [←hset] at hinv' hA''
    exact ih _ a' c' J' w' M' Z' D'' rs' hsz' hleft' (hdf'.trans hdf) hinv' hA'' hce'
   ·exfalso
    have hcl:c<l.length:=by omega
    rcases hk.pair p hpl c hpc with hm|⟨_,hm,_⟩
    ·have:=h.lt c (hd c hm);omega
    ·rw [hce hcl] at hm;cases hm
end
section
variable {P:Program} {ops:Array Oper} {l:List DS} {G:GV} {call:FuncId→List V→Objs→Option (V×Objs)} {Q:Exit→Act→World→Prop}
variable {X:Nat→Prop} {J:List V} {U:Objs} {w:World} {M:Mem} {Z:Plc} {D:Own} {a:Act}
theorem Wfx (n:Nat) (listed:Array Bool):left n listed≤n:=by
 unfold left
 have:=List.countP_le_length (p:=fun i=>!listed.getD i false) (l:=List.range n)
 simpa using this
theorem Qxg (hm:P.follows .mixedOrders=true) (hS:∀f,Sound P G f (call f)) (h:St M Z X D w a.tmps.toList J U) (hG:GOK G M Z) {id:Nat} (hc:Qsr P ops l=true) {J':List V} {U':Objs}
  (he:Qg9 G call [] l J U=some (J',U')) (hQ:∀a' w',Got a M Z X w U J' U' a' w'→Q .normal a' w'):(Code.region id ops true).wp P Q a w:=by
 obtain ⟨dp,hk⟩:=Qw7 hc
 obtain ⟨R,S,hR,hS0,hRn,hSn,htr⟩:=Qss G call l [] J U J' U' he
 have hcn:=Wbt hk htr
 have hnone:∀p,¬isIn l (Array.replicate ops.size false) p:=fun p hp=>by
  have:=hp.2
  simp [Xbs,Array.getElem?_replicate] at this
  split at this <;> simp at this
 have hpend:∀p,¬pend (isIn l (Array.replicate ops.size false)) 0 p:=fun p hp=>by have:=hp.1;omega
 have hX:∀b,XR X (isIn l (Array.replicate ops.size false)) 0 (fun _=>none) b→X b:=fun b hb=>by
  rcases hb with hb|⟨p,hp,_⟩
  ·exact hb
  ·exact absurd hp (hpend p)
 have hinv:Inv G l dp R S X (isIn l (Array.replicate ops.size false)) 0 a.tmps.toList J { w with drawn:=w.drawn+1 } M Z D (fun _=>none):=by
  refine ⟨by omega,⟨fun p hp=>hp.1,fun p hp=>absurd hp (hnone p)⟩,fun p hp=>absurd hp (hnone p),fun p hp=>by omega,⟨by rw [hR],fun t m hmn h1 h2 => ?_⟩,by rw [hS0];exact h.drew.lessX hX,
   fun p b hp=>absurd hp (hpend p),fun p q b hp=>absurd hp (hpend p),fun p hp=>absurd hp (hpend p),fun p hp=>absurd hp (hpend p),fun p o hp=>absurd hp (hpend p),fun p q o hp=>absurd hp (hpend p),fun p o off hp=>absurd hp (hpend p)⟩
  have key:∀m,m≤l.length→(∀q,q<m→t∉(dsAt l q).s.wr)→(R m)[t]? = (R 0)[t]? := by
   intro m
   induction m with
   |zero=>intro _ _;rfl
   |succ m ih=>
    intro hml hno
    rw [(hcn.frame (by omega:m<l.length)).2 t (hno m X0o)]
    exact ih X0o (fun q hq=>hno q X0o)
  rw [key m hmn (fun q hq hw=>hnone q (h1 q hq hw)),hR]
 have hacc:Acc G l R S X (isIn l (Array.replicate ops.size false)) 0 M Z w M Z { w with drawn:=w.drawn+1 }:=
  ⟨Ext.drew ..,Kp.same _ _ (fun _ _ _=>rfl),fun p o hp=>absurd hp (hpend p)⟩
 obtain ⟨c,D',rs',hinv',hacc',hce⟩:=adv hk hcn _ _ _ _ rfl hinv hacc
 refine wp_region_any hm ?_
 refine Qxf hk hcn hS hG (df:=a.defers) (fun a' w' M' Z' D'' hd hx hkp hst => ?_) ops.size _ a c J _ M Z D' rs' (by simp) (Wfx _ _) rfl hinv' hacc' hce
 rw [hRn,hSn] at hst
 rw [hS0,hSn] at hkp
 exact hQ a' w' ⟨hd,M',Z',D'',hx,hkp,hst⟩
end
theorem Qhs {n:Nat} : ∀ {xs:List V},V.rbs n xs=true↔∀x∈xs,V.rb n x=true
 |[]=>by simp [V.rbs]
 |x::xs=>by simp [V.rbs,Qhs (xs:=xs)]
theorem Qga {n i:Nat} {xs:List V} {x:V} (h:V.rbs n xs=true) (hx:xs[i]? = some x):V.rb n x=true:=Qhs.1 h x (Xat hx)
theorem Qsu {n:Nat} {x:V} (h:V.rb n x=true):V.rbs n x.cells=true:=by
 cases x <;> first|(simpa [V.cells,V.rb] using h)|(simp only [V.cells,V.rbs,Xau];exact h)
theorem Wbw {n:Nat} {xs:List V} (h:V.rbs n xs=true):V.rbs n (xs.flatMap V.cells)=true:=Qhs.2 fun y hy=>by
 obtain ⟨x,hx,hy⟩:=Xdp.1 hy
 exact Qhs.1 (Qsu (Qhs.1 h x hx)) y hy
section
variable {M M':Mem} {Z Z':Plc} {n:Nat}
theorem Rep.rb (hm:MemLe M M') (hi:∀o b,o<n→Z o=some b→Z' o=some b) {v:Value} {x:V} (h:Rep M Z v x):V.rb n x=true→Rep M' Z' v x:=by
 induction h with
 |any v=>intro _;exact .any v
 |undef=>intro _;exact .undef
 |bool b=>intro _;exact .bool b
 |int k m=>intro _;exact .int k m
 |str s l h=>intro _;exact .str s l h
 |nilp=>intro _;exact .nilp
 |ptr o off b h=>intro hr;exact .ptr o off b (hi o b (by simpa [V.rb] using hr) h)
 |eptr cs off b base us hl hmm hr ih=>
  intro hrb
  simp only [V.rb] at hrb
  exact .eptr cs off b base us hl (fun i u hu=>hm.le _ _ _ (hmm i u hu)) (fun i u c hu hc=>ih i u c hu hc (Qga hrb hc))
 |nils=>intro _;exact .nils
 |sl xs c b off cap sz us hs hl hmm hr hcap hfx ih=>
  intro hrb
  simp only [V.rb] at hrb
  exact .sl xs c b off cap sz us hs hl (fun i u hu=>hm.le _ _ _ (hmm i u hu)) (fun i u c hu hc=>ih i u c hu hc (Qga (Wbw hrb) hc)) hcap hfx
 |sl0 a c hg=>intro _;exact .sl0 a c hg
 |hs o off len sz ag b cap h hc=>intro hr;exact .hs o off len sz ag b cap (hi o b (by simpa [V.rb] using hr) h) hc
 |agg vs cs hl hr ih=>
  intro hrb
  simp only [V.rb] at hrb
  exact .agg vs cs hl (fun i v c hv hc=>ih i v c hv hc (Qga hrb hc))
 |tup vs cs hl hr ih=>
  intro hrb
  simp only [V.rb] at hrb
  exact .tup vs cs hl (fun i v c hv hc=>ih i v c hv hc (Qga hrb hc))
 |ifc t v x h ih=>intro hrb;simp only [V.rb] at hrb;exact .ifc t v x (ih hrb)
 |nili=>intro _;exact .nili
 |fn f ars bs first caps ha hb hra hrb iha ihb=>
  intro hr
  simp only [V.rb,Xac] at hr
  exact .fn f ars bs first caps ha hb (fun i v c hv hc=>iha i v c hv hc (Qga hr.1 hc)) (fun i v c hv hc=>ihb i v c hv hc (Qga hr.2 hc))
 |nilf=>intro _;exact .nilf
 |mp o r h=>intro hr;exact .mp o r (hi o r (by simpa [V.rb] using hr) h)
 |nilm=>intro _;exact .nilm
end
theorem Qdl {α β:Type} {g:α→Option β} : ∀ {xs:List α} {ys:List β},xs.mapM g=some ys→ys.length=xs.length∧∀(i:Nat) x y,xs[i]? = some x→ys[i]? = some y→g x=some y
 |[],ys,h=>by
  simp at h
  subst h
  exact ⟨rfl,fun i x y hx=>by simp at hx⟩
 |x::xs,ys,h=>by
  simp only [Xbo,Xaa,Xab] at h
  obtain ⟨y,hy,zs,hzs,he⟩:=h
  cases he
  obtain ⟨h1,h2⟩:=Qdl hzs
  refine ⟨by simp [h1],fun i a b ha hb => ?_⟩
  cases i with
  |zero=>simp at ha hb;subst ha hb;exact hy
  |succ i=>exact h2 i a b (by simpa using ha) (by simpa using hb)
theorem Qne {α β:Type} {g:α→Option β} {xs:List α} {ys:List β} (h:xs.mapM g=some ys) {y:β} (hy:y∈ys):∃x∈xs,g x=some y:=by
 obtain ⟨h1,h2⟩:=Qdl h
 obtain ⟨i,hi⟩:=Xcc.1 hy
 have hlt:i<xs.length:=by rw [←h1];exact (Xaf.1 hi).1
 exact ⟨xs[i],Xd7 hlt,h2 i _ _ (Xae hlt) hi⟩
section
variable {M M':Mem} {Z Z':Plc} {X:Nat→Prop} {D:Own} {w:World} {U:Objs} {n:Nat}
structure Fz (M:Mem) (Z:Plc) (M':Mem) (Z':Plc) (x y:V):Prop where
 rep:∀v,Rep M Z v x→Rep M' Z' v y
 len:y.cells.length=x.cells.length
 cells:∀us,Reps M Z us x.cells→Reps M' Z' us y.cells
 own:∀v,ownB v y=ownB v x
 one:y.one=x.one
 lk:y.isLk=x.isLk
 sl:∀ys c,y = .sl ys c→c≠.no→∃xs,x = .sl xs c∧(ys.flatMap V.cells).length=(xs.flatMap V.cells).length∧∀sz,(∀z∈xs,z.cells.length=sz)→∀z∈ys,z.cells.length=sz
theorem Qht {g:V→Option V} (hg:∀x y,g x=some y→Fz M Z M' Z' x y) {xs ys:List V} (h:xs.mapM g=some ys) {us:List Value} (hr:Reps M Z us xs):Reps M' Z' us ys:=by
 obtain ⟨h1,h2⟩:=Qdl h
 refine ⟨by rw [h1];exact hr.1,fun i u y hu hy => ?_⟩
 obtain ⟨x,hx,hrx⟩:=hr.get' hu
 exact (hg x y (h2 i x y hx hy)).rep u hrx
theorem Qq3 {g:V→Option V} (hg:∀x y,g x=some y→Fz M Z M' Z' x y):∀ {xs ys:List V},xs.mapM g=some ys→∀ {us:List Value},Reps M Z us (xs.flatMap V.cells)→Reps M' Z' us (ys.flatMap V.cells)
 |[],ys,h,us,hr=>by
  simp at h
  subst h
  have:us=[]:=Xap.1 (by simpa using hr.1)
  subst this
  exact Reps.nil
 |x::xs,ys,h,us,hr=>by
  simp only [Xbo,Xaa,Xab] at h
  obtain ⟨y,hy,zs,hzs,he⟩:=h
  cases he
  simp only [Xbp] at hr ⊢
  have h1:=hr.take x.cells.length
  have h2:=hr.drop x.cells.length
  rw [List.take_left] at h1
  rw [List.drop_left] at h2
  have:=((hg x y hy).cells _ h1).append (Qq3 hg hzs h2)
  rwa [Xdn] at this
theorem Qk4 {g:V→Option V} (hg:∀x y,g x=some y→Fz M Z M' Z' x y):∀ {xs ys:List V},xs.mapM g=some ys→(ys.flatMap V.cells).length=(xs.flatMap V.cells).length
 |[],ys,h=>by
  simp at h
  subst h
  rfl
 |x::xs,ys,h=>by
  simp only [Xbo,Xaa,Xab] at h
  obtain ⟨y,hy,zs,hzs,he⟩:=h
  cases he
  simp only [Xbp,Xas,(hg x y hy).len,Qk4 hg hzs]
theorem Wfy (h:Wd M Z X D w U) (hm:MemLe M M') (hi:∀o b,o<n→Z o=some b→Z' o=some b) (hc:∀o b,n≤o→Z o=some b→∀i u,w.cell? ⟨b,i,none⟩=some u→M' b i=some u):
  ∀(f:Nat) (x y:V),fz n U f x=some y→Fz M Z M' Z' x y:=by
 have same:∀x,V.rb n x=true→Fz M Z M' Z' x x:=fun x hx=>⟨fun v hr=>hr.rb hm hi hx,rfl,fun us hr=>⟨hr.1,fun i u c hu hcc=>(hr.2 i u c hu hcc).rb hm hi (Qga (Qsu hx) hcc)⟩,fun _=>rfl,rfl,rfl,fun ys c e _=>⟨ys,e,rfl,fun _ hz=>hz⟩⟩
 intro f
 induction f with
 |zero=>
  intro x y hf
  simp only [fz] at hf
  split at hf
  ·rename_i hx;cases hf;exact same x hx
  ·cases hf
 |succ f ih=>
  intro x y hf
  simp only [fz] at hf
  split at hf
  ·rename_i hx;cases hf;exact same x hx
  ·rename_i hrb
   have single:x.cells=[x]→y.cells=[y]→(∀v,Rep M Z v x→Rep M' Z' v y)→(∀v,ownB v y=ownB v x)→y.one=x.one→y.isLk=x.isLk→(∀ys c,y = .sl ys c→c≠.no→∃xs,x = .sl xs c∧(ys.flatMap V.cells).length=(xs.flatMap V.cells).length∧∀sz,(∀z∈xs,z.cells.length=sz)→∀z∈ys,z.cells.length=sz)→Fz M Z M' Z' x y:=fun hx hy hr ho h1 hk hs=>
    ⟨hr,by rw [hx,hy];rfl,fun us hus=>by
     rw [hx] at hus;rw [hy]
     refine ⟨hus.1,fun i u c hu hcc => ?_⟩
     cases i with
     |zero=>simp at hcc;subst hcc;exact hr u (hus.2 0 u x hu rfl)
     |succ i=>simp at hcc,ho,h1,hk,hs⟩
   split at hf
   ·
    rename_i o off
    simp only [Xaa,Xab] at hf
    obtain ⟨cs,hcs,ds,hds,he⟩:=hf
    cases he
    refine single rfl rfl (fun v hv => ?_) (fun v=>by unfold ownB;split <;> simp_all) rfl rfl (fun ys c e hn=>by first|(cases e;done)|(cases e;exact absurd rfl hn))
    obtain ⟨b,rfl,hib⟩:=hv.inv_ptr
    have hno:n≤o:=by simpa [V.rb] using hrb
    obtain ⟨O,hO,hor⟩:=h.obj o b hib
    rw [Qbu hcs] at hO;cases hO
    obtain ⟨ws,T,fzz,hb,hr2,_,_,_⟩:=hor
    have hr3:=Qht ih hds hr2
    have:=Rep.eptr (M:=M') (Z:=Z') ds off b 0 (ws.toList.take cs.length) hr3.1 (fun i u hu=>by
     refine hc o b hno hib (0+i) u ?_
     rw [Qcx hb,Xb1]
     rw [Xar] at hu
     split at hu
     ·simpa using hu
     ·cases hu) hr3.2
    simpa using this
   ·
    rename_i o off len sz ag
    simp only [Xaa,Xab] at hf
    obtain ⟨cs,hcs,xs,hxs,ys,hys,he⟩:=hf
    cases he
    refine single rfl rfl (fun v hv => ?_) (fun v=>by unfold ownB;split <;> simp_all) rfl rfl (fun ys c e hn=>by first|(cases e;done)|(cases e;exact absurd rfl hn))
    obtain ⟨b,cap,rfl,hib,hlc⟩:=hv.inv_hs
    have hno:n≤o:=by simpa [V.rb] using hrb
    obtain ⟨O,hO,hor⟩:=h.obj o b hib
    rw [Qbu hcs] at hO;cases hO
    obtain ⟨ws,T,fzz,hb,hr2,_,_,hone⟩:=hor
    obtain ⟨k1,k2,k3⟩:=Qfm hone _ _ _ hxs
    have hr3:Reps M Z (((ws.toList.take cs.length).drop off).take (len * sz)) (xs.flatMap V.cells):=by
     rw [k2];exact ((hr2.drop off).take (len * sz)).ng
    have hr4:=Qq3 ih hys hr3
    have hyl:ys.length=len:=by rw [(Qdl hys).1,k1]
    have:=Rep.sl (M:=M') (Z:=Z') ys .no b off cap sz _ (fun y hy=>by
     obtain ⟨x,hx,hxy⟩:=Qne hys hy
     rw [(ih x y hxy).len];exact k3 x hx) hr4.1 (fun i u hu=>by
     refine hc o b hno hib (off+i) u ?_
     rw [Qcx hb]
     rw [Xar] at hu
     split at hu
     ·rw [Xa6,Xar] at hu
      split at hu
      ·simpa using hu
      ·cases hu
     ·cases hu) hr4.2 X0o (fun e=>by cases e)
    rwa [hyl] at this
   ·
    rename_i cs off
    simp only [Xaa,Xab] at hf
    obtain ⟨ds,hds,he⟩:=hf
    cases he
    refine single rfl rfl (fun v hv => ?_) (fun v=>by unfold ownB;split <;> simp_all) rfl rfl (fun ys c e hn=>by first|(cases e;done)|(cases e;exact absurd rfl hn))
    cases hv with
    |eptr _ _ b base us hl hmm hr=>
     have hr3:=Qht ih hds (us:=us) ⟨hl,hr⟩
     exact .eptr ds off b base us hr3.1 (fun i u hu=>hm.le _ _ _ (hmm i u hu)) hr3.2
   ·
    rename_i xs c
    simp only [Xaa,Xab] at hf
    obtain ⟨ys,hys,he⟩:=hf
    cases he
    refine single rfl rfl (fun v hv => ?_) (fun v=>by cases c <;> cases v <;> first|rfl|(rename_i p _ _;cases p <;> rfl)) rfl (by cases c <;> rfl) (fun zs c' e _=>by
     cases e
     exact ⟨xs,rfl,Qk4 ih hys,fun sz hz y hy=>by
      obtain ⟨x,hx,hxy⟩:=Qne hys hy
      rw [(ih x y hxy).len];exact hz x hx⟩)
    cases hv with
    |sl _ _ b off cap sz us hs hl hmm hr hcap hfx=>
     have hr3:=Qq3 ih hys (us:=us) ⟨hl,hr⟩
     have hyl:=(Qdl hys).1
     have:=Rep.sl (M:=M') (Z:=Z') ys c b off cap sz us (fun y hy=>by
      obtain ⟨x,hx,hxy⟩:=Qne hys hy
      rw [(ih x y hxy).len];exact hs x hx) hr3.1 (fun i u hu=>hm.le _ _ _ (hmm i u hu)) hr3.2 X0o (fun e=>by rw [hyl];exact hfx e)
     rwa [hyl] at this
    |sl0 a _ hg=>
     obtain rfl:ys=[]:=by simpa using hys
     exact .sl0 a c hg
   ·
    rename_i cs
    simp only [Xaa,Xab] at hf
    obtain ⟨ds,hds,he⟩:=hf
    cases he
    refine ⟨fun v hv => ?_,(Qdl hds).1,fun us hus=>Qht ih hds hus,fun v=>by unfold ownB;split <;> simp_all,rfl,rfl,fun ys c e _=>by cases e⟩
    cases hv with
    |agg vs _ hl hr=>
     exact Rep.agg_iff.2 (Qht ih hds (Rep.agg_iff.1 (.agg vs cs hl hr)))
   ·
    rename_i cs
    simp only [Xaa,Xab] at hf
    obtain ⟨ds,hds,he⟩:=hf
    cases he
    refine single rfl rfl (fun v hv => ?_) (fun v=>by unfold ownB;split <;> simp_all) rfl rfl (fun ys c e hn=>by first|(cases e;done)|(cases e;exact absurd rfl hn))
    cases hv with
    |tup vs _ hl hr=>
     have hr3:=Qht ih hds (us:=vs.toList) ⟨by simpa using hl,fun i u x hu hx=>hr i u x (by simpa using hu) hx⟩
     exact .tup vs ds (by simpa using hr3.1) (fun i u x hu hx=>hr3.2 i u x (by simpa using hu) hx)
   ·
    rename_i t z
    simp only [Xaa,Xab] at hf
    obtain ⟨z',hz,he⟩:=hf
    cases he
    refine single rfl rfl (fun v hv => ?_) (fun v=>by unfold ownB;split <;> simp_all) rfl rfl (fun ys c e hn=>by first|(cases e;done)|(cases e;exact absurd rfl hn))
    cases hv with
    |ifc _ v' _ hr=>exact .ifc t v' z' ((ih z z' hz).rep v' hr)
   ·
    rename_i g p q
    simp only [Xaa,Xab] at hf
    obtain ⟨p',hp,q',hq,he⟩:=hf
    cases he
    refine single rfl rfl (fun v hv => ?_) (fun v=>by unfold ownB;split <;> simp_all) rfl rfl (fun ys c e hn=>by first|(cases e;done)|(cases e;exact absurd rfl hn))
    cases hv with
    |fn _ ars bs _ _ ha hb hra hrb=>
     have h1:=Qht ih hp (us:=ars.toList) ⟨by simpa using ha,fun i u x hu hx=>hra i u x (by simpa using hu) hx⟩
     have h2:=Qht ih hq (us:=bs.toList) ⟨by simpa using hb,fun i u x hu hx=>hrb i u x (by simpa using hu) hx⟩
     exact .fn g ars bs p' q' (by simpa using h1.1) (by simpa using h2.1) (fun i u x hu hx=>h1.2 i u x (by simpa using hu) hx) (fun i u x hu hx=>h2.2 i u x (by simpa using hu) hx)
   ·cases hf
end
section
variable {M M':Mem} {Z Z' Z0:Plc} {X:Nat→Prop} {D:Own} {w:World} {us:List Value} {J:List V} {U:Objs} {n:Nat}
def Fz1 (M:Mem) (Z:Plc) (M':Mem) (Z':Plc) (x y:V):Prop:=y = .any∨Fz M Z M' Z' x y
theorem Qgb (hg:∀x y,fz n U fzD x=some y→Fz M Z M' Z' x y) {live:List Nat} : ∀(i:Nat) (J J':List V),Qaz n U live i J=some J'→J'.length=J.length∧∀(j:Nat) x y,J[j]? = some x→J'[j]? = some y→Fz1 M Z M' Z' x y
 |i,[],J',h=>by
  simp only [Qaz,Xah] at h
  subst h
  exact ⟨rfl,fun j x y hx=>by simp at hx⟩
 |i,x::xs,J',h=>by
  have h':∃y ys,(y = .any∨fz n U fzD x=some y)∧Qaz n U live (i+1) xs=some ys∧J'=y::ys:=by
   simp only [Qaz] at h
   split at h
   ·simp only [Xaa,Xab] at h
    obtain ⟨y,hy,ys,hys,he⟩:=h
    cases he
    exact ⟨y,ys,.inr hy,hys,rfl⟩
   ·simp only [Xaa,Xab] at h
    obtain ⟨y,hy,ys,hys,he⟩:=h
    cases he
    cases hy
    exact ⟨_,ys,.inl rfl,hys,rfl⟩
  obtain ⟨y,ys,hy,hys,rfl⟩:=h'
  obtain ⟨h1,h2⟩:=Qgb hg (i+1) xs ys hys
  refine ⟨by simp [h1],fun j a b ha hb => ?_⟩
  cases j with
  |zero=>
   simp at ha hb
   subst ha hb
   exact hy.imp id (hg _ _)
  |succ j=>exact h2 j a b (by simpa using ha) (by simpa using hb)
theorem Qo5 (hsame:∀x,V.rb n x=true→Fz M Z M' Z' x x) (hg:∀x y,fz n U fzD x=some y→Fz M Z M' Z' x y) {cs:List V} {O':O} (h:fzO n U (.cells cs)=some O'):
  ∃ds,O' = .cells ds∧ds.length=cs.length∧∀(i:Nat) c d,cs[i]? = some c→ds[i]? = some d→Fz M Z M' Z' c d:=by
 simp only [fzO] at h
 split at h
 ·rename_i hrb
  cases h
  exact ⟨cs,rfl,rfl,fun i c d hc hd=>by rw [hc] at hd;cases hd;exact hsame c (Qga hrb hc)⟩
 ·rw [Xam] at h
  obtain ⟨ds,hds,rfl⟩:=h
  obtain ⟨h1,h2⟩:=Qdl hds
  exact ⟨ds,rfl,h1,fun i c d hc hd=>hg c d (h2 i c d hc hd)⟩
open Classical in
noncomputable def cutM (M:Mem) (Z:Plc) (w:World) (n:Nat):Mem:=fun b i=>if ∃o,n≤o∧Z o=some b then w.cell? ⟨b,i,none⟩ else M b i
theorem St.cut (h:St M Z X D w us J U) (h0:∀o,o<n→Z0 o=Z o) (h1:∀o,n≤o→Z0 o=none) {live:List Nat} {J':List V} {U':Objs} (hs:Qaz n U live 0 J=some J') (ho:cuO n U=some U'):
  MemLe M (cutM M Z w n)∧(∀b i,X b→cutM M Z w n b i=M b i)∧St (cutM M Z w n) Z0 X D w us J' U'∧(∀o i,lkAt U' o i→lkAt U o i)∧U'.length=min n U.length:=by
 have hm:MemLe M (cutM M Z w n):=⟨fun b i u hu=>by
  unfold cutM
  split
  ·exact h.wd.mem b i u hu
  ·exact hu⟩
 have hi:∀o b,o<n→Z o=some b→Z0 o=some b:=fun o b hlt e=>by rw [h0 o hlt];exact e
 have hback:∀o b,Z0 o=some b→o<n∧Z o=some b:=fun o b e=>by
  rcases Xby o n with hlt|hge
  ·exact ⟨hlt,by rw [←h0 o hlt];exact e⟩
  ·rw [h1 o hge] at e;cases e
 have hg:∀x y,fz n U fzD x=some y→Fz M Z (cutM M Z w n) Z0 x y:=Wfy h.wd hm hi (fun o b hno hb i u hu=>by
  unfold cutM
  rw [if_pos ⟨o,hno,hb⟩];exact hu) fzD
 have hsame:∀x,V.rb n x=true→Fz M Z (cutM M Z w n) Z0 x x:=fun x hx=>Wfy h.wd hm hi (fun o b hno hb i u hu=>by
  unfold cutM
  rw [if_pos ⟨o,hno,hb⟩];exact hu) 0 x x (by simp [fz,hx])
 have hX:∀b i,(∀o,n≤o→Z o≠some b)→cutM M Z w n b i=M b i:=fun b i hn=>by
  unfold cutM
  rw [if_neg (fun ⟨o,h1,h2⟩=>hn o h1 h2)]
 obtain ⟨hl,hsl⟩:=Qgb hg 0 J J' hs
 unfold cuO at ho
 obtain ⟨hol,hog⟩:=Qdl ho
 have hobj:∀ {o:Nat} {O':O},U'[o]? = some O'→∃O,U[o]? = some O∧fzO n U O=some O':=fun {o O'} hO'=>by
  have hlt:o<(U.take n).length:=by rw [←hol];exact (Xaf.1 hO').1
  have hget:=Xae hlt
  refine ⟨(U.take n)[o],?_,hog o _ _ hget hO'⟩
  rw [Xar] at hget
  split at hget
  ·exact hget
  ·cases hget
 have hcells:∀ {o:Nat} {ds:List V},U'[o]? = some (.cells ds)→∃cs,U[o]? = some (.cells cs)∧ds.length=cs.length∧∀(i:Nat) c d,cs[i]? = some c→ds[i]? = some d→Fz M Z (cutM M Z w n) Z0 c d:=fun {o ds} hd=>by
  obtain ⟨O,hO,hf⟩:=hobj hd
  cases O with
  |cells cs=>
   obtain ⟨ds',he,q1,q2⟩:=Qo5 hsame hg hf
   cases he
   exact ⟨cs,hO,q1,q2⟩
  |mp es=>simp only [fzO] at hf;split at hf <;> cases hf
 have key:∀p v y,At Z0 w us J' U' p v y→∃x,At Z w us J U p v x∧Fz1 M Z (cutM M Z w n) Z0 x y:=by
  intro p v y ha
  cases p with
  |s i=>
   obtain ⟨q1,q2⟩:=ha
   have hlt:i<J.length:=by rw [←hl];exact (Xaf.1 q2).1
   exact ⟨J[i],⟨q1,Xae hlt⟩,hsl i _ _ (Xae hlt) q2⟩
  |c o i=>
   obtain ⟨b,ws,T,fzz,ds,q1,q2,q3,q4,q5⟩:=ha
   obtain ⟨cs,r1,r2,r3⟩:=hcells q3
   have hlt:i<cs.length:=by rw [←r2];exact (Xaf.1 q5).1
   exact ⟨cs[i],⟨b,ws,T,fzz,cs,(hback o b q1).2,q2,r1,q4,Xae hlt⟩,.inr (r3 i _ _ (Xae hlt) q5)⟩
 refine ⟨hm,fun b i hb=>hX b i fun o _ e=>h.wd.xobj o b e hb,⟨⟨fun b i u hu => ?_,fun o b hb => ?_,fun o b hb=>h.wd.olt o b (hback o b hb).2,fun o o' b hb hb'=>h.wd.inj o o' b (hback o b hb).2 (hback o' b hb').2,h.wd.xlt,fun o b hb=>h.wd.xobj o b (hback o b hb).2,fun b p hp=>⟨(h.wd.kap b p hp).1,fun o e=>(h.wd.kap b p hp).2.1 o (hback o b e).2,(h.wd.kap b p hp).2.2⟩⟩,⟨by rw [hl];exact h.rep.1,fun i u y hu hy => ?_⟩,fun p v y b ha hb => ?_,fun p v y ha => ?_⟩,fun o i hlk => ?_,by rw [hol,Xbh]⟩
 ·unfold cutM at hu
  split at hu
  ·exact hu
  ·exact h.wd.mem b i u hu
 ·obtain ⟨hlt,hb'⟩:=hback o b hb
  obtain ⟨O,hO,hor⟩:=h.wd.obj o b hb'
  have hlt2:o<U'.length:=by
   rw [hol,Xbh];have:=(Xaf.1 hO).1;omega
  have hO':=Xae hlt2
  obtain ⟨O2,hO2,hf⟩:=hobj hO'
  rw [hO] at hO2;cases hO2
  refine ⟨U'[o],hO',?_⟩
  have hMb:∀i,cutM M Z w n b i=M b i:=fun i=>hX b i fun o' hge e=>by
   have:=h.wd.inj o o' b hb' e;omega
  cases O with
  |cells cs=>
   obtain ⟨ds,he,q1,q2⟩:=Qo5 hsame hg hf
   rw [he]
   obtain ⟨ws,T,fzz,r1,r2,r3,r4,r5⟩:=hor
   refine ⟨ws,T,fzz,r1,⟨by rw [q1];exact r2.1,fun i u d hu hd => ?_⟩,fun i hi=>r3 i X0o,fun i=>by rw [hMb];exact r4 i,fun d hd => ?_⟩
   ·rw [q1] at hu
    obtain ⟨c,hc,hrc⟩:=r2.get' hu
    exact (q2 i c d hc hd).rep u hrc
   ·obtain ⟨i,hi⟩:=Xcc.1 hd
    have hlt3:i<cs.length:=by rw [←q1];exact (Xaf.1 hi).1
    rw [(q2 i _ d (Xae hlt3) hi).one]
    exact r5 _ (Xd7 hlt3)
  |mp es=>
   simp only [fzO] at hf
   split at hf
   ·rename_i hrb
    simp only [Xac] at hrb
    have he:U'[o] = .mp es:=(Xbi hf).symm
    rw [he]
    obtain ⟨en,clock,r1,r2,r3⟩:=hor
    refine ⟨en,clock,r1,r2,fun i e p he hp => ?_⟩
    obtain ⟨s1,s2⟩:=r3 i e p he hp
    have hp':=Xat hp
    exact ⟨s1.rb hm hi (Qhs.1 hrb.1 _ (Xbc.2 ⟨p,hp',rfl⟩)),s2.rb hm hi (Qhs.1 hrb.2 _ (Xbc.2 ⟨p,hp',rfl⟩))⟩
   ·cases hf
 ·have hlt:i<J.length:=by rw [←hl];exact (Xaf.1 hy).1
  rcases hsl i _ y (Xae hlt) hy with rfl|hfz
  ·exact .any u
  ·exact hfz.rep u (h.rep.2 i u _ hu (Xae hlt))
 ·obtain ⟨x,hx,hf⟩:=key p v y ha
  rcases hf with rfl|hf
  ·unfold ownB at hb;split at hb <;> simp_all
  ·rw [hf.own v] at hb
   exact h.own p v x b hx hb
 ·obtain ⟨x,hx,hf⟩:=key p v y ha
  rcases hf with rfl|hf
  ·exact ⟨fun xs s e=>by cases e⟩
  ·refine ⟨fun ys s e a len cap hv => ?_⟩
   obtain ⟨xs,hxs,hfl,hsz⟩:=hf.sl ys (.gr s) e (by simp)
   obtain ⟨g1,g2,ws,T,fzz,g3,g4,g5⟩:=(h.gr p v x hx).ok xs s hxs a len cap hv
   have hk:D a.block=some p:=h.own p v x a.block hx (by rw [hxs,hv];rfl)
   rw [hfl]
   exact ⟨hsz s g1,fun i hi'=>by rw [hX a.block i fun o _ e=>(h.wd.kap _ _ hk).2.1 o e];exact g2 i hi',ws,T,fzz,g3,g4,g5⟩
 ·obtain ⟨ds,y,q1,q2,q3⟩:=hlk
  obtain ⟨cs,r1,r2,r3⟩:=hcells q1
  have hlt:i<cs.length:=by rw [←r2];exact (Xaf.1 q2).1
  exact ⟨cs,cs[i],r1,Xae hlt,by rw [←(r3 i _ y (Xae hlt) q2).lk];exact q3⟩
end
def Wi2:Out→Exit
 | .norm=>.normal
 | .ex id=>.exit id
 | .ret=>.ret
def Qi3 (P:Program):Code→Cd→Bool
 | .skip,.skip=>true
 | .ret,.ret=>true
 | .exit id,.exit id'=>id == id'
 | .region _ ops false,.ops _ ss=>Qib P ops ops.toList ss
 | .region _ ops true,.drw _ l=>Qsr P ops l
 | .seq a b,.seq a' b'=>Qi3 P a a'&&Qi3 P b b'
 | .cond c a b,.cond c' a' b'=>Qa2 c c'&&Qi3 P a a'&&Qi3 P b b'
 | .block id b,.block id' b'=>id == id'&&Qi3 P b b'
 | .loop b,.loop _ _ b'=>Qi3 P b b'
 |_,_=>false
section
variable {P:Program} {G:GV} {call:FuncId→List V→Objs→Option (V×Objs)} {X:Nat→Prop}
theorem Qxh {c:Code} {Q:Exit→Act→World→Prop} (I:Nat→Act→World→Prop) (round:∀k a w,I (k+1) a w→c.wp P (Exit.then (fun a' w'=>I k a' w') Q) a w) (h0:∀a w,¬I 0 a w) {k:Nat} {a:Act} {w:World} (h:I k a w):(Code.loop c).wp P Q a w:=by
 intro b kk cs
 have key:∀k a w,I k a w→∃e a' w',Q e a' w'∧Arrives P (lone (b.at a (.code c :: .inLoop c::kk)) cs w) b kk cs e a' w':=by
  intro k
  induction k with
  |zero=>intro a w hI;exact absurd hI (h0 a w)
  |succ k ih=>
   intro a w hI
   obtain ⟨e,a₁,w₁,hq,harr⟩:=round k a w hI b (.inLoop c::kk) cs
   cases e with
   |normal=>
    obtain ⟨e₂,a₂,w₂,hq₂,harr₂⟩:=ih a₁ w₁ hq
    exact ⟨e₂,a₂,w₂,hq₂,.of_steps (Steps.trans harr (.one step_inLoop)) harr₂⟩
   |exit id=>exact ⟨_,a₁,w₁,hq,.pass (x:=.inLoop c) rfl (fun _ _=>.inl (by simp)) harr⟩
   |goto l=>exact ⟨_,a₁,w₁,hq,.pass (x:=.inLoop c) rfl (fun _ _=>.inl (by simp)) harr⟩
   |ret=>exact ⟨_,a₁,w₁,hq,.pass (x:=.inLoop c) rfl (fun _ _=>.inl (by simp)) harr⟩
   |panic ch=>exact ⟨_,a₁,w₁,hq,.pass (x:=.inLoop c) rfl (fun _ _=>.inl (by simp)) harr⟩
   |outgrown=>exact ⟨_,a₁,w₁,hq,.pass (x:=.inLoop c) rfl (fun _ _=>.inl (by simp)) harr⟩
 obtain ⟨e,a',w',hq,harr⟩:=key k a w h
 exact ⟨e,a',w',hq,.of_steps (.one step_loop) harr⟩
theorem St.cutS {M:Mem} {Z:Plc} {D:Own} {w:World} {us:List Value} {J J':List V} {U:Objs} {n:Nat} {live:List Nat} (h:St M Z X D w us J U) (hn:U.length≤n) (hs:Qaz n U live 0 J=some J'):St M Z X D w us J' U:=by
 have hg:∀x y,fz n U fzD x=some y→Fz M Z M Z x y:=Wfy h.wd (MemLe.refl M) (fun o b _ e=>e) (fun o b hno hb i u hu=>by
  rw [h.wd.none_of_ge (Xca hn hno)] at hb;cases hb) fzD
 obtain ⟨hl,hsl⟩:=Qgb hg 0 J J' hs
 have key:∀p v y,At Z w us J' U p v y→∃x,At Z w us J U p v x∧(x=y∨Fz1 M Z M Z x y):=by
  intro p v y ha
  cases p with
  |c o i=>exact ⟨y,ha,.inl rfl⟩
  |s i=>
   obtain ⟨q1,q2⟩:=ha
   have hlt:i<J.length:=by rw [←hl];exact (Xaf.1 q2).1
   exact ⟨J[i],⟨q1,Xae hlt⟩,.inr (hsl i _ _ (Xae hlt) q2)⟩
 refine ⟨h.wd,⟨by rw [hl];exact h.rep.1,fun i u y hu hy => ?_⟩,fun p v y b ha hb => ?_,fun p v y ha => ?_⟩
 ·have hlt:i<J.length:=by rw [←hl];exact (Xaf.1 hy).1
  rcases hsl i _ y (Xae hlt) hy with rfl|hfz
  ·exact .any u
  ·exact hfz.rep u (h.rep.2 i u _ hu (Xae hlt))
 ·obtain ⟨x,hx,hf⟩:=key p v y ha
  rcases hf with rfl|rfl|hf
  ·exact h.own p v x b hx hb
  ·unfold ownB at hb;split at hb <;> simp_all
  ·rw [hf.own v] at hb;exact h.own p v x b hx hb
 ·obtain ⟨x,hx,hf⟩:=key p v y ha
  rcases hf with rfl|rfl|hf
  ·exact h.gr p v x hx
  ·exact ⟨fun xs s e=>by cases e⟩
  ·refine ⟨fun ys s e a len cap hv => ?_⟩
   obtain ⟨xs,hxs,hfl,hsz⟩:=hf.sl ys (.gr s) e (by simp)
   obtain ⟨g1,g2,g3⟩:=(h.gr p v x hx).ok xs s hxs a len cap hv
   rw [hfl]
   exact ⟨hsz s g1,g2,g3⟩
theorem Got.refl {M:Mem} {Z:Plc} {D:Own} {w:World} {a:Act} {J:List V} {U:Objs} (h:St M Z X D w a.tmps.toList J U):Got a M Z X w U J U a w:=⟨rfl,M,Z,D,Ext.refl ..,Kp.refl ..,h⟩
theorem Wmv (hm:P.follows .mixedOrders=true) (hS:∀f,Sound P G f (call f)) {fuel:Nat} : ∀(cd:Cd) (code:Code),Qi3 P code cd=true→∀(Q:Exit→Act→World→Prop) (M:Mem) (Z:Plc) (D:Own) (w:World) (a:Act) (J:List V) (U:Objs) (out:Out) (J':List V) (U':Objs),
  St M Z X D w a.tmps.toList J U→GOK G M Z→evCd G call fuel cd J U=some (out,J',U')→(∀a' w',Got a M Z X w U J' U' a' w'→Q (Wi2 out) a' w')→code.wp P Q a w:=by
 intro cd
 induction cd with
 |skip=>
  intro code hc Q M Z D w a J U out J' U' h hG he hQ
  cases code <;> (try (cases hc;done)) <;> (try (rename_i _ _ dr;cases dr <;> (cases hc;done)))
  cases he
  exact wp_skip (hQ _ _ (Got.refl h))
 |ret=>
  intro code hc Q M Z D w a J U out J' U' h hG he hQ
  cases code <;> (try (cases hc;done)) <;> (try (rename_i _ _ dr;cases dr <;> (cases hc;done)))
  cases he
  exact wp_ret (hQ _ _ (Got.refl h))
 |exit id=>
  intro code hc Q M Z D w a J U out J' U' h hG he hQ
  cases code <;> (try (cases hc;done)) <;> (try (rename_i _ _ dr;cases dr <;> (cases hc;done)))
  simp only [Qi3,beq_iff_eq] at hc
  subst hc
  cases he
  exact wp_exit (hQ _ _ (Got.refl h))
 |ops k ss=>
  intro code hc Q M Z D w a J U out J' U' h hG he hQ
  cases code <;> (try (cases hc;done))
  rename_i id ops dr
  cases dr <;> (try (cases hc;done))
  simp only [evCd,Xam] at he
  obtain ⟨⟨r,s⟩,he,e⟩:=he
  cases e
  exact Qw4 hS h hG hc he hQ
 |drw k l=>
  intro code hc Q M Z D w a J U out J' U' h hG he hQ
  cases code <;> (try (cases hc;done))
  rename_i id ops dr
  cases dr <;> (try (cases hc;done))
  simp only [evCd,Xam] at he
  obtain ⟨⟨r,s⟩,he,e⟩:=he
  cases e
  exact Qxg hm hS h hG hc he hQ
 |seq x y ihx ihy=>
  intro code hc Q M Z D w a J U out J' U' h hG he hQ
  cases code <;> (try (cases hc;done)) <;> (try (rename_i _ _ dr;cases dr <;> (cases hc;done)))
  simp only [Qi3,Xac] at hc
  simp only [evCd] at he
  refine wp_seq ?_
  split at he
  ·rename_i r s hx
   refine ihx _ hc.1 _ M Z D w a J U .norm r s h hG hx fun a' w' hgot => ?_
   obtain ⟨hd,M',Z',D',hxx,hk,hs⟩:=hgot
   exact ihy _ hc.2 Q M' Z' D' w' a' r s out J' U' hs (hG.mono hxx.m hxx.i) he fun a'' w'' hg=>hQ _ _ (Got.trans hd hxx hk hg)
  ·rename_i hne
   refine ihx _ hc.1 _ M Z D w a J U out J' U' h hG he fun a' w' hgot => ?_
   cases out with
   |norm=>exact absurd he (hne J' U')
   |ex id=>exact hQ _ _ hgot
   |ret=>exact hQ _ _ hgot
 |cond c x y ihx ihy=>
  intro code hc Q M Z D w a J U out J' U' h hG he hQ
  cases code <;> (try (cases hc;done)) <;> (try (rename_i _ _ dr;cases dr <;> (cases hc;done)))
  simp only [Qi3,Xac] at hc
  have hv:=(Opd.of_state h.rep hG).ok _ _ hc.1.1
  simp only [evCd] at he
  split at he
  ·rename_i hq
   rw [hq] at hv
   exact wp_cond_true hv.inv_bool (ihx _ hc.1.2 Q M Z D w a J U out J' U' h hG he hQ)
  ·rename_i hq
   rw [hq] at hv
   exact wp_cond_false hv.inv_bool (ihy _ hc.2 Q M Z D w a J U out J' U' h hG he hQ)
  ·cases he
 |block id x ih=>
  intro code hc Q M Z D w a J U out J' U' h hG he hQ
  cases code <;> (try (cases hc;done)) <;> (try (rename_i _ _ dr;cases dr <;> (cases hc;done)))
  simp only [Qi3,Xac,beq_iff_eq] at hc
  obtain ⟨rfl,hc⟩:=hc
  refine wp_block ?_
  simp only [evCd] at he
  split at he
  ·rename_i i r s hx
   refine ih _ hc _ M Z D w a J U (.ex i) r s h hG hx fun a' w' hgot => ?_
   simp only [Wi2,Exit.inBlock]
   split at he
   ·rename_i hi;cases he;rw [if_pos hi];exact hQ _ _ hgot
   ·rename_i hi;cases he;rw [if_neg hi];exact hQ _ _ hgot
  ·rename_i hne
   refine ih _ hc _ M Z D w a J U out J' U' h hG he fun a' w' hgot => ?_
   cases out with
   |norm=>exact hQ _ _ hgot
   |ex i=>exact absurd he (hne i J' U')
   |ret=>exact hQ _ _ hgot
 |loop lin lout x ih=>
  intro code hc Q M Z D w a J U out J' U' h hG he hQ
  cases code <;> (try (cases hc;done)) <;> (try (rename_i _ _ dr;cases dr <;> (cases hc;done)))
  rename_i c
  simp only [Qi3] at hc
  simp only [evCd,Xaa,Xab] at he
  obtain ⟨J1,h1,h2⟩:=he
  have back:∀ {a1 a2:Act} {w1 w2:World} {M1:Mem} {s s':Objs} {r' r2:List V} {s2:Objs} {live:List Nat},a1.defers=a.defers→Ext X M Z w M1 Z w1→Kp Z w U Z w1 s→Got a1 M1 Z X w1 s r' s' a2 w2→Qaz U.length s' live 0 r'=some r2→cuO U.length s'=some s2→
    ∃M2 D2,a2.defers=a.defers∧Ext X M Z w M2 Z w2∧Kp Z w U Z w2 s2∧St M2 Z X D2 w2 a2.tmps.toList r2 s2:=by
   intro a1 a2 w1 w2 M1 s s' r' r2 s2 live hd hx hk hgot hcs hco
   obtain ⟨hd2,M2,Z2,D2,hx2,hk2,hs2⟩:=hgot
   obtain ⟨c1,c2,c3,c4,c5⟩:=hs2.cut (n:=U.length) (Z0:=Z) (fun o ho=>((hk2.dom o (Xbw ho hk.len))).symm) (fun o ho=>h.wd.none_of_ge ho) hcs hco
   have hkk:=hk.trans (PlcLe.refl Z) hk2
   have hxx:=hx.trans hx2
   refine ⟨_,D2,hd2.trans hd,⟨hxx.m.trans c1,PlcLe.refl Z,fun b i hb=>(c2 b i hb).trans (hxx.mX b i hb),hxx.size,hxx.keep,hxx.os,hxx.tape,hxx.output⟩,⟨?_,fun _ _=>rfl,fun o b i hi hl => ?_⟩,c3⟩
   ·have:=hkk.len;omega
   ·exact hkk.lk o b i hi (c4 o i hl)
  refine Qxh (I:=fun k a' w'=>∃M' D' r s,a'.defers=a.defers∧Ext X M Z w M' Z w'∧Kp Z w U Z w' s∧St M' Z X D' w' a'.tmps.toList r s∧Qj4 lin lout U.length (evCd G call fuel x) k r s=some (out,J',U')) (fun k a1 w1 hI => ?_) (fun a1 w1 hI => ?_) (k:=fuel) ⟨M,D,J1,U,rfl,Ext.refl ..,Kp.refl ..,h.cutS (Xai _) h1,h2⟩
  ·obtain ⟨M1,D1,r,s,hd,hx,hk,hs,hl⟩:=hI
   simp only [Qj4] at hl
   split at hl
   ·cases hl
   ·rename_i r' s' hrd
    simp only [Xaa,Xab] at hl
    obtain ⟨r2,hr2,s2,hs2,hl⟩:=hl
    refine ih _ hc _ M1 Z D1 w1 a1 r s .norm r' s' hs (hG.mono hx.m hx.i) hrd fun a2 w2 hgot => ?_
    obtain ⟨M2,D2,q1,q2,q3,q4⟩:=back hd hx hk hgot hr2 hs2
    exact ⟨M2,D2,r2,s2,q1,q2,q3,q4,hl⟩
   ·rename_i e r' s' hne hrd
    simp only [Xaa,Xab,Xah,Prod.mk.injEq] at hl
    obtain ⟨r2,hr2,s2,hs2,rfl,rfl,rfl⟩:=hl
    refine ih _ hc _ M1 Z D1 w1 a1 r s e r' s' hs (hG.mono hx.m hx.i) hrd fun a2 w2 hgot => ?_
    obtain ⟨M2,D2,q1,q2,q3,q4⟩:=back hd hx hk hgot hr2 hs2
    have:=hQ a2 w2 ⟨q1,M2,Z,D2,q2,q3,q4⟩
    cases e with
    |norm=>exact (hne rfl).elim
    |ex id=>exact this
    |ret=>exact this
  ·obtain ⟨_,_,_,_,_,_,_,_,hl⟩:=hI
   simp only [Qj4] at hl
   cases hl
end
def Qfy (P:Program):List ResultVar→List Res→Bool
 |[],[]=>true
 | .tmp t::rs,.tmp t'::qs=>t == t'&&Qfy P rs qs
 | .cell t ty::rs,.cell t' ag sz::qs=>t == t'&&Qet P ty ag sz&&Qfy P rs qs
 |_,_=>false
def Qsv (P:Program) (fn:Func) (F:Fn):Bool:=
 match fn.body with
 |some c=>fn.ntmps == F.nt&&Qfy P fn.results.toList F.res && !F.esc&&Qi3 P c F.body&&fn.name != "runtime.NumGoroutine"
 |none=>false
def Qao (P:Program) (f:FuncId) (F:Fn):Bool:=
 match P.funcs[f]? with
 |some fn=>Qsv P fn F
 |none=>false
theorem Qac {P:Program} {f:FuncId} {F:Fn} {fn:Func} (hf:P.funcs[f]? = some fn) (h:Qsv P fn F=true):Qao P f F=true:=by
 unfold Qao
 rw [hf]
 exact h
section
variable {P:Program} {M:Mem} {Z:Plc} {X:Nat→Prop} {D:Own} {w:World} {us:List Value} {J:List V} {U:Objs} {G:GV} {call:FuncId→List V→Objs→Option (V×Objs)}
theorem St.result (h:St M Z X D w us J U) {t:Nat} {v:Value} {x:V} (hv:us[t]? = some v) (hx:J[t]? = some x):∃D',St M Z X D' w [v] [x] U:=by
 refine ⟨fun b=>match D b with|some (.s i)=>if i=t then some (.s 0) else none|q=>q,⟨h.wd.mem,h.wd.obj,h.wd.olt,h.wd.inj,h.wd.xlt,h.wd.xobj,fun b p hp => ?_⟩,Reps.cons (h.rep.2 t v x hv hx) Reps.nil,fun p u y b ha hb => ?_,fun p u y ha => ?_⟩
 ·cases hk:D b with
  |none=>simp [hk] at hp
  |some q=>exact h.wd.kap b q hk
 ·cases p with
  |c o i=>
   have hk:=h.own (.c o i) u y b ha hb
   simp [hk]
  |s i=>
   obtain ⟨h1,h2⟩:=ha
   cases i with
   |succ i=>simp at h1
   |zero=>
    simp at h1 h2
    subst h1 h2
    have hk:=h.own (.s t) v x b ⟨hv,hx⟩ hb
    simp [hk]
 ·cases p with
  |c o i=>exact h.gr (.c o i) u y ha
  |s i=>
   obtain ⟨h1,h2⟩:=ha
   cases i with
   |succ i=>simp at h1
   |zero=>
    simp at h1 h2
    subst h1 h2
    exact h.gr (.s t) v x ⟨hv,hx⟩
theorem St.only (h:St M Z X D w us J U) {v:Value} {x:V} (hr:Rep M Z v x) (hn:x.ng=x):∃D',St M Z X D' w [v] [x] U:=
 ⟨_,(h.callee (Reps.cons hr Reps.nil) (by simpa using hn)).lessX fun _ hb=>.inl hb⟩
def Qk5 (tmps:Array Value):ResultVar→Sem Value
 | .tmp t=>pure (tmps.getD t Go.undef)
 | .cell a t=>do loadVar t (←asAddr (tmps.getD a Go.undef))
theorem Qu8 (fn:Func) (tmps:Array Value):Go.results fn tmps=(do
  let vs ←fn.results.mapM (Qk5 tmps)
  pure (if h:vs.size=1 then vs[0] else .tuple vs)):=by
 unfold Go.results
 congr 1
theorem Qxi {ag:Bool} {sz off:Nat} {cs:List V} {x:V} (h:part ag sz cs off=some x):x.ng=x:=by
 unfold part at h
 split at h
 ·split at h
  ·cases h;rfl
  ·cases h
 ·split at h
  ·rw [Xam] at h
   obtain ⟨y,_,rfl⟩:=h
   exact V.nogr_nogr y
  ·cases h
theorem Qmi {tmps:Array Value} (h:St M Z X D w tmps.toList J U) {r:ResultVar} {q:Res} (hc:Qfy P [r] [q]=true) {x:V} (hx:resV J U q=some x):
  ∃v,(Qk5 tmps r).run P w = .ok v w∧Rep M Z v x∧((∃t,v=tmps.getD t Go.undef∧x=J.getD t .undef)∨x.ng=x):=by
 cases r with
 |tmp t=>
  cases q with
  |cell t' ag sz=>cases hc
  |tmp t'=>
   simp only [Qfy,Xau,beq_iff_eq] at hc
   subst hc
   simp only [resV,Xah] at hx
   subst hx
   have:=Qh4 h.rep t
   rw [Xav] at this
   refine ⟨tmps.getD t Go.undef,rfl,by simpa [Xbs] using this,.inl ⟨t,rfl,rfl⟩⟩
 |cell t ty=>
  cases q with
  |tmp t'=>cases hc
  |cell t' ag sz=>
   simp only [Qfy,Xau,Xac,beq_iff_eq] at hc
   obtain ⟨rfl,ht⟩:=hc
   simp only [resV] at hx
   have hr:=Qh4 h.rep t
   rw [Xav] at hr
   have hr:Rep M Z (tmps.getD t Go.undef) (J.getD t .undef):=by simpa [Xbs] using hr
   split at hx
   ·rename_i o off hp
    rw [hp] at hr
    obtain ⟨b,hb,hi⟩:=hr.inv_ptr
    simp only [Xaa,Xab] at hx
    obtain ⟨cs,hcs,hpp⟩:=hx
    obtain ⟨us,hru,hcc⟩:=h.wd.objCells hi hcs
    obtain ⟨u,hrun,hu⟩:=Qhm (P:=P) ht hru hcc hpp
    refine ⟨u,?_,hu,.inr (Qxi hpp)⟩
    rw [Xb1] at hrun
    simp only [Qk5,hb,Qad]
    rw [show (asAddr (.pointer (some ⟨b,off,none⟩))).run P w = .ok ⟨b,off,none⟩ w from rfl]
    exact hrun
   ·cases hx
theorem Qhu {tmps:Array Value} (h:St M Z X D w tmps.toList J U):∀ {rs:List ResultVar} {qs:List Res},Qfy P rs qs=true→∀ {xs:List V},qs.mapM (resV J U)=some xs→∃vs,(rs.mapM (Qk5 tmps)).run P w = .ok vs w∧Reps M Z vs xs
 |[],[],_,xs,hx=>by
  simp at hx
  subst hx
  exact ⟨[],by simp [Qap],Reps.nil⟩
 |r::rs,q::qs,hc,xs,hx=>by
  have hc2:Qfy P [r] [q]=true∧Qfy P rs qs=true:=by
   cases r <;> cases q <;> simp_all [Qfy]
  simp only [Xbo,Xaa,Xab] at hx
  obtain ⟨x,hx1,ys,hys,he⟩:=hx
  cases he
  obtain ⟨v,hv,hr,_⟩:=Qmi h hc2.1 hx1
  obtain ⟨vs,hvs,hrs⟩:=Qhu h hc2.2 hys
  refine ⟨v::vs,?_,Reps.cons hr hrs⟩
  simp only [Xbo,Qad,hv,Result.andThen,hvs,Qap]
 |[],_::_,hc,_,_=>by cases hc
 |r::_,[],hc,_,_=>by cases r <;> cases hc
theorem Wi3 {fn:Func} {tmps:Array Value} (h:St M Z X D w tmps.toList J U) {qs:List Res} (hc:Qfy P fn.results.toList qs=true) {keep:Bool} {r:V} (hr:results keep J U qs=some r):
  ∃v D',(Go.results fn tmps).run P w = .ok v w∧St M Z X D' w [v] [r] U:=by
 have hrun:∀vs,(fn.results.toList.mapM (Qk5 tmps)).run P w = .ok vs w→(Go.results fn tmps).run P w = .ok (if h:vs.length=1 then vs[0] else .tuple vs.toArray) w:=by
  intro vs hvs
  rw [Qu8,Array.mapM_eq_mapM_toList,Qad]
  rw [show (List.toArray <$> fn.results.toList.mapM (Qk5 tmps))=(fn.results.toList.mapM (Qk5 tmps)) >>= fun a=>pure a.toArray from (bind_pure_comp _ _).symm]
  rw [Qad,hvs]
  simp [Result.andThen,Qap]
 match qs,hr with
 |[q],hr=>
  simp only [results,Xaa,Xab] at hr
  obtain ⟨x,hx,hr⟩:=hr
  split at hr
  ·cases hr
   match hrs:fn.results.toList,hc with
   |[rv],hc=>
    obtain ⟨v,hv,hrep,hcase⟩:=Qmi h hc hx
    have h1:=hrun [v] (by
     rw [hrs]
     simp only [Xbo,Xd6,Qad,hv,Result.andThen,Qap])
    simp only [List.length_singleton,dite_true,List.getElem_cons_zero] at h1
    cases keep with
    |false=>
     obtain ⟨D',hs⟩:=h.only (x:=x.ng) hrep.ng (V.nogr_nogr x)
     exact ⟨v,D',h1,hs⟩
    |true=>
     simp only [Qol,if_true]
     rcases hcase with ⟨t,rfl,rfl⟩|hn
     ·rcases Xby t J.length with hlt|hge
      ·have hlt':t<tmps.size:=by have:=h.rep.1;simp at this;omega
       obtain ⟨D',hs⟩:=h.result (t:=t) (Xae (by simpa using hlt')) (Xae hlt)
       refine ⟨_,D',h1,?_⟩
       simpa [Array.getD,hlt',List.getD,Xae hlt] using hs
      ·have e:J.getD t .undef = .undef:=by simp [List.getD,Xa3 hge]
       rw [e] at hrep ⊢
       obtain ⟨D',hs⟩:=h.only hrep rfl
       exact ⟨_,D',h1,hs⟩
     ·obtain ⟨D',hs⟩:=h.only hrep hn
      exact ⟨v,D',h1,hs⟩
   |[],hc=>cases hc
   |rv::_::_,hc=>cases rv <;> cases q <;> simp [Qfy] at hc
  ·cases hr
 |[],hr=>
  have hr2:(some (V.tup []):Option V)=some r:=hr
  cases hr2
  obtain ⟨vs,hvs,hrs⟩:=Qhu (P:=P) h hc (xs:=[]) (by rfl)
  have:vs=[]:=Xap.1 (by simpa using hrs.1)
  subst this
  obtain ⟨D',hs⟩:=h.only (x:=.tup []) (v:=.tuple #[]) (.tup #[] [] rfl (fun i v c hv=>by simp at hv)) rfl
  exact ⟨_,D',hrun [] hvs,by simpa using hs⟩
 |q1::q2::qs,hr=>
  simp only [results,Xaa,Xab] at hr
  obtain ⟨xs,hxs,he⟩:=hr
  cases he
  obtain ⟨vs,hvs,hrs⟩:=Qhu (P:=P) h hc hxs
  have hlen:xs.length=(q1::q2::qs).length:=(Qdl hxs).1
  have hne:¬vs.length=1:=by rw [hrs.1,hlen];simp
  have h1:=hrun vs hvs
  rw [dif_neg hne] at h1
  have hrn:=hrs.ng
  obtain ⟨D',hs⟩:=h.only (x:=.tup (xs.map V.ng)) (v:=.tuple vs.toArray) (.tup _ _ (by simpa using hrn.1) (fun i v c hv hcc=>hrn.2 i v c (by simpa using hv) hcc)) rfl
  exact ⟨_,D',h1,hs⟩
theorem St.enter {vs:List Value} {xs:List V} (h:St M Z X D w vs xs U) (n:Nat):St M Z X D w (vs++List.replicate n Go.undef) (xs++List.replicate n .undef) U:=by
 have key:∀p v x,At Z w (vs++List.replicate n Go.undef) (xs++List.replicate n .undef) U p v x→At Z w vs xs U p v x∨x = .undef:=by
  intro p v x ha
  cases p with
  |c o i=>exact .inl ha
  |s i=>
   obtain ⟨h1,h2⟩:=ha
   rw [Xds] at h1 h2
   rw [←h.rep.1] at h2
   split at h1
   ·rename_i hi;rw [if_pos hi] at h2;exact .inl ⟨h1,h2⟩
   ·rename_i hi
    rw [if_neg hi,List.getElem?_replicate] at h2
    split at h2
    ·cases h2;exact .inr rfl
    ·cases h2
 refine ⟨h.wd,h.rep.append ⟨by simp,fun i u c hu hc => ?_⟩,fun p v x b ha hb => ?_,fun p v x ha => ?_⟩
 ·rw [List.getElem?_replicate] at hu hc
  split at hu
  ·rename_i hi;rw [if_pos hi] at hc;cases hu;cases hc;exact .undef
  ·cases hu
 ·rcases key p v x ha with ha|rfl
  ·exact h.own p v x b ha hb
  ·unfold ownB at hb;split at hb <;> simp_all
 ·rcases key p v x ha with ha|rfl
  ·exact h.gr p v x ha
  ·exact ⟨fun xs s e=>by cases e⟩
theorem Qdz {f:FuncId} {fn:Func} {c:Code} (hf:P.funcs[f]? = some fn) (hb:fn.body=some c) (hn:(fn.name == "runtime.NumGoroutine")=false) (vs:Array Value):(callFunc f vs).run P w = .ok (.enter f vs) w:=by
 unfold callFunc
 rw [Qad]
 rw [show (Go.program).run P w = .ok P w from rfl]
 simp only [Result.andThen,hf,hn,hb]
 simp [Qap]
theorem Qu9 (hm:P.follows .mixedOrders=true) (hS:∀f,Sound P G f (call f)) {f:FuncId} {F:Fn} (hc:Qao P f F=true) (fuel:Nat):Sound P G f (evFn G call F fuel):=by
 intro args U r U' he M Z X D w vs h hG _
 unfold Qao at hc
 split at hc
 ·rename_i fn hf
  unfold Qsv at hc
  split at hc
  ·rename_i c hb
   simp only [Xac,beq_iff_eq,Xcl,bne_iff_ne,ne_eq] at hc
   obtain ⟨⟨⟨⟨hnt,hres⟩,hesc⟩,hcd⟩,hname⟩:=hc
   refine .inl ⟨Qdz hf hb (by simpa using hname) vs,?_⟩
   refine calls_of_wp hf hb ?_
   have hlen:vs.size=args.length:=by simpa using h.rep.1
   have hent:=h.enter (F.nt - args.length)
   unfold evFn at he
   simp only [hesc,Xaa,Xab] at he
   obtain ⟨⟨out,J',U1⟩,hrun,he⟩:=he
   have hst:St M Z X D w ({ tmps:=vs++Array.replicate (fn.ntmps - vs.size) Go.undef,defers:=[] } : Act).tmps.toList (args++List.replicate (F.nt - args.length) .undef) U:=by
    simpa [hnt,hlen] using hent
   have hout:(out = .norm∨out = .ret)∧∃r0,results F.keep J' U1 F.res=some r0∧∃U2,cuO U.length U1=some U2∧∃r1,fz U.length U1 fzD r0=some r1∧r=r1∧U'=U2:=by
    cases out with
    |ex id=>simp at he
    |norm=>
     simp only [Xab] at he
     obtain ⟨r0,h0,U2,h2,h3⟩:=he
     simp at h3
     obtain ⟨r1,h4,h5,h6⟩:=h3
     exact ⟨.inl rfl,r0,h0,U2,h2,r1,h4,h5.symm,h6.symm⟩
    |ret=>
     simp only [Xab] at he
     obtain ⟨r0,h0,U2,h2,h3⟩:=he
     simp at h3
     obtain ⟨r1,h4,h5,h6⟩:=h3
     exact ⟨.inr rfl,r0,h0,U2,h2,r1,h4,h5.symm,h6.symm⟩
   obtain ⟨ho,r0,h0,U2,h2,r1,h1,rfl,rfl⟩:=hout
   refine Wmv hm hS F.body c hcd _ M Z D w _ _ U out J' U1 hst hG hrun fun a' w' hgot => ?_
   obtain ⟨hd,M1,Z1,D1,hx,hk,hs⟩:=hgot
   obtain ⟨v,D2,hv,hs2⟩:=Wi3 (P:=P) (fn:=fn) hs hres h0
   have hcs:Qaz U.length U1 [0] 0 [r0]=some [r]:=by
    simp [Qaz,h1]
   obtain ⟨c1,c2,c3,c4,c5⟩:=hs2.cut (n:=U.length) (Z0:=Z) (fun o ho=>(hk.dom o ho).symm) (fun o ho=>h.wd.none_of_ge ho) hcs h2
   have hfin:bodyPost P fn (fun e w'=>∃v,e = .returned v∧∃M' Z' D',(Ext X M Z w M' Z' w'∧Kp Z w U Z' w' U')∧St M' Z' X D' w' [v] [r] U') .ret a' w':=by
    refine ⟨hd,v,hv,v,rfl,_,Z,D2,⟨⟨hx.m.trans c1,PlcLe.refl Z,fun b i hb=>(c2 b i hb).trans (hx.mX b i hb),hx.size,hx.keep,hx.os,hx.tape,hx.output⟩,⟨?_,fun _ _=>rfl,fun o b i hi hl=>hk.lk o b i hi (c4 o i hl)⟩⟩,c3⟩
    have:=hk.len;omega
   rcases ho with rfl|rfl
   ·exact hfin
   ·exact hfin
  ·cases hc
 ·cases hc
theorem Qsw (hm:P.follows .mixedOrders=true) (C:Ctx) (hP:∀f h,C.prim f=some h→Sound P C.G f h) (hF:∀f F,C.code f=some F→Qao P f F=true):∀(n:Nat) (f:FuncId),Sound P C.G f (ev C n f)
 |0,f=>fun args U r U' he=>by simp [ev] at he
 |n+1,f=>fun args U r U' he=>by
  simp only [ev] at he
  split at he
  ·rename_i h hp
   exact hP f h hp args U r U' he
  ·split at he
   ·rename_i F hF'
    exact Qu9 hm (Qsw hm C hP hF n) (hF f F hF') n args U r U' he
   ·cases he
end
def fin (keep:Bool) (res:List Res) (U:Objs):Ran→Option (V×Objs)
 |some (.ret,J,U')|some (.norm,J,U')=>(Ev.results keep J U' res).bind fun r=>(cuO U.length U').bind fun U''=>(fz U.length U' fzD r).bind fun r'=>some (r',U'')
 |_=>none
theorem Qar {n d:Nat} {U:Objs} {x:V} (h:V.rb n x=true):fz n U d x=some x:=by cases d <;> simp [fz,h]
theorem Wi4 {n d:Nat} {U:Objs} {k:IntKind} {a:Int} : fz n U d (.int k a)=some (.int k a):=by cases d <;> rfl
theorem Wfz {n d:Nat} {U:Objs} {b:Bool} : fz n U d (.bool b)=some (.bool b):=by cases d <;> rfl
theorem Wi5 {n d:Nat} {U:Objs} {s:List UInt8} : fz n U d (.str s)=some (.str s):=by cases d <;> rfl
theorem Wf0 {n d:Nat} {U:Objs}  : fz n U d (.nilp)=some (.nilp):=by cases d <;> rfl
theorem Wf1 {n d:Nat} {U:Objs}  : fz n U d (.nils)=some (.nils):=by cases d <;> rfl
theorem Wf2 {n d:Nat} {U:Objs}  : fz n U d (.nili)=some (.nili):=by cases d <;> rfl
theorem Wf3 {n d:Nat} {U:Objs}  : fz n U d (.nilf)=some (.nilf):=by cases d <;> rfl
theorem Wbx {n d:Nat} {U:Objs}  : fz n U d (.undef)=some (.undef):=by cases d <;> rfl
theorem Wi6 {n d:Nat} {U:Objs}  : fz n U d (.any)=some (.any):=by cases d <;> rfl
section
variable {G:GV} {call:FuncId→List V→Objs→Option (V×Objs)} {fuel:Nat} {x:V} {J:List V} {U:Objs}
theorem Qo6 {n:Nat} {live:List Nat} {i:Nat} {xs:List V} : Qaz n U live i (x::xs)=(if live.contains i then fz n U fzD x else some .any).bind fun y=>(Qaz n U live (i+1) xs).bind fun ys=>some (y::ys):=by
 simp only [Qaz];split <;> rfl
theorem Qie {n:Nat} : ∀ {s:List UInt8},V.rbs n (Qae s)=true
 |[]=>rfl
 |b::s=>by
  show (V.rb n (.int .u8 b.toNat)&&V.rbs n (Qae s))=true
  rw [Qie];rfl
theorem Wby {n d:Nat} {s:List UInt8} {c:Cap} : fz n U d (.sl (Qae s) c)=some (.sl (Qae s) c):=Qar Qie
theorem get0 {cs:List V} : Objs.get (O.cells cs::U) 0=some cs:=rfl
theorem Ql2 {k:IntKind} {n:Int} : (V.int k n).ng = .int k n:=rfl
theorem Qo7 {b:Bool} : (V.bool b).ng = .bool b:=rfl
theorem Qva {s:List UInt8} : (V.str s).ng = .str s:=rfl
theorem Wf4:V.undef.ng = .undef:=rfl
theorem Wmw:V.any.ng = .any:=rfl
theorem Wi7:V.nilp.ng = .nilp:=rfl
theorem Wmx {o i:Nat} : (V.ptr o i).ng = .ptr o i:=rfl
theorem Wi8 {cs:List V} {i:Nat} : (V.eptr cs i).ng = .eptr cs i:=rfl
theorem Wi9:V.nils.ng = .nils:=rfl
theorem n_sl {xs:List V} {c:Cap} : (V.sl xs c).ng = .sl xs .no:=rfl
theorem n_hs {a b c d:Nat} {e:Bool} : (V.hs a b c d e).ng = .hs a b c d e:=rfl
theorem Wmy {cs:List V} : (V.agg cs).ng = .agg cs:=rfl
theorem Wmz {cs:List V} : (V.tup cs).ng = .tup cs:=rfl
theorem Wm0 {t:TypeId} {x:V} : (V.ifc t x).ng = .ifc t x:=rfl
theorem Wja:V.nili.ng = .nili:=rfl
theorem n_fn {f:FuncId} {a b:List V} : (V.fn f a b).ng = .fn f a b:=rfl
end
def Wjb (P:Program):List (Nat×Ev.Fn)→Prop
 |[]=>True
 |p::r=>Qao P p.1 p.2=true∧Wjb P r
def Qo8 (l:List (Nat×Ev.Fn)) (f:Nat):Option Ev.Fn:=
 match l with
 |[]=>none
 |p::r=>if p.1 == f then some p.2 else Qo8 r f
theorem Qsx {P:Program} : ∀ {l:List (Nat×Ev.Fn)},Wjb P l→∀f F,Qo8 l f=some F→Qao P f F=true
 |[],_,f,F,h=>by cases h
 |p::r,ha,f,F,h=>by
  unfold Qo8 at h
  split at h
  ·rename_i hp
   cases h
   have:p.1=f:=by simpa using hp
   rw [←this]
   exact ha.1
  ·exact Qsx ha.2 f F h
def memOf (W:World):Mem:=fun b i=>W.cell? ⟨b,i,none⟩
def noPlc:Plc:=fun _=>none
theorem St.start (W:World) {us:List Value} {xs:List V} (hr:Reps (memOf W) noPlc us xs) (hn:∀x∈xs,x.ng=x):St (memOf W) noPlc (fun b=>b<W.heap.size) (fun _=>none) W us xs []:=by
 refine ⟨⟨fun b i u h=>h,fun o b h=>(by cases h),fun o b h=>(by cases h),fun o o' b h=>(by cases h),fun b h=>h,fun o b h=>(by cases h),fun b p h=>(by cases h)⟩,hr,fun p v x b ha hb => ?_,fun p v x ha => ?_⟩
 ·cases p with
  |c o i=>obtain ⟨_,_,_,_,_,h,_⟩:=ha;cases h
  |s i=>
   rw [←hn x (Xat ha.2),Qbh] at hb;cases hb
 ·cases p with
  |c o i=>obtain ⟨_,_,_,_,_,h,_⟩:=ha;cases h
  |s i=>exact .of_none (by rw [←hn x (Xat ha.2)];exact Qbh _ _)
theorem calls_of_ev {P:Program} (hm:P.follows .mixedOrders=true) (C:Ctx) (hP:∀f h,C.prim f=some h→Sound P C.G f h) (hF:∀f F,C.code f=some F→Qao P f F=true) {n:Nat} {f:FuncId} {F:Ev.Fn} (hc:C.code f=some F) {vs:Array Value} {args:List V} {b:Bool}
  (W:World) (hr:Reps (memOf W) noPlc vs.toList args) (hn:∀x∈args,x.ng=x) (hG:GOK C.G (memOf W) noPlc) (he:ev C n f args []=some (.bool b,[])):
  Calls P f vs W (fun e w'=>e = .returned (.bool b)∧RowKit.Below W.heap.size W w'):=by
 have hs:=Qsw hm C hP hF n f args [] (.bool b) [] he (memOf W) noPlc _ _ W vs (St.start W hr hn) hG hn
 have fin:∀v w',(∃M' Z' D',(Ext (fun b=>b<W.heap.size) (memOf W) noPlc W M' Z' w'∧Kp noPlc W [] Z' w' [])∧St M' Z' (fun b=>b<W.heap.size) D' w' [v] [V.bool b] [])→v = .bool b∧RowKit.Below W.heap.size W w':=by
  intro v w' ⟨M',Z',D',⟨hx,_⟩,hst⟩
  exact ⟨(hst.rep.2 0 _ _ rfl rfl).inv_bool,⟨hx.os,hx.tape,hx.output,hx.size,fun k hk=>hx.keep k hk⟩⟩
 rcases hs with ⟨_,h2⟩|⟨v,w',h1,_⟩
 ·refine h2.mono fun e w' ⟨v,he,hR⟩ => ?_
  obtain ⟨rfl,hb⟩:=fin v w' hR
  exact ⟨he,hb⟩
 ·have hc':=hF f F hc
  unfold Qao at hc'
  split at hc'
  ·rename_i fn hf
   unfold Qsv at hc'
   split at hc'
   ·rename_i c hb
    simp only [Xac,bne_iff_ne,ne_eq] at hc'
    rw [Qdz hf hb (by simpa using hc'.2) vs] at h1
    cases h1
   ·cases hc'
  ·cases hc'
section
variable {P:Program} {M:Mem} {Z:Plc} {X:Nat→Prop} {D:Own} {w w':World} {us:List Value} {J:List V} {U:Objs} {G:GV}
theorem Below.at (hb:RowKit.Below w.heap.size w w') {b:Nat} (hlt:b<w.heap.size):w'.heap[b]? = w.heap[b]? := hb.block b hlt
theorem St.below (h:St M Z X D w us J U) (hb:RowKit.Below w.heap.size w w'):St M Z X D w' us J U:=by
 have hat:∀p v x,At Z w' us J U p v x→At Z w us J U p v x:=by
  intro p v x ha
  cases p with
  |s i=>exact ha
  |c o i=>
   obtain ⟨b,ws,T,fz,cs,g1,g2,g3⟩:=ha
   rw [hb.block b (h.wd.olt o b g1)] at g2
   exact ⟨b,ws,T,fz,cs,g1,g2,g3⟩
 refine ⟨⟨fun b i u hm => ?_,fun o b hi => ?_,fun o b hi=>Xbw (h.wd.olt o b hi) hb.size,h.wd.inj,fun b hx=>Xbw (h.wd.xlt b hx) hb.size,h.wd.xobj,fun b p hp=>⟨(h.wd.kap b p hp).1,(h.wd.kap b p hp).2.1,Xbw (h.wd.kap b p hp).2.2 hb.size⟩⟩,h.rep,fun p v x b ha ho=>h.own p v x b (hat p v x ha) ho,fun p v x ha => ?_⟩
 ·rw [←h.wd.mem b i u hm]
  unfold World.cell?
  rw [hb.block b (h.wd.lt hm)]
 ·obtain ⟨O,hO,hor⟩:=h.wd.obj o b hi
  refine ⟨O,hO,?_⟩
  have e:=hb.block b (h.wd.olt o b hi)
  cases O with
  |cells cs=>
   obtain ⟨ws,T,fz,h1,h2⟩:=hor
   exact ⟨ws,T,fz,by rw [e];exact h1,h2⟩
  |mp es=>
   obtain ⟨en,k,h1,h2⟩:=hor
   exact ⟨en,k,by rw [e];exact h1,h2⟩
 ·have ha':=hat p v x ha
  refine ⟨fun xs sz hx a len cap hv => ?_⟩
  have hob:ownB v x=some a.block:=by rw [hx,hv];rfl
  have hlt:=(h.wd.kap _ _ (h.own p v x _ ha' hob)).2.2
  obtain ⟨g1,g2,ws,T,fz,g3,g4⟩:=(h.gr p v x ha').ok xs sz hx a len cap hv
  exact ⟨g1,g2,ws,T,fz,by rw [hb.block _ hlt];exact g3,g4⟩
theorem Ext.below (hx:∀b,X b→b<w.heap.size) (hb:RowKit.Below w.heap.size w w'):Ext X M Z w M Z w':=
 ⟨.refl _,.refl _,fun _ _ _=>rfl,hb.size,fun b h=>hb.block b (hx b h),hb.os,hb.tape,hb.output⟩
theorem Sound.of_below {f:FuncId} {h:List V→Objs→Option (V×Objs)}
  (Hww:∀args U r U',h args U=some (r,U')→U'=U∧r.ng=r∧∀M Z X D w (vs:Array Value),St M Z X D w vs.toList args U→GOK G M Z→
   (callFunc f vs).run P w = .ok (.enter f vs) w∧∃v,Rep M Z v r∧Calls P f vs w (fun e w'=>e = .returned v∧RowKit.Below w.heap.size w w')):Sound P G f h:=by
 intro args U r U' he M Z X D w vs hst hG _
 obtain ⟨rfl,hn,Hww⟩:=Hww args U r U' he
 obtain ⟨hrun,v,hv,hc⟩:=Hww M Z X D w vs hst hG
 refine .inl ⟨hrun,hc.mono fun e w' ⟨he,hb⟩=>⟨v,he,M,Z,?_⟩⟩
 obtain ⟨D',hs⟩:=(hst.below hb).only hv hn
 exact ⟨D',⟨Ext.below hst.wd.xlt hb,Kp.same _ _ fun o b hi=>hb.block b (hst.wd.olt o b hi)⟩,hs⟩
end
abbrev Ro:=Option (V×Objs)
structure Kt where
 nm:List V→Objs→Ro
 ex:Nat→List V→Objs→Ro
 rt:List V→Objs→Ro
structure Mach where
 G:GV
 call:FuncId→List V→Objs→Ro
 fx:((List V→Objs→Ro)→List V→Objs→Ro)→List V→Objs→Ro
def kc (K:Kt):Ran→Ro
 |some (.norm,J,U)=>K.nm J U
 |some (.ex i,J,U)=>K.ex i J U
 |some (.ret,J,U)=>K.rt J U
 |none=>none
def bd {α:Type} (x:Option α) (f:α→Ro):Ro:=
 match x with
 |some a=>f a
 |none=>none
def br (c:V) (a b:Ro):Ro:=
 match c with
 | .bool true=>a
 | .bool false=>b
 |_=>none
def gd (g:V) (t:Bool) (y n:Ro):Ro:=
 match g with
 | .bool b=>if b == t then y else n
 | .undef=>n
 |_=>none
theorem Qcq {α:Type} {a:α} {f:α→Ro} : bd (some a) f=f a:=rfl
theorem Wf5 {α:Type} {f:α→Ro} : bd none f=none:=rfl
theorem Qgc {α β:Type} {x:Option α} {g:α→Option β} {f:β→Ro} : bd (x.bind g) f=bd x fun a=>bd (g a) f:=by cases x <;> rfl
theorem Wjc {α β:Type} {x:Option α} {g:α→β} {f:β→Ro} : bd (x.map g) f=bd x fun a=>f (g a):=by cases x <;> rfl
theorem Wbz {α:Type} {x y:Option α} (h:x=y) (f:α→Ro):bd x f=bd y f:=by rw [h]
theorem Wb0 {c d:V} (h:c=d) (a b:Ro):br c a b=br d a b:=by rw [h]
theorem Wb1 {c d:V} (h:c=d) (t:Bool) (a b:Ro):gd c t a b=gd d t a b:=by rw [h]
theorem Wf6 {t:Bool} {a b:Ro} : br (.bool t) a b=if t=true then a else b:=by cases t <;> rfl
theorem br_t {a b:Ro} : br (.bool true) a b=a:=rfl
theorem br_f {a b:Ro} : br (.bool false) a b=b:=rfl
section
variable (M:Mach)
def boxV (U:Objs) (x:V):Ro:=if Qan x.cells then some (.ptr U.length 0,U++[.cells (x.cells.map V.ng)]) else none
def Qxj (ag:Bool) (sz len:Nat) (z:V) (parts:List (Nat×V)) (U:Objs):Ro:=do
 let xs ←Qdr sz (List.replicate len z) parts
 if Qdj ag sz xs then some (.hs U.length 0 len sz ag,U++[.cells ((xs.flatMap V.cells).map V.ng)]) else none
def Qam (ag:Bool) (sz len:Nat) (z:V) (parts:List (Nat×V)):Option V:=do
 let xs ←Qdr sz (List.replicate len z) parts
 if Qdj ag sz xs then some (.sl xs .fx) else none
def Qxk (ag:Bool) (sz len:Nat) (z:V) (parts:List (Nat×V)):Option V:=do
 let xs ←Qdr sz (List.replicate len z) parts
 if Qdj ag sz xs then some (.sl xs (.gr sz)) else none
def Wjd:V→Option V
 | .sl xs (.gr _)=>some (.sl xs .no)
 |_=>none
def stV (U:Objs) (sz:Nat) (p v t:V):Ro:=
 match p with
 | .ptr o off=>do
  let cs ←Objs.get U o
  let ds:=v.cells
  if ds.length=sz∧off+sz≤cs.length∧Qan ds then
   match v with
   | .agg _=>some (.undef,U.set o (.cells (Qcp cs off (ds.map V.ng))))
   |_=>if t.isLk then none else some (.undef,U.set o (.cells (cs.set off t)))
  else none
 |_=>none
def Qbt (U:Objs):V→Ro
 | .ptr o off=>do
  let cs ←Objs.get U o
  let v ←cs[off]?
  match v with
  | .sl xs (.gr s)=>some (.sl xs (.gr s),U.set o (.cells (cs.set off (.sl xs .no))))
  | .sl _ .lk=>none
  |v=>some (v,U)
 | .eptr cs off=>do
  let v ←cs[off]?
  some (v.ng,U)
 |_=>none
def appV (str ag:Bool) (sz bytes:Nat) (U:Objs) (x y:V):Option V:=do
 let ys ←Qfj str U y
 Qd1 ag sz bytes x ys
def Wm1 (str ag:Bool) (sz bytes:Nat) (U:Objs) (x y:V):Ro:=do
 let ys ←Qfj str U y
 match ys with
 |[]=>do
  let v ←Qd1 ag sz bytes x []
  some (v.ng,U)
 |_::_=>do
  let v ←Qd1 ag sz bytes x ys
  match v with
  | .sl xs _=>some (.hs U.length 0 xs.length sz ag,U++[.cells ((xs.flatMap V.cells).map V.ng)])
  |_=>none
def Wf7 (U:Objs):V→Ro
 | .str b=>some (.hs U.length 0 b.length 1 false,U++[.cells (Qae b)])
 |_=>none
def mkHV (ag:Bool) (sz bytes:Nat) (z l c:V) (U:Objs):Ro:=do
 let l ←Qf1 l
 let c ←Qf1 c
 if 0≤l∧l≤c∧c * bytes≤Qbj∧z.cells.length=sz∧Qan z.cells∧agOk ag z then
  some (.hs U.length 0 l.toNat sz ag,U++[.cells ((List.replicate c.toNat z).flatMap V.cells)])
 else none
def mkFV (ag:Bool) (sz bytes:Nat) (z l c:V):Option V:=do
 let l ←Qf1 l
 let c ←Qf1 c
 if 0≤l∧l≤c∧c * bytes≤Qbj∧z.cells.length=sz∧Qan z.cells∧agOk ag z then
  some (.sl (List.replicate l.toNat z) (if l=c then .fx else .gr sz))
 else none
def Wm2 (U:Objs) (m k x:V):Ro:=
 match m with
 | .mp o=>
  match U[o]? with
  |some (.mp es)=>do
   let es' ←mput k x es
   some (.undef,U.set o (.mp es'))
  |_=>none
 |_=>none
def Qif (U:Objs) (x:V) (args:List V):Ro:=
 match x with
 | .fn f first caps=>M.call f (((first++args)++caps).map V.ng) U
 |_=>none
def pu (x:Option V):Option V:=x.map V.ng
def Wec (z:List V) (U:Objs):Ro:=match Qan z with|true=>some (.ptr U.length 0,U++[.cells z])|false=>none
def Ql3:Ins→Bool
 | .alloc _ | .box _ | .store .. | .loadT _ | .appH .. | .bytesH _ | .mkmp | .mset .. | .call .. | .callv .. => true
 | .buildSl _ _ _ _ _ h=>h
 | .mkSl _ _ _ _ _ _ h=>h
 |_=>false
def valV (A T:Arg→V) (U:Objs) (i:Ins):Option V:=
 match i with
 | .mv x tk=>match tk with|true=>some (T x)|false=>some (A x)
 | .buildSl ag sz len z parts _=>Qam ag sz len z (parts.map fun (i,x)=>(i,A x))
 | .buildG ag sz len z parts=>Qxk ag sz len z (parts.map fun (i,x)=>(i,A x))
 | .mark x=>Wjd (T x)
 | .app str ag sz bytes x y tk=>match tk with|true=>appV str ag sz bytes U (T x) (A y)|false=>appV str ag sz bytes U (A x) (A y)
 | .mkSl ag sz bytes z l c _=>mkFV ag sz bytes z (A l) (A c)
 | .conv .strBytes x=>eC U .strBytes (A x)
 |i=>pu (Qa8 A U i)
def effV (A T:Arg→V) (U:Objs) (i:Ins):Ro:=
 match i with
 | .alloc z=>Wec z U
 | .box x=>boxV U (A x)
 | .buildSl ag sz len z parts _=>Qxj ag sz len z (parts.map fun (i,x)=>(i,A x)) U
 | .store sz p x tk=>match tk with|true=>stV U sz (A p) (A x) (T x)|false=>stV U sz (A p) (A x) (A x)
 | .loadT x=>Qbt U (A x)
 | .appH str ag sz bytes x y=>Wm1 str ag sz bytes U (A x) (A y)
 | .bytesH x=>Wf7 U (A x)
 | .mkSl ag sz bytes z l c _=>mkHV ag sz bytes z (A l) (A c) U
 | .mkmp=>some (.mp U.length,U++[.mp []])
 | .mset m kk x=>Wm2 U (A m) (A kk) (A x)
 | .call f args=>M.call f (args.map A) U
 | .callv x args=>Qif M U (A x) (args.map A)
 |_=>none
theorem Wf8 {A T:Arg→V} {U:Objs} {i:Ins} (h:Ql3 i=false):Qa5 M.call A T U i=(valV A T U i).map fun v=>(v,U):=by
 have pc:∀x:Option V,(x.bind fun v=>some (v.ng,U))=(pu x).map fun v=>(v,U):=fun x=>by cases x <;> rfl
 have pc2:∀x:Option V,(x.bind fun v=>some (v,U))=x.map fun v=>(v,U):=fun x=>by cases x <;> rfl
 cases i with
 |alloc z=>cases h
 |box x=>cases h
 |store=>cases h
 |loadT=>cases h
 |appH=>cases h
 |bytesH=>cases h
 |mkmp=>cases h
 |mset=>cases h
 |call=>cases h
 |callv=>cases h
 |mv x tk=>cases tk <;> rfl
 |buildSl ag sz len z parts hh=>
  cases hh with
  |true=>cases h
  |false=>
   simp only [valV,Qa5,Qam,Xaj,if_false,Xaa]
   cases Qdr sz (List.replicate len z) (parts.map fun x=>(x.1,A x.2)) with
   |none=>rfl
   |some xs=>
    simp only [Xad]
    split <;> rfl
 |buildG ag sz len z parts=>
  simp only [valV,Qa5,Qxk,Xaa]
  cases Qdr sz (List.replicate len z) (parts.map fun x=>(x.1,A x.2)) with
  |none=>rfl
  |some xs=>
   simp only [Xad]
   split <;> rfl
 |mark x=>
  simp only [valV,Qa5,Wjd]
  generalize T x=v
  cases v with
  |sl xs c=>cases c <;> rfl
  |_=>rfl
 |app str ag sz bytes x y tk=>
  cases tk <;>
  ·simp only [valV,Qa5,appV,Xaa,if_true,Xaj,if_false]
   cases Qfj str U (A y) with
   |none=>rfl
   |some ys=>simp only [Xad];exact pc2 _
 |mkSl ag sz bytes z l c hh=>
  cases hh with
  |true=>cases h
  |false=>
   simp only [valV,Qa5,mkFV,Xaj,if_false,Xaa]
   cases Qf1 (A l) with
   |none=>rfl
   |some l=>
    cases Qf1 (A c) with
    |none=>rfl
    |some c=>
     simp only [Xad]
     split <;> rfl
 |conv c x=>
  cases c with
  |strBytes=>simp only [valV,Qa5,Xaa];exact pc2 _
  |_=>simp only [valV,Qa5,Xaa];exact pc _
 |_=>simp only [valV,Qa5,Xaa];exact pc _
theorem Wf9 {A T:Arg→V} {U:Objs} {i:Ins} (h:Ql3 i=true):Qa5 M.call A T U i=effV M A T U i:=by
 cases i with
 |alloc z=>simp only [effV,Qa5,Wec];cases Qan z <;> rfl
 |box x=>rfl
 |loadT x=>rfl
 |appH=>rfl
 |bytesH=>rfl
 |mkmp=>rfl
 |mset m k x=>rfl
 |call=>rfl
 |callv=>rfl
 |buildSl ag sz len z parts hh=>
  cases hh with
  |true=>simp only [effV,Qa5,Qxj,if_true]
  |false=>cases h
 |mkSl ag sz bytes z l c hh=>
  cases hh with
  |true=>simp only [effV,Qa5,mkHV,if_true]
  |false=>cases h
 |store sz p x tk=>
  cases tk <;>
  ·simp only [effV,Qa5,stV,if_true,Xaj,if_false]
   generalize A p=pv
   cases pv with
   |ptr o off=>
    simp only [Xaa]
    cases Objs.get U o with
    |none=>rfl
    |some cs=>
     simp only [Xad]
     split
     ·generalize A x=xv
      cases xv <;> rfl
     ·rfl
   |_=>rfl
 |_=>cases h
def gdv (g:V) (t:Bool) (x:Option V):Option V:=
 match g with
 | .bool b=>if b == t then x else some .undef
 | .undef=>some .undef
 |_=>none
def gdp (g:V) (t:Bool) (x:Ro) (U:Objs):Ro:=
 match g with
 | .bool b=>if b == t then x else some (.undef,U)
 | .undef=>some (.undef,U)
 |_=>none
def insK (J:List V) (U:Objs) (k:V→Objs→Ro) (i:Ins):Ro:=
 match Ql3 i with
 |false=>bd (valV (arg M.G J) (argT M.G J) U i) fun v=>k v U
 |true=>bd (effV M (arg M.G J) (argT M.G J) U i) fun p=>k p.1 p.2
theorem Wga (J:List V) (U:Objs) (k:V→Objs→Ro) (i:Ins):insK M J U k i=bd (Qa5 M.call (arg M.G J) (argT M.G J) U i) fun p=>k p.1 p.2:=by
 unfold insK
 cases h:Ql3 i with
 |false=>simp only [Wf8 M h,Wjc]
 |true=>simp only [Wf9 M h]
def Ql4 (s:Step) (k:List V→Objs→Ro) (J:List V) (U:Objs):Ro:=
 match s.gd with
 |none=>insK M J U (fun v U'=>k (put (unslot J s.ins.takes.1 s.ins.takes.2) s.dst v) U') s.ins
 |some (g,b)=>
  match s.ins.takes.2 with
  |true=>gd (J.getD g .undef) b (insK M J U (fun v U'=>k (put (unslot J s.ins.takes.1 s.ins.takes.2) s.dst v) U') s.ins) (k (put J s.dst .undef) U)
  |false=>
   match Ql3 s.ins with
   |false=>bd (gdv (J.getD g .undef) b (valV (arg M.G J) (argT M.G J) U s.ins)) fun v=>k (put J s.dst v) U
   |true=>bd (gdp (J.getD g .undef) b (effV M (arg M.G J) (argT M.G J) U s.ins) U) fun p=>k (put J s.dst p.1) p.2
def pk (k:List V→Objs→Ro) (p:List V×Objs):Ro:=k p.1 p.2
theorem Qxl (s:Step) (k:List V→Objs→Ro) (J:List V) (U:Objs):bd (ev1 M.G M.call s J U) (pk k)=insK M J U (fun v U'=>k (put (unslot J s.ins.takes.1 s.ins.takes.2) s.dst v) U') s.ins:=by
 rw [Wga]
 unfold ev1
 simp only [Xaa]
 cases Qa5 M.call (arg M.G J) (argT M.G J) U s.ins <;> rfl
theorem Qsy (s:Step) (k:List V→Objs→Ro) (J:List V) (U:Objs):Ql4 M s k J U=bd (Qb4 M.G M.call s J U) (pk k):=by
 unfold Ql4 Qb4 wanted
 cases hs:s.gd with
 |none=>simp only [Xaa,Xad,if_true];exact (Qxl M s k J U).symm
 |some p=>
  obtain ⟨g,b⟩:=p
  simp only
  generalize J.getD g .undef=gv
  have hu:s.ins.takes.2=false→unslot J s.ins.takes.1 s.ins.takes.2=J:=fun h=>by rw [h];cases s.ins.takes.1 <;> rfl
  cases ht:s.ins.takes.2 with
  |true=>
   rw [ht] at hu
   simp only
   have h1:=Qxl M s k J U
   rw [ht] at h1
   cases gv with
   |bool t=>
    simp only [gd,Xaa,Xad]
    cases t == b
    ·rfl
    ·exact h1.symm
   |_=>rfl
  |false=>
   simp only
   have h1:=Qxl M s k J U
   rw [hu ht] at h1
   unfold insK at h1
   cases he:Ql3 s.ins with
   |false=>
    rw [he] at h1
    simp only
    cases gv with
    |bool t=>
     simp only [gdv,Xaa,Xad]
     cases t == b
     ·rfl
     ·exact h1.symm
    |_=>rfl
   |true=>
    rw [he] at h1
    simp only
    cases gv with
    |bool t=>
     simp only [gdp,Xaa,Xad]
     cases t == b
     ·rfl
     ·exact h1.symm
    |_=>rfl
def Qo9:List V→(List V→Ro)→Ro
 |[],k=>k []
 |x::xs,k=>Qo9 xs fun ys=>k (x::ys)
theorem Qec:∀(l:List V) (k:List V→Ro),Qo9 l k=k l
 |[],k=>rfl
 |x::xs,k=>by unfold Qo9;rw [Qec xs]
def Qhe:List Step→(List V→Objs→Ro)→List V→Objs→Ro
 |[],k,J,U=>k J U
 |s::r,k,J,U=>Ql4 M s (fun J' U'=>Qo9 J' fun J''=>Qhe r k J'' U') J U
theorem Qpa:∀(l:List Step) (k:List V→Objs→Ro) (J:List V) (U:Objs),Qhe M l k J U=bd (Qdb M.G M.call l J U) (pk k)
 |[],k,J,U=>rfl
 |s::r,k,J,U=>by
  simp only [Qhe,Qdb,Qsy,Qec,Xaa,Qgc]
  congr 1
  funext p
  obtain ⟨J',U'⟩:=p
  simp only [pk]
  exact Qpa r k J' U'
def Qgd (seen:List Rd) (U:Objs):Option Objs:=Qg8 U (seen.filterMap Rd.cell)
def Qei (seen:List Rd) (U U1:Objs):Option Objs:=(Qe0 U1 (seen.filterMap Rd.cell)).bind fun U'=>if seen.all (stable U U') then some U' else none
def Qcn (ag:Bool) (sz:Nat) (x:V):Rd:=match x with | .ptr o off=>.same false o off (if ag then sz else 1)|_=>.none
def Qdd (U:Objs) (x:V):Rd:=
 match x with
 | .ptr o off=>
  match (Objs.get U o).bind (·[off]?) with
  |some (.sl _ (.gr _))=>.took o off
  |_=>.same true o off 1
 |_=>.none
def rdOf (A:Arg→V) (U:Objs):Ins→Rd
 | .load ag sz x=>Qcn ag sz (A x)
 | .loadT x=>Qdd U (A x)
 | .alloc _ | .box _=>.made U.length
 |_=>.none
theorem Wgb (A:Arg→V) (U:Objs) (i:Ins):rdOf A U i=reads A U i:=by cases i <;> rfl
def rdG (g:V) (b:Bool) (r:Rd):Rd:=match g with | .bool t=>if t == b then r else .none|_=>.none
theorem Wje (gv:V) (b:Bool) (r:Rd):rdG gv b r=if ((match gv with | .bool t=>some (t == b) | .undef=>some false|_=>none:Option Bool).getD false)=true then r else .none:=by cases gv <;> simp [rdG]
def drwK (past:List Rd):List DS→(List V→Objs→Ro)→List V→Objs→Ro
 |[],k,J,U=>k J U
 |d::r,k,J,U=>
  bd (Qgd (d.un.map fun k=>past.getD k .none) U) fun U0=>
   Ql4 M d.s (fun J1 U1=>Qo9 J1 fun J'=>bd (Qei (d.un.map fun k=>past.getD k .none) U U1) fun U'=>
    drwK (past++[match d.s.gd with|none=>rdOf (arg M.G J) U d.s.ins|some (g,b)=>rdG (J.getD g .undef) b (rdOf (arg M.G J) U d.s.ins)]) r k J' U') J U0
theorem Wgc (J:List V) (U:Objs) (g:Option (Nat×Bool)) (i:Ins):(match g with|none=>rdOf (arg M.G J) U i|some (g,b)=>rdG (J.getD g .undef) b (rdOf (arg M.G J) U i))=if (wanted J g).getD false then reads (arg M.G J) U i else .none:=by
 rw [Wgb]
 cases g with
 |none=>simp [wanted]
 |some p=>
  obtain ⟨g,b⟩:=p
  exact Wje (J.getD g .undef) b (reads (arg M.G J) U i)
theorem Qxm:∀(l:List DS) (past:List Rd) (k:List V→Objs→Ro) (J:List V) (U:Objs),drwK M past l k J U=bd (Qg9 M.G M.call past l J U) (pk k)
 |[],past,k,J,U=>rfl
 |d::r,past,k,J,U=>by
  simp only [drwK,Qg9,Qgd,Qei,Wgc,Xaa,Qsy,Qec,Qgc]
  congr 1
  funext U0
  congr 1
  funext p
  obtain ⟨J',U1⟩:=p
  simp only [pk]
  congr 1
  funext U'
  split
  ·rw [Qcq];exact Qxm r _ k J' U'
  ·rfl
def Qj5 (live:List Nat):Nat→List V→List V
 |_,[]=>[]
 |i,x::xs=>if live.contains i then x::Qj5 live (i+1) xs else Qj5 live (i+1) xs
def expd (live:List Nat):Nat→Nat→Nat→List V→List V
 |_,0,_,_=>[]
 |i,n+1,p,vs=>if live.contains i then vs.getD p .undef::expd live (i+1) n (p+1) vs else .any::expd live (i+1) n p vs
def cutL (n:Nat) (U:Objs) (live:List Nat):Nat→List V→(List V→Ro)→Ro
 |_,[],k=>k []
 |i,x::xs,k=>if live.contains i then bd (fz n U fzD x) fun y=>cutL n U live (i+1) xs fun ys=>k (y::ys) else cutL n U live (i+1) xs k
theorem Qi4 (n:Nat) (U:Objs) (live:List Nat):∀(xs:List V) (i:Nat) (k:List V→Ro),cutL n U live i xs k=bd (Qaz n U live i xs) fun ys=>k (Qj5 live i ys)
 |[],i,k=>rfl
 |x::xs,i,k=>by
  rw [Qo6]
  simp only [cutL]
  by_cases h:live.contains i=true
  ·simp only [if_pos h,Qgc]
   congr 1
   funext y
   rw [Qi4 n U live xs (i+1)]
   cases Qaz n U live (i+1) xs with
   |none=>rfl
   |some ys=>simp only [Xad,Qcq,Qj5,if_pos h]
  ·simp only [if_neg h]
   rw [Qi4 n U live xs (i+1)]
   simp only [Xad]
   cases Qaz n U live (i+1) xs with
   |none=>rfl
   |some ys=>simp only [Xad,Qcq,Qj5,if_neg h]
theorem Qd7 (n:Nat) (U:Objs) (live:List Nat):∀(xs:List V) (i:Nat) (ys:List V),Qaz n U live i xs=some ys→∀(p:Nat) (vs:List V),vs.drop p=Qj5 live i ys→expd live i xs.length p vs=ys
 |[],i,ys,h,p,vs,_=>by cases h;rfl
 |x::xs,i,ys,h,p,vs,hv=>by
  rw [Qo6] at h
  simp only [Xab,Xah] at h
  obtain ⟨y,hy,zs,hz,he⟩:=h
  subst he
  simp only [Xal,expd]
  by_cases hc:live.contains i=true
  ·simp only [if_pos hc]
   simp only [Qj5,if_pos hc] at hv
   have h0:vs[p]? = some y:=by
    have:=congrArg (·[0]?) hv
    simpa using this
   have h1:vs.drop (p+1)=Qj5 live (i+1) zs:=by
    have:=congrArg List.tail hv
    simpa [List.tail_drop] using this
   rw [Qd7 n U live xs (i+1) zs hz (p+1) vs h1]
   simp [Xav,h0]
  ·simp only [if_neg hc]
   simp only [Qj5,if_neg hc] at hv
   simp only [if_neg hc] at hy
   cases hy
   rw [Qd7 n U live xs (i+1) zs hz p vs hv]
theorem Qdg (n:Nat) (U:Objs) (live:List Nat):∀(xs:List V) (i:Nat) (ys:List V),Qaz n U live i xs=some ys→ys.length=xs.length
 |[],i,ys,h=>by cases h;rfl
 |x::xs,i,ys,h=>by
  rw [Qo6] at h
  simp only [Xab,Xah] at h
  obtain ⟨y,hy,zs,hz,he⟩:=h
  subst he
  simp [Qdg n U live xs (i+1) zs hz]
def Qpb (nt n:Nat) (lin lout:List Nat) (K:Kt) (rec:List V→Objs→Ro):Kt where
 nm:=fun J U=>cutL n U lin 0 J fun ys=>bd (cuO n U) fun U'=>rec ys U'
 ex:=fun i J U=>cutL n U lout 0 J fun ys=>bd (cuO n U) fun U'=>K.ex i (expd lout 0 nt 0 ys) U'
 rt:=fun J U=>cutL n U lout 0 J fun ys=>bd (cuO n U) fun U'=>K.rt (expd lout 0 nt 0 ys) U'
def cdK:Cd→Kt→List V→Objs→Ro
 | .skip,K,J,U=>K.nm J U
 | .ret,K,J,U=>K.rt J U
 | .exit id,K,J,U=>K.ex id J U
 | .ops _ l,K,J,U=>Qhe M l K.nm J U
 | .drw _ l,K,J,U=>drwK M [] l K.nm J U
 | .seq a b,K,J,U=>cdK a ⟨fun J' U'=>cdK b K J' U',K.ex,K.rt⟩ J U
 | .cond c a b,K,J,U=>br (arg M.G J c) (cdK a K J U) (cdK b K J U)
 | .block id b,K,J,U=>cdK b ⟨K.nm,fun i J' U'=>if i=id then K.nm J' U' else K.ex i J' U',K.rt⟩ J U
 | .loop lin lout b,K,J,U=>cutL U.length U lin 0 J fun ys=>M.fx (fun rec vs U1=>cdK b (Qpb J.length U.length lin lout K rec) (expd lin 0 J.length 0 vs) U1) ys U
end
def iter (F:(List V→Objs→Ro)→List V→Objs→Ro) (k:Nat):List V→Objs→Ro:=
 Nat.rec (fun _ _=>none) (fun _ r=>F r) k
def Len (n:Nat):Ran→Prop
 |some (_,J,_)=>J.length=n
 |none=>True
section
variable {G:GV} {call:FuncId→List V→Objs→Ro}
theorem Qsz {s:Step} {J J':List V} {U U':Objs} (h:Qb4 G call s J U=some (J',U')):J'.length=J.length:=by
 unfold Qb4 at h
 simp only [Xaa,Xab] at h
 obtain ⟨b,_,h⟩:=h
 split at h
 ·unfold ev1 at h
  simp only [Xaa,Xab] at h
  obtain ⟨p,_,h⟩:=h
  cases h
  rw [Qnc,Qgv]
 ·cases h;exact Qnc _ _
theorem Qpc:∀ {l:List Step} {J J':List V} {U U':Objs},Qdb G call l J U=some (J',U')→J'.length=J.length
 |[],J,J',U,U',h=>by cases h;rfl
 |s::r,J,J',U,U',h=>by
  simp only [Qdb,Xaa,Xab] at h
  obtain ⟨p,h1,h2⟩:=h
  rw [Qpc (l:=r) (J:=p.1) (U:=p.2) h2,Qsz (J':=p.1) (U':=p.2) h1]
theorem Qxn:∀ {l:List DS} {past:List Rd} {J J':List V} {U U':Objs},Qg9 G call past l J U=some (J',U')→J'.length=J.length
 |[],past,J,J',U,U',h=>by cases h;rfl
 |d::r,past,J,J',U,U',h=>by
  simp only [Qg9,Xaa,Xab] at h
  obtain ⟨U0,_,p,h1,U2,_,h2⟩:=h
  split at h2
  ·rw [Qxn (l:=r) (J:=p.1) (U:=U2) h2,Qsz (J':=p.1) (U':=p.2) h1]
  ·cases h2
theorem Qpd {lin lout:List Nat} {n nt:Nat} {rd:List V→Objs→Ran} (hrd:∀J U,J.length=nt→Len nt (rd J U)):∀(k:Nat) (J:List V) (U:Objs),J.length=nt→Len nt (Qj4 lin lout n rd k J U)
 |0,J,U,h=>trivial
 |k+1,J,U,h=>by
  unfold Qj4
  have h1:=hrd J U h
  cases hr:rd J U with
  |none=>trivial
  |some p=>
   obtain ⟨e,J',U'⟩:=p
   rw [hr] at h1
   have h1':J'.length=nt:=h1
   have fin:∀(e:Out) (live:List Nat),Len nt ((do let J'' ←Qaz n U' live 0 J';let U'' ←cuO n U';some (e,J'',U'')):Ran):=by
    intro e live
    simp only [Xaa]
    cases hc:Qaz n U' live 0 J' with
    |none=>trivial
    |some ys=>
     simp only [Xad]
     cases cuO n U' with
     |none=>trivial
     |some s=>exact (Qdg n U' live J' 0 ys hc).trans h1'
   cases e with
   |norm=>
    simp only [Xaa]
    cases hc:Qaz n U' lin 0 J' with
    |none=>trivial
    |some ys=>
     simp only [Xad]
     cases cuO n U' with
     |none=>trivial
     |some s=>exact Qpd hrd k ys s ((Qdg n U' lin J' 0 ys hc).trans h1')
   |ex i=>exact fin (.ex i) lout
   |ret=>exact fin .ret lout
theorem Qk6 (fuel:Nat):∀(c:Cd) (J:List V) (U:Objs),Len J.length (evCd G call fuel c J U)
 | .skip,J,U=>rfl
 | .ret,J,U=>rfl
 | .exit id,J,U=>rfl
 | .ops _ l,J,U=>by
  simp only [evCd]
  cases h:Qdb G call l J U with
  |none=>trivial
  |some p=>exact Qpc (J':=p.1) (U':=p.2) h
 | .drw _ l,J,U=>by
  simp only [evCd]
  cases h:Qg9 G call [] l J U with
  |none=>trivial
  |some p=>exact Qxn (J':=p.1) (U':=p.2) h
 | .seq a b,J,U=>by
  have ha:=Qk6 fuel a J U
  simp only [evCd]
  cases h:evCd G call fuel a J U with
  |none=>trivial
  |some p=>
   obtain ⟨e,J',U'⟩:=p
   rw [h] at ha
   have ha':J'.length=J.length:=ha
   cases e with
   |norm=>simp only;rw [←ha'];exact Qk6 fuel b J' U'
   |ex i=>exact ha
   |ret=>exact ha
 | .cond c a b,J,U=>by
  simp only [evCd]
  split
  ·exact Qk6 fuel a J U
  ·exact Qk6 fuel b J U
  ·trivial
 | .block id b,J,U=>by
  have hb:=Qk6 fuel b J U
  simp only [evCd]
  cases h:evCd G call fuel b J U with
  |none=>trivial
  |some p=>
   obtain ⟨e,J',U'⟩:=p
   rw [h] at hb
   cases e with
   |norm=>exact hb
   |ex i=>simp only;split <;> exact hb
   |ret=>exact hb
 | .loop lin lout b,J,U=>by
  simp only [evCd,Xaa]
  cases hc:Qaz U.length U lin 0 J with
  |none=>trivial
  |some ys=>
   simp only [Xad]
   have hl:=Qdg _ _ _ _ _ _ hc
   refine Qpd (nt:=J.length) (fun J1 U1 h1 => ?_) _ _ _ hl
   rw [←h1];exact Qk6 fuel b J1 U1
end
theorem Qxo {nt n:Nat} {lin lout:List Nat} {rd:List V→Objs→Ran} {K:Kt} {F:(List V→Objs→Ro)→List V→Objs→Ro}
  (hlen:∀J U,J.length=nt→Len nt (rd J U))
  (hF:∀rec J U,J.length=nt→∀vs,expd lin 0 nt 0 vs=J→F rec vs U=kc (Qpb nt n lin lout K rec) (rd J U)):
  ∀(k:Nat) (J:List V) (U:Objs),J.length=nt→∀vs,expd lin 0 nt 0 vs=J→iter F k vs U=kc K (Qj4 lin lout n rd k J U)
 |0,J,U,hl,vs,he=>rfl
 |k+1,J,U,hl,vs,he=>by
  show F (iter F k) vs U=_
  rw [hF (iter F k) J U hl vs he]
  unfold Qj4
  have h1:=hlen J U hl
  cases hr:rd J U with
  |none=>rfl
  |some p=>
   obtain ⟨e,J',U'⟩:=p
   rw [hr] at h1
   have h1':J'.length=nt:=h1
   cases e with
   |norm=>
    show cutL n U' lin 0 J' (fun ys=>bd (cuO n U') fun U''=>iter F k ys U'')=_
    rw [Qi4]
    simp only [Xaa]
    cases hc:Qaz n U' lin 0 J' with
    |none=>rfl
    |some ys=>
     simp only [Xad,Qcq]
     cases cuO n U' with
     |none=>rfl
     |some s=>
      have hex:=Qd7 n U' lin J' 0 ys hc 0 (Qj5 lin 0 ys) rfl
      rw [h1'] at hex
      exact Qxo hlen hF k ys s ((Qdg n U' lin J' 0 ys hc).trans h1') _ hex
   |ex i=>
    show cutL n U' lout 0 J' (fun ys=>bd (cuO n U') fun U''=>K.ex i (expd lout 0 nt 0 ys) U'')=_
    rw [Qi4]
    simp only [Xaa]
    cases hc:Qaz n U' lout 0 J' with
    |none=>rfl
    |some ys=>
     simp only [Xad,Qcq]
     cases cuO n U' with
     |none=>rfl
     |some s=>
      have hex:=Qd7 n U' lout J' 0 ys hc 0 (Qj5 lout 0 ys) rfl
      rw [h1'] at hex
      simp only [Qcq,hex,Xad]
      rfl
   |ret=>
    show cutL n U' lout 0 J' (fun ys=>bd (cuO n U') fun U''=>K.rt (expd lout 0 nt 0 ys) U'')=_
    rw [Qi4]
    simp only [Xaa]
    cases hc:Qaz n U' lout 0 J' with
    |none=>rfl
    |some ys=>
     simp only [Xad,Qcq]
     cases cuO n U' with
     |none=>rfl
     |some s=>
      have hex:=Qd7 n U' lout J' 0 ys hc 0 (Qj5 lout 0 ys) rfl
      rw [h1'] at hex
      simp only [Qcq,hex,Xad]
      rfl
theorem Qk7 (G:GV) (call:FuncId→List V→Objs→Ro) (k:Nat):∀(c:Cd) (K:Kt) (J:List V) (U:Objs),
  cdK ⟨G,call,fun F=>iter F k⟩ c K J U=kc K (evCd G call k c J U)
 | .skip,K,J,U=>rfl
 | .ret,K,J,U=>rfl
 | .exit id,K,J,U=>rfl
 | .ops _ l,K,J,U=>by
  simp only [cdK,evCd,Qpa]
  cases Qdb G call l J U <;> rfl
 | .drw _ l,K,J,U=>by
  simp only [cdK,evCd,Qxm]
  cases Qg9 G call [] l J U <;> rfl
 | .seq a b,K,J,U=>by
  simp only [cdK,evCd]
  rw [Qk7 G call k a]
  cases h:evCd G call k a J U with
  |none=>rfl
  |some p=>
   obtain ⟨e,J',U'⟩:=p
   cases e with
   |norm=>exact Qk7 G call k b K J' U'
   |ex i=>rfl
   |ret=>rfl
 | .cond c a b,K,J,U=>by
  simp only [cdK,evCd]
  rw [Qk7 G call k a,Qk7 G call k b]
  generalize arg G J c=v
  cases v with
  |bool t=>cases t <;> rfl
  |_=>rfl
 | .block id b,K,J,U=>by
  simp only [cdK,evCd]
  rw [Qk7 G call k b]
  cases evCd G call k b J U with
  |none=>rfl
  |some p=>
   obtain ⟨e,J',U'⟩:=p
   cases e with
   |norm=>rfl
   |ex i=>simp only [kc];split <;> rfl
   |ret=>rfl
 | .loop lin lout b,K,J,U=>by
  simp only [cdK,evCd,Xaa]
  rw [Qi4]
  cases hc:Qaz U.length U lin 0 J with
  |none=>rfl
  |some ys=>
   simp only [Xad,Qcq]
   have hl:=Qdg _ _ _ _ _ _ hc
   refine Qxo (rd:=evCd G call k b) (fun J1 U1 h1=>by rw [←h1];exact Qk6 k b J1 U1) (fun rec J1 U1 h1 vs he => ?_) k ys U hl _ (Qd7 _ _ _ _ 0 _ hc 0 _ rfl)
   rw [he]
   exact Qk7 G call k b _ J1 U1
def resC (U:Objs) (ag:Bool) (sz:Nat) (p:V):Option V:=
 match p with
 | .ptr o off=>do
  let cs ←Objs.get U o
  part ag sz cs off
 |_=>none
def resK (J:List V) (U:Objs):List Res→(List V→Ro)→Ro
 |[],k=>k []
 | .tmp t::r,k=>resK J U r fun vs=>k (J.getD t .undef::vs)
 | .cell t ag sz::r,k=>bd (resC U ag sz (J.getD t .undef)) fun v=>resK J U r fun vs=>k (v::vs)
def oK (keep:Bool) (v:V):Option V:=if v.one||agOk true v then some (Qol keep v) else none
def nK (n:Nat) (U:Objs) (r:V):Ro:=bd (cuO n U) fun U'=>bd (fz n U fzD r) fun r'=>some (r',U')
def finK (keep:Bool) (res:List Res) (n:Nat) (J:List V) (U:Objs):Ro:=
 match res with
 |[r]=>resK J U [r] fun vs=>bd (oK keep (vs.headD .undef)) (nK n U)
 |rs=>resK J U rs fun vs=>nK n U (.tup (vs.map V.ng))
theorem Qk8 (J:List V) (U:Objs):∀(rs:List Res) (k:List V→Ro),resK J U rs k=bd (rs.mapM (resV J U)) k
 |[],k=>by rw [Xd6];rfl
 | .tmp t::r,k=>by
  simp only [resK,Xbo,Xaa,resV,Xad,Qgc,Qk8 J U r]
  congr 1
 | .cell t ag sz::r,k=>by
  simp only [resK,Xbo,Xaa,Qgc,Qk8 J U r]
  have:resC U ag sz (J.getD t .undef)=resV J U (.cell t ag sz):=rfl
  rw [this]
  congr 1
theorem Qxp (keep:Bool) (res:List Res) (n:Nat) (J:List V) (U:Objs):
  finK keep res n J U=bd (Ev.results keep J U res) fun r=>bd (cuO n U) fun U''=>bd (fz n U fzD r) fun r'=>some (r',U''):=by
 match res with
 |[]=>simp only [finK,Ev.results,Qk8,Xaa,Qgc,Xd6];rfl
 |[r]=>
  simp only [finK,Ev.results,Qk8,Xaa,Qgc,Xbo,Xd6]
  congr 1
 |a::b::r=>
  simp only [finK,Ev.results,Qk8,Xaa,Qgc]
  congr 1
def fnK (M:Mach) (F:Fn) (args:List V) (U:Objs):Ro:=
 cdK M F.body ⟨finK F.keep F.res U.length,fun _ _ _=>none,finK F.keep F.res U.length⟩ (args++List.replicate (F.nt - args.length) .undef) U
theorem Wjf (G:GV) (call:FuncId→List V→Objs→Ro) (k:Nat) {F:Fn} (he:F.esc=false) (args:List V) (U:Objs):fnK ⟨G,call,fun F=>iter F k⟩ F args U=evFn G call F k args U:=by
 unfold fnK evFn
 rw [Qk7]
 simp only [he,Xaa]
 have hb:∀(x:Ro) (f:V×Objs→Ro),bd x f=x.bind f:=fun x f=>by cases x <;> rfl
 have hb2:∀ {α:Type} (x:Option α) (f:α→Ro),bd x f=x.bind f:=fun x f=>by cases x <;> rfl
 cases evCd G call k F.body (args++List.replicate (F.nt - args.length) .undef) U with
 |none=>rfl
 |some p=>
  obtain ⟨o,J,U'⟩:=p
  cases o with
  |norm=>simp only [kc,Qxp,hb2,Xad]
  |ret=>simp only [kc,Qxp,hb2,Xad]
  |ex i=>rfl
section
variable {α β:Type}
def Grow (s:Nat→Option β):Prop:=∀n r,s n=some r→s (n+1)=some r
theorem Grow.le {s:Nat→Option β} (h:Grow s) {n r} (hn:s n=some r):∀d,s (n+d)=some r
 |0=>hn
 |d+1=>h _ _ (h.le hn d)
theorem Grow.le' {s:Nat→Option β} (h:Grow s) {n m r} (hn:s n=some r) (hm:n≤m):s m=some r:=by
 obtain ⟨d,rfl⟩:=Nat.exists_eq_add_of_le hm
 exact h.le hn d
structure IsLim (s:Nat→Option β) (x:Option β):Prop where
 up:Grow s
 iff:∀r,x=some r↔∃n,s n=some r
theorem IsLim.uniq {s:Nat→Option β} {x y:Option β} (h:IsLim s x) (g:IsLim s y):x=y:=by
 cases x with
 |none=>
  cases y with
  |none=>rfl
  |some r=>exact absurd ((h.iff r).2 ((g.iff r).1 rfl)) (by simp)
 |some r=>exact ((g.iff r).2 ((h.iff r).1 rfl)).symm
theorem IsLim.const (x:Option β):IsLim (fun _=>x) x:=⟨fun _ _ h=>h,fun r=>⟨fun h=>⟨0,h⟩,fun ⟨_,h⟩=>h⟩⟩
theorem IsLim.shift {s:Nat→Option β} {x:Option β} (h:IsLim s x) (d:Nat):IsLim (fun n=>s (n+d)) x:=by
 refine ⟨fun n r hn => ?_,fun r=>⟨fun hx => ?_,fun ⟨n,hn⟩=>(h.iff r).2 ⟨_,hn⟩⟩⟩
 ·have:=h.up _ _ hn
  rw [show n+1+d=n+d+1 by omega];exact this
 ·obtain ⟨n,hn⟩:=(h.iff r).1 hx
  exact ⟨n,h.up.le hn d⟩
theorem IsLim.bd {s:Nat→Option α} {x:Option α} {f:Nat→α→Ro} {g:α→Ro} (h:IsLim s x) (hf:∀a,IsLim (fun n=>f n a) (g a)):IsLim (fun n=>Ev.bd (s n) (f n)) (Ev.bd x g):=by
 refine ⟨fun n r hn => ?_,fun r=>⟨fun hx => ?_,fun ⟨n,hn⟩ => ?_⟩⟩
 ·cases hs:s n with
  |none=>simp only [hs] at hn;cases hn
  |some a=>
   simp only [hs] at hn
   simp only [h.up _ _ hs]
   exact (hf a).up _ _ hn
 ·cases hs:x with
  |none=>rw [hs] at hx;cases hx
  |some a=>
   rw [hs] at hx
   obtain ⟨n,hn⟩:=(h.iff a).1 hs
   obtain ⟨m,hm⟩:=((hf a).iff r).1 hx
   refine ⟨n+m,?_⟩
   simp only [h.up.le hn m]
   rw [show n+m=m+n by omega]
   exact (hf a).up.le hm n
 ·cases hs:s n with
  |none=>simp only [hs] at hn;cases hn
  |some a=>
   simp only [hs] at hn
   rw [(h.iff a).2 ⟨n,hs⟩]
   exact ((hf a).iff r).2 ⟨n,hn⟩
theorem IsLim.diag {s:Nat→Nat→Option β} {x:Nat→Option β} {y:Option β} (h:∀j,IsLim (fun k=>s j k) (x j)) (hj:∀k,Grow fun j=>s j k) (hy:IsLim x y) (d:Nat):IsLim (fun k=>s (k+d) k) y:=by
 refine ⟨fun k r hk => ?_,fun r=>⟨fun hx => ?_,fun ⟨k,hk⟩ => ?_⟩⟩
 ·have h1:=hj k _ _ hk
  have h2:=(h (k+d+1)).up _ _ h1
  rw [show k+1+d=k+d+1 by omega];exact h2
 ·obtain ⟨j,hj'⟩:=(hy.iff r).1 hx
  obtain ⟨k,hk⟩:=((h j).iff r).1 hj'
  refine ⟨j+k,?_⟩
  have h1:s j (j+k)=some r:=by rw [show j+k=k+j by omega];exact (h j).up.le hk j
  exact (hj (j+k)).le' h1 X0o
 ·exact (hy.iff r).2 ⟨k+d,((h _).iff r).2 ⟨k,hk⟩⟩
noncomputable def lim (s:Nat→Option β):Option β:=by
 classical exact if h:∃r n,s n=some r then some h.choose else none
theorem Qpe {s:Nat→Option β} (h:Grow s):IsLim s (lim s):=by
 refine ⟨h,fun r => ?_⟩
 unfold lim
 split
 ·rename_i hx
  obtain ⟨n,hn⟩:=hx.choose_spec
  refine ⟨fun he => ?_,fun ⟨m,hm⟩ => ?_⟩
  ·cases he;exact ⟨n,hn⟩
  ·have h1:=h.le hn m
   have h2:=h.le hm n
   rw [show m+n=n+m by omega] at h2
   rw [h1] at h2
   exact h2
 ·rename_i hx
  exact ⟨fun he=>(by cases he),fun ⟨m,hm⟩=>absurd ⟨r,m,hm⟩ hx⟩
end
def Le {β:Type} (x y:Option β):Prop:=∀r,x=some r→y=some r
theorem Le.refl {β:Type} (x:Option β):Le x x:=fun _ h=>h
theorem Le.bd {α:Type} {x y:Option α} {f g:α→Ro} (h:Le x y) (hf:∀a,Le (f a) (g a)):Le (Ev.bd x f) (Ev.bd y g):=by
 intro r hr
 cases hx:x with
 |none=>rw [hx] at hr;cases hr
 |some a=>rw [hx] at hr;rw [h a hx];exact hf a r hr
abbrev Rk:=List V→Objs→Ro
def LeF (f g:Rk):Prop:=∀J U,Le (f J U) (g J U)
def LeK (K L:Kt):Prop:=LeF K.nm L.nm∧(∀i,LeF (K.ex i) (L.ex i))∧LeF K.rt L.rt
def LeM (M N:Mach):Prop:=M.G=N.G∧∀f args U,Le (M.call f args U) (N.call f args U)
section
variable {M N:Mach}
theorem Wed (h:LeM M N) (A T:Arg→V) (U:Objs) (i:Ins):Le (effV M A T U i) (effV N A T U i):=by
 cases i with
 |call f args=>exact h.2 _ _ _
 |callv x args=>
  show Le (Qif M U (A x) (args.map A)) (Qif N U (A x) (args.map A))
  unfold Qif
  split
  ·exact h.2 _ _ _
  ·exact Le.refl _
 |_=>exact Le.refl _
theorem Wee (h:LeM M N) {k l:V→Objs→Ro} (hk:∀v U,Le (k v U) (l v U)) (J:List V) (U:Objs) (i:Ins):Le (insK M J U k i) (insK N J U l i):=by
 unfold insK
 rw [h.1]
 split
 ·exact Le.bd (Le.refl _) fun v=>hk v U
 ·exact Le.bd (Wed h _ _ _ _) fun p=>hk _ _
theorem Wjg {x y:Ro} (h:Le x y) (g:V) (t:Bool) (U:Objs):Le (gdp g t x U) (gdp g t y U):=by
 unfold gdp
 split
 ·split
  ·exact h
  ·exact Le.refl _
 ·exact Le.refl _
 ·exact Le.refl _
theorem Wm3 {x y x' y':Ro} (h:Le x y) (h':Le x' y') (g:V) (t:Bool):Le (gd g t x x') (gd g t y y'):=by
 unfold gd
 split
 ·split
  ·exact h
  ·exact h'
 ·exact h'
 ·exact Le.refl _
theorem Wm4 {x y x' y':Ro} (h:Le x y) (h':Le x' y') (g:V):Le (br g x x') (br g y y'):=by
 unfold br
 split
 ·exact h
 ·exact h'
 ·exact Le.refl _
theorem Qxq (h:LeM M N) {k l:Rk} (hk:LeF k l) (s:Step) (J:List V) (U:Objs):Le (Ql4 M s k J U) (Ql4 N s l J U):=by
 unfold Ql4
 split
 ·exact Wee h (fun v U=>hk _ _) _ _ _
 ·split
  ·exact Wm3 (Wee h (fun v U=>hk _ _) _ _ _) (hk _ _) _ _
  ·split
   ·rw [h.1];exact Le.bd (Le.refl _) fun v=>hk _ _
   ·rw [h.1];exact Le.bd (Wjg (Wed h _ _ _ _) _ _ _) fun v=>hk _ _
theorem Qs0 (h:LeM M N):∀(s:List Step) {k l:Rk},LeF k l→LeF (Qhe M s k) (Qhe N s l)
 |[],k,l,hk=>hk
 |s::r,k,l,hk=>fun J U=>by
  simp only [Qhe,Qec]
  exact Qxq h (fun J' U'=>Qs0 h r hk J' U') s J U
theorem Wef (h:LeM M N):∀(s:List DS) (past:List Rd) {k l:Rk},LeF k l→LeF (drwK M past s k) (drwK N past s l)
 |[],past,k,l,hk=>hk
 |d::r,past,k,l,hk=>fun J U=>by
  simp only [drwK,Qec]
  rw [h.1]
  exact Le.bd (Le.refl _) fun U0=>Qxq h (fun J' U1=>Le.bd (Le.refl _) fun U'=>Wef h r _ hk J' U') d.s J U0
theorem Qi5 (n:Nat) (U:Objs) (live:List Nat):∀(xs:List V) (i:Nat) {k l:List V→Ro},(∀ys,Le (k ys) (l ys))→Le (cutL n U live i xs k) (cutL n U live i xs l)
 |[],i,k,l,hk=>hk _
 |x::xs,i,k,l,hk=>by
  unfold cutL
  split
  ·exact Le.bd (Le.refl _) fun y=>Qi5 n U live xs (i+1) fun ys=>hk _
  ·exact Qi5 n U live xs (i+1) hk
theorem Qnf {K L:Kt} (hK:LeK K L) {f g:Rk} (hf:LeF f g) (nt n:Nat) (lin lout:List Nat):LeK (Qpb nt n lin lout K f) (Qpb nt n lin lout L g):=
 ⟨fun J U=>Qi5 _ _ _ _ _ fun ys=>Le.bd (Le.refl _) fun U'=>hf _ _,fun i J U=>Qi5 _ _ _ _ _ fun ys=>Le.bd (Le.refl _) fun U'=>hK.2.1 i _ _,fun J U=>Qi5 _ _ _ _ _ fun ys=>Le.bd (Le.refl _) fun U'=>hK.2.2 _ _⟩
def LeX (M N:Mach):Prop:=∀F F':Rk→Rk,(∀f g,LeF f g→LeF (F f) (F g))→(∀f g,LeF f g→LeF (F' f) (F' g))→(∀f g,LeF f g→LeF (F f) (F' g))→LeF (M.fx F) (N.fx F')
theorem Ql5 {M N:Mach} : ∀(c:Cd) (_:LeM M N) (_:LeX M N) (_:LeM M M) (_:LeX M M) (_:LeM N N) (_:LeX N N) {K L:Kt},LeK K L→LeF (cdK M c K) (cdK N c L)
 | .skip,h,hx,a,b,c,d,K,L,hK=>hK.1
 | .ret,h,hx,a,b,c,d,K,L,hK=>hK.2.2
 | .exit id,h,hx,a,b,c,d,K,L,hK=>hK.2.1 id
 | .ops _ l,h,hx,a,b,c,d,K,L,hK=>Qs0 h l hK.1
 | .drw _ l,h,hx,a,b,c,d,K,L,hK=>Wef h l [] hK.1
 | .seq x y,h,hx,a,b,c,d,K,L,hK=>fun J U=>Ql5 x h hx a b c d (K:=⟨fun J' U'=>cdK M y K J' U',K.ex,K.rt⟩) (L:=⟨fun J' U'=>cdK N y L J' U',L.ex,L.rt⟩) ⟨fun J' U'=>Ql5 y h hx a b c d hK J' U',hK.2.1,hK.2.2⟩ J U
 | .cond v x y,h,hx,a,b,c,d,K,L,hK=>fun J U=>by
  simp only [cdK]
  rw [h.1]
  exact Wm4 (Ql5 x h hx a b c d hK J U) (Ql5 y h hx a b c d hK J U) _
 | .block id x,h,hx,a,b,c,d,K,L,hK=>fun J U=>Ql5 x h hx a b c d (K:=⟨K.nm,fun i J' U'=>if i=id then K.nm J' U' else K.ex i J' U',K.rt⟩) (L:=⟨L.nm,fun i J' U'=>if i=id then L.nm J' U' else L.ex i J' U',L.rt⟩) ⟨hK.1,fun i J' U'=>by
   show Le (if i=id then K.nm J' U' else K.ex i J' U') (if i=id then L.nm J' U' else L.ex i J' U')
   split
   ·exact hK.1 _ _
   ·exact hK.2.1 _ _ _,hK.2.2⟩ J U
 | .loop lin lout x,h,hx,a,b,c,d,K,L,hK=>fun J U=>by
  simp only [cdK]
  refine Qi5 _ _ _ _ _ fun ys=>hx _ _ (fun f g hf vs U1 => ?_) (fun f g hf vs U1 => ?_) (fun f g hf vs U1 => ?_) ys U
  ·exact Ql5 x a b a b a b (Qnf ⟨fun _ _=>Le.refl _,fun _ _ _=>Le.refl _,fun _ _=>Le.refl _⟩ hf _ _ _ _) _ _
  ·exact Ql5 x c d c d c d (Qnf ⟨fun _ _=>Le.refl _,fun _ _ _=>Le.refl _,fun _ _=>Le.refl _⟩ hf _ _ _ _) _ _
  ·exact Ql5 x h hx a b c d (Qnf hK hf _ _ _ _) _ _
theorem Qi6 {F F':Rk→Rk} (hm:∀f g,LeF f g→LeF (F f) (F' g)):∀ {k l:Nat},k≤l→LeF (iter F k) (iter F' l)
 |0,l,_,J,U=>fun r h=>by cases h
 |k+1,0,h,J,U=>by omega
 |k+1,l+1,h,J,U=>hm _ _ (Qi6 hm X0o) J U
end
section
variable (G:GV)
def mk (call:FuncId→List V→Objs→Ro) (k:Nat):Mach:=⟨G,call,fun F=>iter F k⟩
theorem mk_G (call:FuncId→List V→Objs→Ro) (k:Nat):(mk G call k).G=G:=rfl
noncomputable def fixL (F:Rk→Rk):Rk:=fun vs U=>lim fun j=>iter F j vs U
noncomputable def mkL (E:FuncId→List V→Objs→Ro):Mach:=⟨G,E,fixL⟩
theorem Wjh (E:FuncId→List V→Objs→Ro):(mkL G E).G=G:=rfl
def FLim (f:Nat→Rk) (g:Rk):Prop:=∀J U,IsLim (fun n=>f n J U) (g J U)
structure KLim (K:Nat→Kt) (L:Kt):Prop where
 nm:FLim (fun n=>(K n).nm) L.nm
 ex:∀i,FLim (fun n=>(K n).ex i) (L.ex i)
 rt:FLim (fun n=>(K n).rt) L.rt
variable {G}
variable {call:Nat→FuncId→List V→Objs→Ro} {E:FuncId→List V→Objs→Ro}
theorem Qxr (hE:∀f args U,IsLim (fun n=>call n f args U) (E f args U)) (d:Nat) (A T:Arg→V) (U:Objs) (i:Ins):IsLim (fun n=>effV (mk G (call n) (n+d)) A T U i) (effV (mkL G E) A T U i):=by
 cases i with
 |call f args=>exact hE _ _ _
 |callv x args=>
  show IsLim (fun n=>Qif (mk G (call n) (n+d)) U (A x) (args.map A)) (Qif (mkL G E) U (A x) (args.map A))
  unfold Qif
  split
  ·exact hE _ _ _
  ·exact IsLim.const _
 |_=>exact IsLim.const _
theorem Qxs (hE:∀f args U,IsLim (fun n=>call n f args U) (E f args U)) (d:Nat) {k:Nat→V→Objs→Ro} {l:V→Objs→Ro} (hk:∀v U,IsLim (fun n=>k n v U) (l v U)) (J:List V) (U:Objs) (i:Ins):
  IsLim (fun n=>insK (mk G (call n) (n+d)) J U (k n) i) (insK (mkL G E) J U l i):=by
 unfold insK
 show IsLim (fun n=>match Ql3 i with|false=>bd (valV (arg G J) (argT G J) U i) fun v=>k n v U|true=>bd (effV (mk G (call n) (n+d)) (arg G J) (argT G J) U i) fun p=>k n p.1 p.2)
  (match Ql3 i with|false=>bd (valV (arg G J) (argT G J) U i) fun v=>l v U|true=>bd (effV (mkL G E) (arg G J) (argT G J) U i) fun p=>l p.1 p.2)
 cases Ql3 i with
 |false=>exact IsLim.bd (IsLim.const _) fun v=>hk v U
 |true=>exact IsLim.bd (Qxr hE d _ _ _ _) fun p=>hk _ _
theorem Wgd {x:Nat→Ro} {y:Ro} (h:IsLim x y) (g:V) (t:Bool) (U:Objs):IsLim (fun n=>gdp g t (x n) U) (gdp g t y U):=by
 unfold gdp
 split
 ·split
  ·exact h
  ·exact IsLim.const _
 ·exact IsLim.const _
 ·exact IsLim.const _
theorem Wji {x x':Nat→Ro} {y y':Ro} (h:IsLim x y) (h':IsLim x' y') (g:V) (t:Bool):IsLim (fun n=>gd g t (x n) (x' n)) (gd g t y y'):=by
 unfold gd
 split
 ·split
  ·exact h
  ·exact h'
 ·exact h'
 ·exact IsLim.const _
theorem Wjj {x x':Nat→Ro} {y y':Ro} (h:IsLim x y) (h':IsLim x' y') (g:V):IsLim (fun n=>br g (x n) (x' n)) (br g y y'):=by
 unfold br
 split
 ·exact h
 ·exact h'
 ·exact IsLim.const _
theorem Qs1 (hE:∀f args U,IsLim (fun n=>call n f args U) (E f args U)) (d:Nat) {k:Nat→Rk} {l:Rk} (hk:FLim k l) (s:Step) (J:List V) (U:Objs):IsLim (fun n=>Ql4 (mk G (call n) (n+d)) s (k n) J U) (Ql4 (mkL G E) s l J U):=by
 unfold Ql4
 cases s.gd with
 |none=>exact Qxs hE d (fun v U=>hk _ _) _ _ _
 |some p=>
  obtain ⟨g,b⟩:=p
  simp only [mk_G,Wjh]
  cases s.ins.takes.2 with
  |true=>exact Wji (Qxs hE d (fun v U=>hk _ _) _ _ _) (hk _ _) _ _
  |false=>
   simp only
   cases Ql3 s.ins with
   |false=>exact IsLim.bd (IsLim.const _) fun v=>hk _ _
   |true=>exact IsLim.bd (Wgd (Qxr hE d _ _ _ _) _ _ _) fun v=>hk _ _
theorem Qpf (hE:∀f args U,IsLim (fun n=>call n f args U) (E f args U)) (d:Nat):∀(s:List Step) {k:Nat→Rk} {l:Rk},FLim k l→FLim (fun n=>Qhe (mk G (call n) (n+d)) s (k n)) (Qhe (mkL G E) s l)
 |[],k,l,hk=>hk
 |s::r,k,l,hk=>fun J U=>by
  simp only [Qhe,Qec]
  exact Qs1 hE d (fun J' U'=>Qpf hE d r hk J' U') s J U
theorem Qxt (hE:∀f args U,IsLim (fun n=>call n f args U) (E f args U)) (d:Nat):∀(s:List DS) (past:List Rd) {k:Nat→Rk} {l:Rk},FLim k l→FLim (fun n=>drwK (mk G (call n) (n+d)) past s (k n)) (drwK (mkL G E) past s l)
 |[],past,k,l,hk=>hk
 |s::r,past,k,l,hk=>fun J U=>by
  simp only [drwK,Qec,mk_G,Wjh]
  exact IsLim.bd (IsLim.const _) fun U0=>Qs1 hE d (fun J' U1=>IsLim.bd (IsLim.const _) fun U'=>Qxt hE d r _ hk J' U') s.s J U0
theorem Qgy (n:Nat) (U:Objs) (live:List Nat):∀(xs:List V) (i:Nat) {k:Nat→List V→Ro} {l:List V→Ro},(∀ys,IsLim (fun n=>k n ys) (l ys))→IsLim (fun m=>cutL n U live i xs (k m)) (cutL n U live i xs l)
 |[],i,k,l,hk=>hk _
 |x::xs,i,k,l,hk=>by
  unfold cutL
  cases live.contains i with
  |true=>exact IsLim.bd (IsLim.const _) fun y=>Qgy n U live xs (i+1) fun ys=>hk _
  |false=>exact Qgy n U live xs (i+1) hk
theorem Qs2 {K:Nat→Kt} {L:Kt} (hK:KLim K L) {f:Nat→Rk} {g:Rk} (hf:FLim f g) (nt n:Nat) (lin lout:List Nat):KLim (fun m=>Qpb nt n lin lout (K m) (f m)) (Qpb nt n lin lout L g):=
 ⟨fun J U=>Qgy _ _ _ _ _ fun ys=>IsLim.bd (IsLim.const _) fun U'=>hf _ _,fun i J U=>Qgy _ _ _ _ _ fun ys=>IsLim.bd (IsLim.const _) fun U'=>hK.ex i _ _,fun J U=>Qgy _ _ _ _ _ fun ys=>IsLim.bd (IsLim.const _) fun U'=>hK.rt _ _⟩
def Qha (M:Mach) (b:Cd) (nt n:Nat) (lin lout:List Nat) (K:Kt):Rk→Rk:=fun rec vs U=>cdK M b (Qpb nt n lin lout K rec) (expd lin 0 nt 0 vs) U
theorem Qxu {c e:FuncId→List V→Objs→Ro} (h:∀f args U,Le (c f args U) (e f args U)) (k l:Nat):LeM (mk G c k) (mk G e l):=⟨rfl,h⟩
theorem Qxv (c e:FuncId→List V→Objs→Ro) {k l:Nat} (h:k≤l):LeX (mk G c k) (mk G e l):=fun _ _ _ _ hm=>Qi6 hm h
theorem Qng (K:Kt):LeK K K:=⟨fun _ _=>Le.refl _,fun _ _ _=>Le.refl _,fun _ _=>Le.refl _⟩
theorem Qs3 (c:Cd) {e e':FuncId→List V→Objs→Ro} (h:∀f args U,Le (e f args U) (e' f args U)) {k l:Nat} (hkl:k≤l) {K L:Kt} (hK:LeK K L):LeF (cdK (mk G e k) c K) (cdK (mk G e' l) c L):=
 Ql5 c (Qxu h _ _) (Qxv _ _ hkl) (Qxu (fun _ _ _=>Le.refl _) _ _) (Qxv _ _ (Xai _)) (Qxu (fun _ _ _=>Le.refl _) _ _) (Qxv _ _ (Xai _)) hK
theorem Qmj (e:FuncId→List V→Objs→Ro) (k:Nat) (b:Cd) (nt n:Nat) (lin lout:List Nat) (K:Kt) {f g:Rk} (h:LeF f g):LeF (Qha (mk G e k) b nt n lin lout K f) (Qha (mk G e k) b nt n lin lout K g):=
 fun vs U=>Qs3 b (fun _ _ _=>Le.refl _) (Xai _) (Qnf (Qng K) h _ _ _ _) _ _
theorem Qge {F:Rk→Rk} (h:∀f g,LeF f g→LeF (F f) (F g)) (vs:List V) (U:Objs):Grow fun j=>iter F j vs U:=fun j r hj=>Qi6 h (Nat.le_succ j) vs U r hj
section
variable (hE:∀f args U,IsLim (fun n=>call n f args U) (E f args U))
include hE
theorem Qnh (d:Nat) (b:Cd) (nt n:Nat) (lin lout:List Nat) {K:Nat→Kt} {L:Kt} (hK:KLim K L)
  (hb:∀ {K:Nat→Kt} {L:Kt},KLim K L→FLim (fun m=>cdK (mk G (call m) (m+d)) b (K m)) (cdK (mkL G E) b L)):
  ∀j,FLim (fun m=>iter (Qha (mk G (call m) (m+d)) b nt n lin lout (K m)) j) (iter (Qha (mkL G E) b nt n lin lout L) j)
 |0=>fun _ _=>IsLim.const _
 |j+1=>fun vs U=>hb (Qs2 hK (Qnh d b nt n lin lout hK hb j) nt n lin lout) _ _
theorem Wb2 (d:Nat) (b:Cd) (nt n:Nat) (lin lout:List Nat) {K:Nat→Kt} {L:Kt} (hK:KLim K L)
  (hb:∀ {K:Nat→Kt} {L:Kt},KLim K L→FLim (fun m=>cdK (mk G (call m) (m+d)) b (K m)) (cdK (mkL G E) b L)) (vs:List V) (U:Objs):
  IsLim (fun j=>iter (Qha (mkL G E) b nt n lin lout L) j vs U) (fixL (Qha (mkL G E) b nt n lin lout L) vs U):=by
 refine Qpe fun j r hj => ?_
 have h1:=Qnh hE d b nt n lin lout hK hb
 obtain ⟨m,hm⟩:=((h1 j vs U).iff r).1 hj
 exact ((h1 (j+1) vs U).iff r).2 ⟨m,Qge (fun f g h=>Qmj _ _ _ _ _ _ _ _ h) vs U j r hm⟩
theorem Qq4 (d e:Nat) (b:Cd) (nt n:Nat) (lin lout:List Nat) {K:Nat→Kt} {L:Kt} (hK:KLim K L)
  (hb:∀ {K:Nat→Kt} {L:Kt},KLim K L→FLim (fun m=>cdK (mk G (call m) (m+d)) b (K m)) (cdK (mkL G E) b L)) (vs:List V) (U:Objs):
  IsLim (fun m=>iter (Qha (mk G (call m) (m+d)) b nt n lin lout (K m)) (m+e) vs U) (fixL (Qha (mkL G E) b nt n lin lout L) vs U):=
 IsLim.diag (s:=fun j m=>iter (Qha (mk G (call m) (m+d)) b nt n lin lout (K m)) j vs U) (fun j=>Qnh hE d b nt n lin lout hK hb j vs U)
  (fun m=>Qge (fun f g h=>Qmj _ _ _ _ _ _ _ _ h) vs U) (Wb2 hE d b nt n lin lout hK hb vs U) e
theorem Qhf (d:Nat):∀(c:Cd) {K:Nat→Kt} {L:Kt},KLim K L→FLim (fun m=>cdK (mk G (call m) (m+d)) c (K m)) (cdK (mkL G E) c L)
 | .skip,K,L,hK=>hK.nm
 | .ret,K,L,hK=>hK.rt
 | .exit id,K,L,hK=>hK.ex id
 | .ops _ l,K,L,hK=>Qpf hE d l hK.nm
 | .drw _ l,K,L,hK=>Qxt hE d l [] hK.nm
 | .seq x y,K,L,hK=>fun J U=>Qhf d x (K:=fun m=>⟨fun J' U'=>cdK (mk G (call m) (m+d)) y (K m) J' U',(K m).ex,(K m).rt⟩) (L:=⟨fun J' U'=>cdK (mkL G E) y L J' U',L.ex,L.rt⟩) ⟨fun J' U'=>Qhf d y hK J' U',hK.ex,hK.rt⟩ J U
 | .cond v x y,K,L,hK=>fun J U=>by
  show IsLim (fun m=>br (arg G J v) (cdK (mk G (call m) (m+d)) x (K m) J U) (cdK (mk G (call m) (m+d)) y (K m) J U)) (br (arg G J v) (cdK (mkL G E) x L J U) (cdK (mkL G E) y L J U))
  exact Wjj (Qhf d x hK J U) (Qhf d y hK J U) _
 | .block id x,K,L,hK=>fun J U=>by
  refine Qhf d x (K:=fun m=>⟨(K m).nm,fun i J' U'=>if i=id then (K m).nm J' U' else (K m).ex i J' U',(K m).rt⟩) (L:=⟨L.nm,fun i J' U'=>if i=id then L.nm J' U' else L.ex i J' U',L.rt⟩) ⟨hK.nm,fun i J' U' => ?_,hK.rt⟩ J U
  by_cases h:i=id
  ·simp only [if_pos h];exact hK.nm _ _
  ·simp only [if_neg h];exact hK.ex _ _ _
 | .loop lin lout x,K,L,hK=>fun J U=>by
  show IsLim (fun m=>cutL U.length U lin 0 J fun ys=>iter (Qha (mk G (call m) (m+d)) x J.length U.length lin lout (K m)) (m+d) ys U) (cutL U.length U lin 0 J fun ys=>fixL (Qha (mkL G E) x J.length U.length lin lout L) ys U)
  exact Qgy _ _ _ _ _ fun ys=>Qq4 hE d d x _ _ _ _ hK (Qhf d x) ys U
theorem Qvb (b:Cd) (nt n:Nat) (lin lout:List Nat) (L:Kt) (vs:List V) (U:Objs):
  fixL (Qha (mkL G E) b nt n lin lout L) vs U=Qha (mkL G E) b nt n lin lout L (fixL (Qha (mkL G E) b nt n lin lout L)) vs U:=by
 have hK:KLim (fun _=>L) L:=⟨fun _ _=>IsLim.const _,fun _ _ _=>IsLim.const _,fun _ _=>IsLim.const _⟩
 have h1:=Qq4 (G:=G) hE 0 1 b nt n lin lout hK (Qhf hE 0 b) vs U
 have h0:=Qq4 (G:=G) hE 0 0 b nt n lin lout hK (Qhf hE 0 b)
 have h2:=Qhf (G:=G) hE 0 b (Qs2 hK h0 nt n lin lout) (expd lin 0 nt 0 vs) U
 exact h1.uniq h2
end
end
def evK (C:Ctx):Nat→FuncId→List V→Objs→Ro
 |0,_,_,_=>none
 |n+1,f,args,U=>
  match C.prim f with
  |some h=>h args U
  |none=>
   match C.code f with
   |some F=>fnK (mk C.G (evK C n) n) F args U
   |none=>none
theorem Qxw {C:Ctx} (hC:∀f F,C.code f=some F→F.esc=false):∀n,evK C n=ev C n
 |0=>rfl
 |n+1=>by
  funext f args U
  simp only [evK,ev]
  cases C.prim f with
  |some h=>rfl
  |none=>
   simp only
   cases hF:C.code f with
   |none=>rfl
   |some F=>
    simp only
    rw [Qxw hC n]
    exact Wjf C.G (ev C n) n (hC f F hF) args U
theorem Qxx (C:Ctx):∀n f args U,Le (evK C n f args U) (evK C (n+1) f args U)
 |0,f,args,U=>fun r h=>by cases h
 |n+1,f,args,U=>by
  simp only [evK]
  cases C.prim f with
  |some h=>exact Le.refl _
  |none=>
   simp only
   cases hF:C.code f with
   |none=>exact Le.refl _
   |some F=>
    have ih:=fun f args U=>Qxx C n f args U
    simp only [evK] at ih
    exact Qs3 F.body (fun f args U=>Qxx C n f args U) (Nat.le_succ n) (Qng _) _ _
noncomputable def E (C:Ctx) (f:FuncId) (args:List V) (U:Objs):Ro:=lim fun n=>evK C n f args U
noncomputable def Mi (C:Ctx):Mach:=mkL C.G (E C)
theorem Qvc (C:Ctx) (f:FuncId) (args:List V) (U:Objs):IsLim (fun n=>evK C n f args U) (E C f args U):=Qpe fun n r h=>Qxx C n f args U r h
theorem E_of {C:Ctx} {n:Nat} {f:FuncId} {args:List V} {U:Objs} {r:V×Objs} (h:evK C n f args U=some r):E C f args U=some r:=((Qvc C f args U).iff r).2 ⟨n,h⟩
theorem ev_of_E {C:Ctx} (hC:∀f F,C.code f=some F→F.esc=false) {f:FuncId} {args:List V} {U:Objs} {r:V×Objs} (h:E C f args U=some r):∃n,ev C n f args U=some r:=by
 obtain ⟨n,hn⟩:=((Qvc C f args U).iff r).1 h
 exact ⟨n,by rw [←Qxw hC n];exact hn⟩
theorem Wge {C:Ctx} (hC:∀f F,C.code f=some F→F.esc=false) {n:Nat} {f:FuncId} {args:List V} {U:Objs} {r:V×Objs} (h:ev C n f args U=some r):E C f args U=some r:=E_of (n:=n) (by rw [Qxw hC n];exact h)
theorem E_fn {C:Ctx} {f:FuncId} {F:Fn} (hp:C.prim f=none) (hc:C.code f=some F) (args:List V) (U:Objs):E C f args U=fnK (Mi C) F args U:=by
 have h1:=(Qvc C f args U).shift 1
 have h2:IsLim (fun n=>evK C (n+1) f args U) (fnK (Mi C) F args U):=by
  have e:(fun n=>evK C (n+1) f args U)=fun n=>fnK (mk C.G (evK C n) (n+0)) F args U:=by
   funext n;simp only [evK,hp,hc,Xd2]
  rw [e]
  exact Qhf (Qvc C) 0 F.body (K:=fun _=>⟨finK F.keep F.res U.length,fun _ _ _=>none,finK F.keep F.res U.length⟩) ⟨fun _ _=>IsLim.const _,fun _ _ _=>IsLim.const _,fun _ _=>IsLim.const _⟩ _ _
 exact h1.uniq h2
theorem Qmk {C:Ctx} {f:FuncId} {h:List V→Objs→Ro} (hp:C.prim f=some h) (args:List V) (U:Objs):E C f args U=h args U:=by
 have h1:=(Qvc C f args U).shift 1
 have h2:IsLim (fun n=>evK C (n+1) f args U) (h args U):=by
  have e:(fun n=>evK C (n+1) f args U)=fun n=>h args U:=by funext n;simp only [evK,hp]
  rw [e];exact IsLim.const _
 exact h1.uniq h2
structure Lp where
 nt:Nat
 lin:List Nat
 lout:List Nat
 b:Cd
 K:Kt
def seek (M:Mach) (nt:Nat):List (Nat×Rk)→List Bool→Cd→Kt→Lp
 |ns,p,.seq x y,K=>match p with|false::p=>seek M nt ns p x ⟨fun J U=>cdK M y K J U,K.ex,K.rt⟩|_=>seek M nt ns p.tail y K
 |ns,p,.cond _ x y,K=>match p with|false::p=>seek M nt ns p x K|_=>seek M nt ns p.tail y K
 |ns,p,.block id x,K=>seek M nt ns p x ⟨K.nm,fun i J U=>if i=id then K.nm J U else K.ex i J U,K.rt⟩
 |ns,p,.loop lin lout x,K=>match ns with|[]=>⟨nt,lin,lout,x,K⟩|(n,r)::ns=>seek M nt ns p x (Qpb nt n lin lout K r)
 |_,_,_,K=>⟨nt,[],[],.skip,K⟩
def Lp.F (l:Lp) (M:Mach) (n:Nat):Rk→Rk:=Qha M l.b l.nt n l.lin l.lout l.K
def topK (F:Fn) (n:Nat):Kt:=⟨finK F.keep F.res n,fun _ _ _=>none,finK F.keep F.res n⟩
theorem Qas (C:Ctx) (l:Lp) (n:Nat) {L:Rk} {Bww:Rk→Rk} (hB:l.F (Mi C) n=Bww) (hL:L=fixL Bww) (vs:List V) (U:Objs):L vs U=Bww L vs U:=by
 subst hL
 have h:=Qvb (G:=C.G) (Qvc C) l.b l.nt n l.lin l.lout l.K vs U
 have e:Qha (mkL C.G (E C)) l.b l.nt n l.lin l.lout l.K=Bww:=hB
 rw [e] at h
 exact h
theorem Wgf {C:Ctx} : (Mi C).call=E C:=rfl
def pV (c a b:V):Option V:=
 match c with
 | .bool t=>some (if t then a else b)
 |_=>none
def Qaw (z:List V) (parts:List (Nat×Nat×V)):Option V:=(lay z parts).map V.agg
def mmV (mx:Bool) (args:List V):Option V:=
 match args with
 |x::r=>if (Qf1 x).isSome then Qkp mx x r else none
 |[]=>none
end Go.Ev
namespace Go.Proofs.YtapnplljnpconaaGreatDoor
open Go.Ev
instance (n:Nat):OfNat Arg n:=⟨.t n⟩
def Yi (n:Int):Arg:=.c (.int .i64 n)
def Yt:Arg:=.c (.bool true)
def Yf:Arg:=.c (.bool false)
def Ys (l:List UInt8):Arg:=.c (.str l)
def Y0:V:=.int .i64 0
def Yn:V:=.str []
def Yb:V:=.bool false
def Yv (d:Nat) (x:Arg):Step:=⟨some d,none,.mv x false⟩
def Yu (d:Nat) (x:Arg):Step:=⟨some d,none,.mv x true⟩
def Yk (d:Nat) (i:Ins):Step:=⟨some d,none,i⟩
def Yc (d f:Nat) (xs:List Arg):Step:=⟨some d,none,.call f xs⟩
def Ya (d o:Nat) (x:Arg):Step:=⟨some d,none,.faddr o x⟩
def Yl (d:Nat) (ag:Bool) (sz:Nat) (x:Arg):Step:=⟨some d,none,.load ag sz x⟩
def Yo (d:Nat) (op:BinOp) (k:EqK) (x y:Arg):Step:=⟨some d,none,.bin op k x y⟩
def Ye (d sz:Nat) (x i:Arg):Step:=⟨some d,none,.iaddr sz x i⟩
def Yx (d:Nat) (x:Arg) (i:Nat):Step:=⟨some d,none,.extr x i⟩
def Yh (d:Nat) (x:Arg):Step:=⟨some d,none,.len x⟩
def Yg (d:Nat) (ag:Bool) (o sz:Nat) (x:Arg):Step:=⟨some d,none,.field ag o sz x⟩
def Yw (sz:Nat) (p x:Arg) (tk:Bool):Step:=⟨none,none,.store sz p x tk⟩
def Yq (k:Nat) (l:List Step) (c:Cd):Cd:=.seq (.ops k l) c
def Yr (k:Nat) (l:List Step):Cd:=Yq k l .ret
def Ym (r:Arg) (k:Nat) (l:List Step):Cd:=.cond r (Yr k l) .skip
def Yj:Cd→Cd→Cd:=.seq
def Yz:Arg→Cd→Cd→Cd:=.cond
def Ys1:Nat→List Step→Cd:=.ops
def Vaa a b c:=(⟨some a,(some (b,true)),.mv c false⟩:Step)
def Vab a b:=(⟨some a,(some (b,true)),.mv 0 false⟩:Step)
def Vac a b c:=(⟨some a,(some (b,false)),.mv c false⟩:Step)
def Vad a b c:=(⟨some a,(some (b,true)),.load false 1 c⟩:Step)
def Vae a b c:=(⟨some a,(some (b,false)),.load false 1 c⟩:Step)
def Vaf a b:=(Yo a .add .no b (Yi 1):Step)
def Vag a b c:=(Yk a (.pick b c Yf):Step)
def Vah a b:=(Yl a false 1 b:Step)
def Vai a b c:=(Yo a .eql .no b (Yi c):Step)
def Vaj a b:=(Yo a .eql .no b (Yi 0):Step)
def Vak a b c:=(⟨some a,(some (b,true)),.un .not c⟩:Step)
def Vam a b c d:=(⟨some a,(some (b,true)),.faddr c d⟩:Step)
def Van a b c d:=(⟨some a,(some (b,true)),.call c [d]⟩:Step)
def Vao a b c d:=(⟨some a,(some (b,false)),.bin .eql .no c (Yi d)⟩:Step)
def Vap a b c:=(Yk a (.pick b Yt c):Step)
def Vaq a b c d:=(⟨some a,(some (b,false)),.faddr c d⟩:Step)
def Var a b c:=(Yw a b c false:Step)
def Vas a:=(Yk a (.alloc [Y0,Y0,Yn,Yn,Y0,Yn,Yb,Y0,Y0,Y0,.nils]):Step)
def Vat a b c:=(Yo a .lss .no b c:Step)
def Vau a:=(Yk a (.alloc [Y0,Y0,.nils]):Step)
def Vav a b c d:=(⟨some a,(some (b,false)),.bin .gtr .no c (Yi d)⟩:Step)
def Vaw a:=(Yv a (Yi 0):Step)
def Vax a b c:=(⟨some a,(some (b,false)),.len c⟩:Step)
def Vay a b c d e f:=(⟨some a,(some (b,true)),.call c [d,e,(Yi f)]⟩:Step)
def Vaz a b c d:=(⟨some a,(some (b,true)),.load true c d⟩:Step)
def Va0 a b c d:=(⟨some a,(some (b,true)),.pick c Yt d⟩:Step)
def Va1 a b c:=(⟨some a,(some (b,true)),.bin .add .no c (Yi 1)⟩:Step)
def Va2 a b c:=(⟨some a,(some (b,true)),.len c⟩:Step)
def Va3 a b c:=(⟨some a,(some (b,false)),.un .not c⟩:Step)
def Va4 a b c d e:=(⟨some a,(some (b,true)),.call c [d,e]⟩:Step)
def Va5 a b c d:=(Yk a (.app false false 1 b c d true):Step)
def Va6 a b:=(Yk a (.buildSl false 1 1 Y0 [(0,b)] false):Step)
def Va7 a b c:=(Yl a true b c:Step)
def Va8 a b c d e:=(⟨some a,(some (b,true)),.call c [d,(.f e)]⟩:Step)
def Va9 a:=(Yk a (.buildSl false 1 0 .any [] false):Step)
def Vba a b c d:=(⟨some a,(some (b,false)),.pick c d Yf⟩:Step)
def Vbb a b c d e:=(⟨some a,(some (b,false)),.call c [d,e]⟩:Step)
def Vbc a:=(Yk a (.alloc [Y0,Y0,Y0,Yn,Yn,Yb]):Step)
def Vbd a b c d:=(⟨some a,(some (b,true)),.bin .eql .no c d⟩:Step)
def Vbe a b c d:=(⟨some a,(some (b,false)),.call c [d]⟩:Step)
def Vbf a:=(Yv a Yf:Step)
def Vbg a:=(Yv a (.c .nils):Step)
def Vbh a:=(Yk a (.alloc [.nils,.nils,.nils,.nils,Y0]):Step)
def Vbi a b c d:=(⟨some a,(some (b,false)),.bin .neq .no c d⟩:Step)
def Vbj a b:=(Yk a (.conv (.toInt .u8) b):Step)
def Vbk a b c d:=(⟨some a,(some (b,true)),.bin .eql .no c (Yi d)⟩:Step)
def Vbl a:=(Yk a (.alloc [Y0,Yb,Yn,Yn,Y0,Yn,Yb]):Step)
def Vbm a b:=(Yk a (.un .not b):Step)
def Vbn a b:=(Yk a (.nilc b):Step)
def Vbo a b c d:=(Yc a b [c,d]:Step)
def Vbp a:=(Yv a 0:Step)
def Vbq a b:=(⟨some a,(some (b,true)),.mv 0 true⟩:Step)
def Vbr a b c d:=(⟨some a,(some (b,true)),.bin .lss .no c d⟩:Step)
def Vbs a b:=(Yk a (.build [Y0,Y0,.nils] [(0,1,(Yi b))]):Step)
def Vbt a b c:=(⟨some a,(some (b,true)),.bin .eql .no c (Ys [])⟩:Step)
def Vbu a b c d e:=(⟨some a,(some (b,false)),.iaddr c d e⟩:Step)
def Vbv a:=(Yk a (.build [Y0,Y0,Yn,Yn,Y0,Yn,Yb,Y0,Y0,Y0,.nils] []):Step)
def Vbw a b c d:=(⟨some a,(some (b,true)),.bin .leq .no c (Yi d)⟩:Step)
def Vbx a b c d:=(⟨some a,(some (b,false)),.load true c d⟩:Step)
def Vby a:=(Yk a (.box 1):Step)
def Vbz a:=(Yk a (.box 0):Step)
def Vb0 a b c:=(Yo a .gtr .no b (Yi c):Step)
def Vb1 a b c d:=(⟨some a,(some (b,true)),.bin .lss .no c (Yi d)⟩:Step)
def Vb2 a b c d:=(⟨some a,(some (b,true)),.iaddr 1 c d⟩:Step)
def Vb3 a b c d:=(⟨some a,(some (b,true)),.bin .leq .no c d⟩:Step)
def Vb4 a b c d e:=(Yk a (.app false true b c d e true):Step)
def Vb5 a b c:=(Yo a .add .no b (Yi c):Step)
def Vb6 a b c:=(Yo a .add .no (Yi b) c:Step)
def Vb7 a:=(Yv a (Ys []):Step)
def Vb8 a b c:=(⟨some a,(some (b,true)),.bin .neq .no c (Ys [])⟩:Step)
def Vb9 a:=(Yk a (.build [.nils,.nils,.nils,.nils,Y0] []):Step)
def Vca a b:=(Yk a (.build [Y0,Y0,Yn,Yn,Y0,Yn,Yb,Y0,Y0,Y0,.nils] [(0,1,(Yi b))]):Step)
def Vcb a b:=(Yo a .sub .no b (Yi 1):Step)
def Vcc a:=(Yk a (.alloc [Y0,.nils]):Step)
def Vcd a b c d:=(⟨some a,(some (b,false)),.bin .neq .no c (Yi d)⟩:Step)
def Vce a b c d e f g:=(Yk a (.build [Y0,Y0,.nils] [(b,c,(Yi d)),(e,f,g)]):Step)
def Vcf a:=(Yk a (.alloc [.nils]):Step)
def Vcg a:=(Yk a (.alloc [Y0,.nils,Yn]):Step)
def Vch a b c d e f g:=(Yk a (.build [Y0,Y0,Yn,Yn,Y0,Yn,Yb,Y0,Y0,Y0,.nils] [(b,c,(Yi d)),(e,f,g)]):Step)
def Vci a b c:=(Yk a (.cut 1 b (some (Yi c)) none none):Step)
def Vcj a:=(Yv a 1:Step)
def Vck a b c:=(Yo a .lss .no b (Yi c):Step)
def Vcl a b c:=(Yo a .add .no b c:Step)
def Vcm a b c:=(Yo a .eql .no b c:Step)
def Vcn a b c:=(Yk a (.buildSl true b 1 (.agg [Y0,Y0,Yn,Yn,Y0,Yn,Yb,Y0,Y0,Y0,.nils]) [(0,c)] false):Step)
def Vco a b c:=(⟨some a,(some (b,false)),.lenS c⟩:Step)
def Vcp a b c:=(Yo a .neq .no b (Yi c):Step)
def Vcq a b c:=(Yk a (.app false false 1 1 b c true):Step)
def Vcr a:=(Yv a (.c .nili):Step)
def Vcs a b:=(Yk a (.conv (.toInt .i64) b):Step)
def Vct a b:=(Yk a (.buildSl false 1 1 (.int .u8 0) [(0,b)] false):Step)
def Vcu a b c:=(⟨some a,(some (b,false)),.bin .sub .no c (Yi 1)⟩:Step)
def Vcv a b c:=(⟨some a,(some (b,false)),.bin .add .no c (Yi 1)⟩:Step)
def Vcw a b:=(Yo a .neq .ifc b (.c .nili):Step)
def Vcx a b c:=(Yo a .geq .no b (Yi c):Step)
def Vcy a b c:=(Yo a .quo .no b (Yi c):Step)
def Vcz a b c:=(Yo a .rem .no b (Yi c):Step)
def Vc0 a b c:=(Yk a (.build [Yb,Yn,.nils,.nils,.nils,.nils,.nils,.nils,Y0] [(0,b,c)]):Step)
def Vc1 a b c d:=(⟨some a,(some (b,true)),.bin .add .no c (Yi d)⟩:Step)
def Vc2 a b c d:=(⟨some a,(some (b,false)),.bin .neq .bool c d⟩:Step)
def Vc3 a b c d:=(⟨some a,(some (b,false)),.bin .eql .no c d⟩:Step)
def Vc4 a b c d e f:=(⟨some a,(some (b,false)),.call c [d,e,(Yi f)]⟩:Step)
def Vc5 a b c d:=(⟨some a,(some (b,true)),.bin .add .no c d⟩:Step)
def Vc6 a b c d e:=(Yc a b [c,d,(Yi e)]:Step)
def Vc7 a b c:=(Yo a .neq .no b c:Step)
def Vc8 a b c d e:=(⟨some a,(some (b,false)),.call c [d,e,Yf]⟩:Step)
def Vc9 a b c:=(Yc a b [c]:Step)
def Vda a:=(Yk a (.build [Yb,Yn,.nils,.nils] []):Step)
def Vdb a b c d e:=(Yc a b [c,(Yi d),e]:Step)
def Vdc a:=(Yv a Yt:Step)
def Vdd a b:=(Yv a (Yi b):Step)
def Vde a b c d e f:=(⟨some a,(some (b,false)),.call c [d,e,f]⟩:Step)
def Vdf a b c:=(Yk a (.buildSl true b 1 (.agg [Y0,Y0,.nils]) [(0,c)] false):Step)
def Vdg a b:=(Ya a 0 b:Step)
def Vdh a b c:=(⟨some a,(some (b,true)),.nilc c⟩:Step)
def Vdi a b:=(Yw a b (Ys []) false:Step)
def Vdj a b c:=(Yk a (.mm true [b,c]):Step)
def Vdk a b:=(⟨some a,(some (b,true)),.build [.nils,.nils,.nils,.nils,Y0] []⟩:Step)
def Vdl a b c:=(⟨some a,(some (b,false)),.bin .lss .no c (Yi 0)⟩:Step)
def Vdm a:=(Yk a (.buildSl false 1 1 Y0 [(0,(Yi 0))] false):Step)
def Vdn a b c d e f g h i j k l m:=(Yk a (.build [Y0,Y0,Y0,Yn,Yn,Yb] [(b,c,(Yi d)),(e,f,g),(h,i,j),(k,l,m)]):Step)
def Vdo a b c:=(Yo a .gtr .no b c:Step)
def Vdp a b c:=(⟨some a,(some (b,true)),.bin .sub .no c (Yi 1)⟩:Step)
def Vdq a b c d e f g h i j:=(Yk a (.build [Y0,Y0,Y0,Yn,Yn,Yb] [(b,c,(Yi d)),(e,f,g),(h,i,j)]):Step)
def Vdr a b c d:=(Yk a (.cut 1 b (some c) (some d) none):Step)
def Vds a b:=(Yk a (.buildSl false 1 1 .nils [(0,b)] false):Step)
def Vdt a b c:=(Yk a (.build [Y0,Yn,Yb] [(0,1,b),(1,1,c)]):Step)
def Vdu a b:=(Yk a (.loadT b):Step)
def Vdv a b:=(Yk a (.buildSl false 1 1 Yn [(0,b)] false):Step)
def Vdw a b:=(Yk a (.buildSl true b 0 (.agg []) [] false):Step)
def Vdx a b:=(⟨some a,(some (b,false)),.mv 0 true⟩:Step)
def Vdy a b c d:=(Yk a (.cut b c none (some d) none):Step)
def Vdz a b c:=(Yw a b (Yi c) false:Step)
def Vd0 a:=(Yk a (.build [Y0,Y0] [(1,1,(Yi 1))]):Step)
def Vd1 a b:=(Yk a (.buildSl true 2 1 (.agg [Y0,.nils]) [(0,b)] false):Step)
def Vd2 a b c d:=(⟨some a,(some (b,true)),.bin .and .no c (.c (.int .u64 d))⟩:Step)
def Vd3 a b:=(Ya a 1 b:Step)
def Vd4 a b c:=(Yo a .leq .no b (Yi c):Step)
def Vd5 a b c d:=(⟨some a,(some (b,true)),.bin .eql (.agg [.i,.s,.b]) c d⟩:Step)
def Vd6 a b:=(Yg a false 0 1 b:Step)
def Vd7 a b c d e:=(Yc a b [c,d,(Ys [e])]:Step)
def Vd8 a b:=(Yk a (.box b):Step)
def Vd9 a b c:=(⟨some a,(some (b,true)),.bin .eql .ifc c (.c .nili)⟩:Step)
def Vea a b:=(⟨some a,(some (b,true)),.build [Y0,Yn,Yb] []⟩:Step)
def Veb a b c d:=(⟨some a,(some (b,true)),.bin .eql (.agg [.i,.i]) c d⟩:Step)
def Vec a b:=(Yk a (.lenS b):Step)
def Ved a b:=(Yk a (.build [Y0,.nils] [(0,1,b)]):Step)
def Vee a:=(Yk a (.alloc [Y0,Y0]):Step)
def Vef a b c d e f g:=(Yk a (.build [Y0,Yb,Yn,Yn,Y0,Yn,Yb] [(b,c,(Yi d)),(e,f,g)]):Step)
def Veg a b c d e f:=(⟨some a,(some (b,false)),.call c [d,(.c (.int .u8 e)),f]⟩:Step)
def Veh a b:=(⟨some a,(some (b,true)),.build [Y0,Y0] []⟩:Step)
def Vei a b:=(Yk a (.conv .strBytes b):Step)
def Vej a b:=(Yk a (.conv .bytesStr b):Step)
def Vek a b c d:=(⟨some a,(some (b,true)),.bin .geq .no c (Yi (-d))⟩:Step)
def Vel a b:=(Yo a .eql .no b (Ys []):Step)
def Vem a b c d:=(⟨some a,(some (b,false)),.bin .geq .no c (Yi d)⟩:Step)
def Ven a b c d e:=(⟨some a,(some (b,true)),.bin .eql .no c (Ys [d,e])⟩:Step)
def Veo a b c d e f g h i j k:=(Yo a .eql .no b (Ys [c,d,e,f,g,h,i,j,k]):Step)
def Vep a b:=(Yo a .eql .no b (.c (.int .u8 0)):Step)
def Veq a b c:=(Yo a .eql (.agg [.i,.b,.s,.s,.i,.s,.b]) b c:Step)
def Ver a:=(Yk a (.build [Y0,Y0,Y0,Yn,Yn,Yb] []):Step)
def Ves a b c d:=(Yk a (.build [Y0,Yb,Yn,Yn,Y0,Yn,Yb] [(0,1,(Yi 2)),(1,1,Yt),(3,1,b),(c,3,d)]):Step)
def Vet a b c:=(Ye a 1 b c:Step)
def Veu a b c d:=(⟨some a,(some (b,false)),.bin .geq .no c d⟩:Step)
def Vev a b c d:=(⟨some a,(some (b,false)),.bin .add .no c d⟩:Step)
def Vew a b c d:=(⟨some a,(some (b,false)),.bin .lss .no c d⟩:Step)
def Vex a b:=(Yx a b 0:Step)
def Vey a b:=(Yx a b 1:Step)
def Vez a:=(Yu a 0:Step)
def Ve0 a b c d e f:=(⟨some a,(some (b,false)),.call c [d,e,(Ys [f])]⟩:Step)
def Ve1 a:=(Yv a (Yi (-1)):Step)
def Ve2 a b c d e f g:=(Yc a b [c,(Ys [d,e,f,g]),(Yi 1),(Ys [])]:Step)
def Ve3 a b c d e:=(Yc a b [c,d,e]:Step)
def Ve4 a b c:=(Yc a b [(Yi c),(Yi 0)]:Step)
def Ve5 a b c d:=(⟨some a,(some (b,true)),.mm false [c,d]⟩:Step)
def Ve6 a b c d e f:=(⟨some a,(some (b,true)),.call c [d,e,(Ys [f])]⟩:Step)
def Ve7 a b c d:=(Yk a (.build [Y0,Y0,Yn,Yn,Y0,Yn,Yb,Y0,Y0,Y0,.nils] [(0,1,b),(c,1,d)]):Step)
def Ve8 a b c d:=(Yk a (.build [.nils,Yb,Yn,.nils,.nils,Y0,Y0,Y0,Yb] [(0,1,b),(1,c,d)]):Step)
def Ve9 a b c d e:=(⟨some a,(some (b,true)),.call c [d,e,Yf]⟩:Step)
theorem X0k {p:Prop} (h:p:=by kernel_rfl):p:=h
def X0Lb (f:Rk→V→Objs→Ro):Rk→Rk:=fun r vs U=>f r (vs.getD 0 .undef) U
def X0Lc (f:Rk→V→V→Objs→Ro):Rk→Rk:=fun r vs U=>f r (vs.getD 0 .undef) (vs.getD 1 .undef) U
def X0Ld (f:Rk→V→V→V→Objs→Ro):Rk→Rk:=fun r vs U=>f r (vs.getD 0 .undef) (vs.getD 1 .undef) (vs.getD 2 .undef) U
def X0Le (f:Rk→V→V→V→V→Objs→Ro):Rk→Rk:=fun r vs U=>f r (vs.getD 0 .undef) (vs.getD 1 .undef) (vs.getD 2 .undef) (vs.getD 3 .undef) U
def X0Lf (f:Rk→V→V→V→V→V→Objs→Ro):Rk→Rk:=fun r vs U=>f r (vs.getD 0 .undef) (vs.getD 1 .undef) (vs.getD 2 .undef) (vs.getD 3 .undef) (vs.getD 4 .undef) U
def X0Lg (f:Rk→V→V→V→V→V→V→Objs→Ro):Rk→Rk:=fun r vs U=>f r (vs.getD 0 .undef) (vs.getD 1 .undef) (vs.getD 2 .undef) (vs.getD 3 .undef) (vs.getD 4 .undef) (vs.getD 5 .undef) U
def X0Lh (f:Rk→V→V→V→V→V→V→V→Objs→Ro):Rk→Rk:=fun r vs U=>f r (vs.getD 0 .undef) (vs.getD 1 .undef) (vs.getD 2 .undef) (vs.getD 3 .undef) (vs.getD 4 .undef) (vs.getD 5 .undef) (vs.getD 6 .undef) U
def X0Li (f:Rk→V→V→V→V→V→V→V→V→Objs→Ro):Rk→Rk:=fun r vs U=>f r (vs.getD 0 .undef) (vs.getD 1 .undef) (vs.getD 2 .undef) (vs.getD 3 .undef) (vs.getD 4 .undef) (vs.getD 5 .undef) (vs.getD 6 .undef) (vs.getD 7 .undef) U
def X0Lj (f:Rk→V→V→V→V→V→V→V→V→V→Objs→Ro):Rk→Rk:=fun r vs U=>f r (vs.getD 0 .undef) (vs.getD 1 .undef) (vs.getD 2 .undef) (vs.getD 3 .undef) (vs.getD 4 .undef) (vs.getD 5 .undef) (vs.getD 6 .undef) (vs.getD 7 .undef) (vs.getD 8 .undef) U
def X0Lk (f:Rk→V→V→V→V→V→V→V→V→V→V→Objs→Ro):Rk→Rk:=fun r vs U=>f r (vs.getD 0 .undef) (vs.getD 1 .undef) (vs.getD 2 .undef) (vs.getD 3 .undef) (vs.getD 4 .undef) (vs.getD 5 .undef) (vs.getD 6 .undef) (vs.getD 7 .undef) (vs.getD 8 .undef) (vs.getD 9 .undef) U
def X0Ll (f:Rk→V→V→V→V→V→V→V→V→V→V→V→Objs→Ro):Rk→Rk:=fun r vs U=>f r (vs.getD 0 .undef) (vs.getD 1 .undef) (vs.getD 2 .undef) (vs.getD 3 .undef) (vs.getD 4 .undef) (vs.getD 5 .undef) (vs.getD 6 .undef) (vs.getD 7 .undef) (vs.getD 8 .undef) (vs.getD 9 .undef) (vs.getD 10 .undef) U
section
variable (M:Mach) (n0 n1:Nat) (r1:Rk) (n2:Nat) (r2:Rk) (n3:Nat) (r3:Rk) (n4:Nat) (r4:Rk) (n5:Nat) (a0 a1 a2 a3 a4 a5 a6 a7 a8 a9 a10 a11:V) (z0 z1 z2 z3 z4 z5 z6 z7 z8 z9 z10 z11 z12 z13 z14 z15 z16 z17 z18 z19 z20 z21 z22 z23 z30 z31 z32 z53 z54 z55 z68 z69 z70 z71 z86:V) (U:Objs)
def c_Z22:Ev.Fn:=⟨107,[.tmp 4],false,false,(Yq 0 [Vby 3,Vbf 4] (Yj (Yq 1 [Yc 16 6 [],Vbm 17 16] (Ym 17 2 [Vbf 4])) (Yj (Yq 3 [Vbp 18,Va7 19 4 3,Vc6 20 7 18 19 100] (Ym 20 4 [Vdc 4])) (Yq 5 [Vbp 22,Va7 23 4 3,Vbo 24 8 22 23,Yv 21 24,Vex 25 21,Vey 26 21,Vbh 5,Var 5 5 25,Yv 6 26] (Yj (Yq 6 [Yv 27 6,Vcw 28 27] (Ym 28 7 [Vdc 4])) (Yq 8 [Vaw 7] (Yj (Yq 9 [Vd3 29 5,Vah 30 29,Yh 31 30,Vaw 32] (.block 0 (.loop [0,5,7,30,31,32] [0,4,5,7] (Yq 10 [Vat 33 32 31] (Yj (Yz 33 .skip (.exit 0)) (Yj (.block 1 (Yq 11 [Yv 34 32,Ye 35 3 30 32,Va7 36 3 35,Vcg 9,Yv 8 34,Var 3 9 36] (Yj (Yq 12 [Vdg 37 9,Vah 38 37,Yv 39 7,Vc7 40 38 39,Yv 41 40,Vaq 42 41 1 9,Vae 43 41 42,Vax 44 41 43,Vao 45 41 44 0,Vap 46 41 45] (Ym 46 13 [Vbf 4])) (Yq 14 [Yv 47 7,Vd3 48 9,Vah 49 48,Yh 50 49,Vcl 51 47 50,Yv 7 51] (Yq 15 [Vd3 52 9,Vah 53 52,Yh 54 53,Vaw 55] (.block 2 (.loop [0,5,7,8,30,31,32,53,54,55] [0,4,5,7,30,31,32] (Yq 16 [Vat 56 55 54] (Yj (Yz 56 .skip (.exit 2)) (Yj (.block 3 (Yq 17 [Ye 57 2 53 55,Va7 58 2 57,Vcc 11,Var 2 11 58] (Yq 18 [Vd3 59 11,Vah 60 59,Va7 61 5 5,Yv 62 8,Ve3 63 9 60 61 62,Vbm 64 63] (Ym 64 19 [Vbf 4])))) (Ys1 20 [Vaf 65 55,Yv 55 65]))))))))))) (Ys1 21 [Vaf 66 32,Yv 32 66]))))))) (Yj (Yq 22 [Vdg 67 5,Vah 68 67,Yh 69 68,Vaw 70] (.block 4 (.loop [0,5,7,68,69,70] [0,4,5,7] (Yq 23 [Vat 71 70 69] (Yj (Yz 71 .skip (.exit 4)) (Yj (.block 5 (Yq 24 [Yv 72 70,Ye 73 7 68 70,Va7 74 7 73,Vbl 13,Yv 12 72,Var 7 13 74] (Yq 25 [Vdg 75 5,Vah 76 75,Yv 77 12,Vdy 78 7 76 77,Yh 79 78,Vaw 80] (.block 6 (.loop [0,5,7,13,68,69,70,78,79,80] [0,4,5,7,68,69,70] (Yq 26 [Vat 81 80 79] (Yj (Yz 81 .skip (.exit 6)) (Yj (.block 7 (Yq 27 [Ye 82 7 78 80,Va7 83 7 82,Vbl 15,Var 7 15 83] (Yq 28 [Va7 84 7 13,Va7 85 7 15,Veq 86 84 85] (Ym 86 29 [Vbf 4])))) (Ys1 30 [Vaf 87 80,Yv 80 87]))))))))) (Ys1 31 [Vaf 88 70,Yv 70 88]))))))) (Yr 32 [Yv 89 7,Ya 90 4 5,Vah 91 90,Vcm 92 89 91,Yv 93 92,Vam 94 93 0 5,Vad 95 93 94,Van 96 93 10 95,Vb1 97 93 96 0,Vag 98 93 97,Yv 99 98,Vam 100 99 3 5,Vad 101 99 100,Va2 102 99 101,Vbq 103 99,Va2 104 99 103,Vbd 105 99 102 104,Vag 106 99 105,Yv 4 106])))))))))⟩
theorem ok_c_Z22:Qao prog 3 c_Z22=true:=Qac func3 X0k
def UG (vs:List V) (i:Nat):V:=vs.getD i .undef
def UY (n:Nat) (U:Objs):List V→(List V→Ro)→Ro
 |[],f=>f []
 |z::zs,f=>bd (fz n U fzD z) fun y=>UY n U zs fun ys=>f (y::ys)
def UF (n:Nat) (U:Objs) (zs:List V) (r:Rk):Ro:=UY n U zs fun ys=>bd (cuO n U) fun s=>r ys s
theorem UY_n {n:Nat} {U:Objs} {f:List V→Ro} : UY n U [] f=f []:=rfl
theorem UY_c {n:Nat} {U:Objs} {f:List V→Ro} {z:V} {zs:List V} : UY n U (z::zs) f=bd (fz n U fzD z) fun y=>UY n U zs fun ys=>f (y::ys):=rfl
section
variable (a b c d e i j k l t u v w:V) (r s:Objs) (n m o p q h y z A Bww C Dww:Nat) (E F G Hww I:Int) (M:Mach) (f:V→Ro) (g:V×Objs→Ro) (x:Objs→Ro)
def Uaa:=bd (fz r.length r fzD a) f
def Uab:=bd (pu (pV a.ng.ng b.ng (.bool false))) f
def Uac:=bd (pu (eL r false 1 a.ng)) f
def Uad:=bd (pu (pV a.ng.ng (.bool true) b.ng)) f
def Uae:=bd (fz n r fzD a) f
def Uaf:=bd (pu (eF n a.ng)) f
def Uag:=bd (gdv a.ng false (pu (eL r false 1 b.ng))) f
def Uah:=bd (gdv a.ng false (some b.ng)) f
def Uai:=bd (pu (eB .eql .no a.ng (.int .i64 E))) f
def Uaj:=bd (fz r.length r fzD (.int .i64 E)) f
def Uak:=bd (gdv a.ng true (some b.ng)) f
def Ual:=bd (pu (eB .lss .no a.ng.ng b.ng)) f
def Uam:=bd (pu (Qai a.ng)) f
def Uan:=bd (gdv a.ng true (some b.ng.ng)) f
def Uao:=bd (stV r n (.ptr s.length m) a.ng a.ng) g
def Uap:=bd (pu (eB .add .no a.ng.ng (.int .i64 1))) f
def Uaq:=bd (pu (eL r true n a.ng)) f
def Uar:=bd (fz n r fzD .any) f
def Uas:=bd (gdv a.ng false (pu (eF n b.ng))) f
def Uat:=bd (pu (Qa4 a.ng.ng)) f
def Uau:=bd (pu (Qai a.ng.ng)) f
def Uav:=bd (gdv a.ng true (pu (evUn .not b.ng))) f
def Uaw:=bd (pu (eB .lss .no a.ng b.ng)) f
def Uax:=bd (gdv a.ng true (pu (eL r false 1 b.ng))) f
def Uay:=bd (cuO n r) x
def Uaz:=bd (boxV r a.ng) g
def Ua0:=bd (pu (eB .add .no a.ng (.int .i64 1))) f
def Ua1:=bd (gdp a.ng true (M.call n [b.ng] r) r) g
def Ua2:=bd (fz r.length r fzD a.ng) f
def Ua3:=bd (stV r n a.ng b.ng b.ng) g
def Ua4:=bd (gdv a.ng false (pu (eB .eql .no b.ng (.int .i64 E)))) f
def Ua5:=bd (gdv a.ng false (pu (Qai b.ng))) f
def Ua6:=bd (fz n r fzD (.bool false)) f
def Ua7:=bd (gdv a.ng false (pu (evUn .not b.ng))) f
def Ua8:=bd (gdv a.ng true (pu (pV b.ng (.bool true) c.ng))) f
def Ua9:=bd (gdv a.ng true (pu (eF n b.ng))) f
def Uba:=bd (resC r true 3 (.ptr s.length 0)) f
def Ubb:=bd (pu (eI n a.ng.ng b.ng.ng)) f
def Ubc:=bd (pu (eC r (.toInt .u64) a.ng)) f
def Ubd:=bd (pu (eB .gtr .no a.ng (.int .i64 E))) f
def Ube:=bd (pu (eI n a.ng.ng b.ng)) f
def Ubf:=bd (gdv a.ng false (pu (eB .gtr .no b.ng (.int .i64 E)))) f
def Ubg:=bd (gdv a.ng true (pu (eB .eql .no b.ng c.ng))) f
def Ubh:=bd (pu (evUn .not a.ng)) f
def Ubi:=bd (pu (eB .neq .no a.ng b.ng)) f
def Ubj:=bd (M.call n [a.ng.ng,b.ng] r) g
def Ubk:=bd (pu (eX n a.ng.ng)) f
def Ubl:=bd (fz r.length r fzD (.ptr s.length 0)) f
def Ubm:=bd (pu (eI n a.ng b.ng)) f
def Ubn:=bd (gdv a.ng false (pu (eB .neq .no b.ng c.ng))) f
def Ubo:=bd (Qam true 3 1 (.agg [(.int .i64 0),(.int .i64 0),.nils]) [(0,a.ng)]) f
def Ubp:=bd (gdv a.ng false (pu (eI n b.ng c.ng))) f
def Ubq:=bd (pu (eF n (.ptr r.length m))) f
def Ubr:=bd (M.call n [a.ng] r) g
def Ubs:=bd (pu (eF 0 (.ptr r.length 0))) f
def Ubt:=bd (pu (eB .or .no a.ng b.ng)) f
def Ubu:=bd (gdv a.ng true (pu (eF n (.ptr r.length m)))) f
def Ubv:=bd (pu (eC r (.toInt .u8) a.ng)) f
def Ubw:=bd (gdv a.ng false (pu (eB .lss .no b.ng c.ng))) f
def Ubx:=bd (gdv a.ng false (pu (eI n (.int .i64 E) b.ng))) f
def Uby:=bd (gdv a.ng true (pu (Qai b.ng))) f
def Ubz:=bd (pu (eB .sub .no a.ng (.int .i64 E))) f
def Ub0:=bd (gdv a.ng false (pu (pV b.ng c.ng (.bool false)))) f
def Ub1:=bd (pu (eL r true n (.ptr s.length m))) f
def Ub2:=bd (pu (Qaw [(.int .i64 E),(.int .i64 E),.nils] [(n,m,(.int .i64 F))])) f
def Ub3:=bd (gdv a.ng true (pu (eL r true n b.ng))) f
def Ub4:=bd (resC r true n a) f
def Ub5:=bd (pu (eI n (.int .i64 E) a.ng.ng)) f
def Ub6:=bd (gdv a.ng true (pu (eB .eql .no b.ng (.str [])))) f
def Ub7:=bd (pu (eB .eql .no a.ng.ng.ng (.int .i64 E))) f
def Ub8:=bd (appV false false n m r a b.ng) f
def Ub9:=bd (gdv a.ng false (some b.ng.ng)) f
def Uca:=bd (pu (eB .shl .no a.ng (.int .u64 E))) f
def Ucb:=bd (gdp a.ng true (M.call n [b.ng,(.fn m [] [])] r) r) g
def Ucc:=bd (fz r.length r fzD .nils) f
def Ucd:=bd (pu (eB .eql (.agg [.i,.b,.s,.s,.i,.s,.b]) a.ng b.ng)) f
def Uce:=bd (gdv a.ng true (pu (eB .add .no b.ng (.int .i64 E)))) f
def Ucf:=bd (gdv a.ng true (pu (eL r true 5 (.ptr s.length 0)))) f
def Ucg:=bd (pu (Qaw [(.int .i64 E),(.int .i64 E),.nils] [(n,m,(.int .i64 F)),(o,m,a.ng)])) f
def Uch:=bd (pu (eB .add .no (.int .i64 E) a.ng)) f
def Uci:=bd (gdp a.ng true (M.call n [b.ng,c.ng] r) r) g
def Ucj:=bd (gdv a.ng true (pu (eB .lss .no b.ng c.ng))) f
def Uck:=bd (gdv a.ng true (pu (eB .leq .no b.ng c.ng))) f
def Ucl:=bd (gdv a.ng true (pu (eB .or .no b.ng c.ng))) f
def Ucm:=bd (pu (eB .neq .ifc a.ng.ng.ng .nili)) f
def Ucn:=bd (M.call n [a.ng,b.ng] r) g
def Uco:=bd (pu (Qaw [(.int .i64 E),(.bool false),(.str []),(.str []),(.int .i64 E),(.str []),(.bool false)] [(n,m,(.int .i64 F)),(o,m,a.ng)])) f
def Ucp:=bd (Qam true 3 2 (.agg [(.int .i64 0),(.int .i64 0),.nils]) [(0,a.ng),(1,b.ng)]) f
def Ucq:=bd (gdv a.ng false (pu (eF 0 (.ptr r.length 0)))) f
def Ucr:=bd (appV false true n m r a b.ng) f
def Ucs:=bd (pu (Qaw [(.int .i64 E),(.int .i64 E),.nils] [(n,m,(.int .i64 F)),(m,m,a.ng)])) f
def Uct:=bd (stV r 1 a.ng b.ng b) g
def Ucu:=bd (Qbt r a.ng) g
def Ucv:=bd (pu (eB .neq .no a.ng (.int .i64 E))) f
def Ucw:=bd (pu (eB .lss .no a.ng (.int .i64 E))) f
def Ucx:=bd (gdv a false (pu (eL r false 1 b.ng))) f
def Ucy:=bd (gdv a.ng true (pu (eB .lss .no b.ng (.int .i64 E)))) f
def Ucz:=bd (gdv a.ng true (pu (eB .eql .no b.ng (.int .i64 E)))) f
def Uc0:=bd (pu (eC r (.toInt .i64) a.ng)) f
def Uc1:=bd (pu (eB .geq .no a.ng (.int .i64 0))) f
def Uc2:=bd (gdv a true (some b.ng)) f
def Uc3:=bd (pu (eB .lss .no a.ng.ng (.int .i64 E))) f
def Uc4:=bd (gdv a.ng true (pu (eC r .bytesStrN b.ng))) f
def Uc5:=bd (pu (eB .quo .no a.ng.ng (.int .i64 E))) f
def Uc6:=bd (pu (Qaw [(.int .i64 0),(.bool false),(.str []),(.str []),(.int .i64 0),(.str []),(.bool false)] [(0,1,(.int .i64 2)),(1,1,(.bool true)),(3,1,a.ng.ng),(4,3,b.ng)])) f
def Uc7:=bd (pu (eF 0 a.ng)) f
def Uc8:=bd (gdp a.ng false (M.call n [b.ng] r) r) g
def Uc9:=bd (gdv a.ng false (pu (eF 1 (.ptr r.length 0)))) f
def Uda:=bd (gdp a.ng true (M.call n [b.ng,c.ng,(.int .i64 E)] r) r) g
def Udb:=bd (pu (eB .add .no a.ng.ng b.ng.ng.ng)) f
def Udc:=bd (pu (Qbm n a.ng (some (.int .i64 E)) none none)) f
def Udd:=bd (gdv a.ng true (pu (Qbm n b.ng (some (.int .i64 E)) none none))) f
def Ude:=bd (pu (eB .add .no a.ng.ng.ng (.int .i64 E))) f
def Udf:=bd (gdv a true (pu (evUn .not b.ng))) f
def Udg:=bd (pu (eB .add .no a.ng.ng b.ng.ng)) f
def Udh:=bd (Qam false 1 0 .any []) f
def Udi:=bd (fz n r fzD (.bool true)) f
def Udj:=bd (Qam false 1 1 (.int .i64 0) [(0,a.ng.ng.ng)]) f
def Udk:=bd (gdv a.ng false (pu (Qfw b.ng))) f
def Udl:=bd (gdv a.ng false (pu (eB .neq .no b.ng (.str [])))) f
def Udm:=bd (pu (eB .eql .no a.ng.ng b.ng)) f
def Udn:=bd (pu (eB .eql .no a.ng b.ng.ng)) f
def Udo:=bd (pu (eB .gtr .no a.ng.ng b.ng)) f
def Udp:=bd (gdv a.ng true (pu (eB .neq .no b.ng (.str [])))) f
def Udq:=bd (gdv a.ng true (pu (eB .and .no b.ng (.int .u64 9259542123273814144)))) f
def Udr:=bd (Qam true 7 1 (.agg [(.int .i64 0),(.bool false),(.str []),(.str []),(.int .i64 0),(.str []),(.bool false)]) [(0,a.ng)]) f
def Uds:=bd (pu (Qaw [.nils,.nils,.nils,.nils,(.int .i64 0)] [])) f
def Udt:=bd (Qam false 1 1 (.int .i64 0) [(0,a.ng)]) f
def Udu:=bd (pu (eF 1 a.ng)) f
def Udv:=bd (pu (eB .add .no a.ng b.ng)) f
def Udw:=bd (gdv a.ng false (pu (eB .neq .bool b.ng c.ng))) f
def Udx:=bd (M.call n [a.ng.ng] r) g
def Udy:=bd (pu (evUn .not a.ng.ng)) f
def Udz:=bd (pu (pV a.ng.ng.ng.ng b.ng (.bool false))) f
def Ud0:=bd (pu (Qaw [(.bool false),(.str []),.nils,.nils,.nils,.nils,.nils,.nils,(.int .i64 0)] [(0,4,a.ng)])) f
def Ud1:=bd (gdv a true (pu (pV b.ng (.bool true) c.ng))) f
def Ud2:=bd (fz r.length r fzD (.int .i64 0)) f
def Ud3:=bd (M.call n [a.ng,b.ng.ng] r) g
def Ud4:=bd (stV r 3 (.ptr s.length 0) a.ng a.ng) g
def Ud5:=bd (gdv a.ng true (pu (eB .add .no b.ng c.ng))) f
def Ud6:=bd (pu (eB .eql .no a.ng.ng (.int .i64 E))) f
def Ud7:=bd (pu (pV a.ng.ng.ng b.ng (.bool false))) f
def Ud8:=bd (gdv a.ng false (pu (eB .lss .no b.ng (.int .u8 128)))) f
def Ud9:=bd (gdv a.ng false (pu (eB .lss .no (.int .u8 191) b.ng))) f
def Uea:=bd (eC r .strBytes a.ng.ng) f
def Ueb:=bd (pu (eB .mul .no a.ng.ng b.ng.ng.ng)) f
def Uec:=bd (gdv a.ng true (pu (eB .eql .no b.ng (.int .u64 0)))) f
def Ued:=bd (pu (Qaw [(.int .i64 E),(.int .i64 E),(.int .i64 E),(.str []),(.str []),(.bool false)] [(n,m,(.int .i64 F)),(m,m,a.ng.ng.ng),(o,m,b.ng)])) f
def Uee:=bd (fz n r fzD a.ng) f
def Uef:=bd (fz n r fzD a.ng.ng) f
def Ueg:=bd (pu (Qaw [(.int .i64 0),(.int .i64 0),.nils] [(0,1,(.int .i64 1)),(1,1,a.ng.ng)])) f
def Ueh:=bd (gdv a false (pu (eF n b.ng))) f
def Uei:=bd (gdv a.ng false (pu (eB .neq .no b.ng (.int .i64 E)))) f
def Uej:=bd (pu (eB .rem .no a.ng.ng b.ng.ng)) f
def Uek:=bd (pu (eB .geq .no a.ng.ng.ng b.ng)) f
def Uel:=bd (stV r 1 a.ng (.str []) (.str [])) g
def Uem:=bd (gdv a.ng true (pu (eB .leq .no b.ng (.int .i64 E)))) f
def Uen:=bd (pu (eF 4 a.ng)) f
def Ueo:=bd (gdv a.ng.ng true (some b.ng.ng)) f
def Uep:=bd (pu (eB .lss .no a.ng.ng.ng (.int .i64 0))) f
def Ueq:=bd (gdv a.ng true (some b.ng.ng.ng)) f
def Uer:=bd (pu (eB .sub .no a.ng.ng.ng (.int .i64 1))) f
def Ues:=bd (pu (Qaw [(.int .i64 0),(.str []),(.bool false)] [(0,1,a.ng.ng),(1,1,b.ng.ng)])) f
def Uet:=bd (pu (eB .rem .no a.ng.ng (.int .i64 64))) f
def Ueu:=bd (pu (eB .add .no a.ng.ng b.ng)) f
def Uev:=bd (pu (mmV true [a.ng.ng,b.ng])) f
def Uew:=bd (pu (eB .quo .no a.ng.ng b.ng)) f
def Uex:=bd (gdp a.ng false (M.call n [b.ng,c.ng] r) r) g
end
attribute [go_sem ↓] UY_n UY_c UF UG Uaa Uab Uac Uad Uae Uaf Uag Uah Uai Uaj Uak Ual Uam Uan Uao Uap Uaq Uar Uas Uat Uau Uav Uaw Uax Uay Uaz Ua0 Ua1 Ua2 Ua3 Ua4 Ua5 Ua6 Ua7 Ua8 Ua9 Uba Ubb Ubc Ubd Ube Ubf Ubg Ubh Ubi Ubj Ubk Ubl Ubm Ubn Ubo Ubp Ubq Ubr Ubs Ubt Ubu Ubv Ubw Ubx Uby Ubz Ub0 Ub1 Ub2 Ub3 Ub4 Ub5 Ub6 Ub7 Ub8 Ub9 Uca Ucb Ucc Ucd Uce Ucf Ucg Uch Uci Ucj Uck Ucl Ucm Ucn Uco Ucp Ucq Ucr Ucs Uct Ucu Ucv Ucw Ucx Ucy Ucz Uc0 Uc1 Uc2 Uc3 Uc4 Uc5 Uc6 Uc7 Uc8 Uc9 Uda Udb Udc Udd Ude Udf Udg Udh Udi Udj Udk Udl Udm Udn Udo Udp Udq Udr Uds Udt Udu Udv Udw Udx Udy Udz Ud0 Ud1 Ud2 Ud3 Ud4 Ud5 Ud6 Ud7 Ud8 Ud9 Uea Ueb Uec Ued Uee Uef Ueg Ueh Uei Uej Uek Uel Uem Uen Ueo Uep Ueq Uer Ues Uet Ueu Uev Uew Uex
def j_Z22_0 (M:Mach) (n0:Nat) (n1:Nat) (r1:Rk) (z0 z4 z5 z7:V) (U:Objs):Ro:=Uae z0 U n1 fun y15=> Uae z4 U n1 fun y16=> Uae z5 U n1 fun y17=> Uae z7 U n1 fun y18=> Uay U n1 fun s19=> bd (oK false y16) (nK n0 s19)
def b_Z22_1:=Uaw z55 z54 fun x40=> br x40.ng (Ubm z55 z53 2 fun x41=> Uaq x41 U 2 fun x42=>
 let s43:Objs:=U++[.cells [(.int .i64 0),.nils]]
 Uao x42 s43 U 2 0 fun p44=> Ubq U 1 0 fun x45=> Uac x45 p44.2 fun x46=> Uaq z5 p44.2 5 fun x47=> bd (M.call 9 [x46.ng,x47.ng,z8.ng.ng] p44.2) fun p48=> Ubh p48.1 fun x49=> br x49.ng (Uae z0 p48.2 n2 fun y50=> Ua6 p48.2 n2 fun y51=> Uae z5 p48.2 n2 fun y52=> Uae z7 p48.2 n2 fun y53=> Uae z30 p48.2 n2 fun y54=> Uae z31 p48.2 n2 fun y55=> Uae z32 p48.2 n2 fun y56=> Uay p48.2 n2 fun s57=> j_Z22_0 M n0 n1 r1 y50 y51 y52 y53 s57) (Ua0 z55 fun x58=> UF n2 p48.2 [z0,z5,z7,z8,z30,z31,z32,z53,z54,x58.ng] r2)) (Uae z0 U n2 fun y70=> Uar U n2 fun y71=> Uae z5 U n2 fun y72=> Uae z7 U n2 fun y73=> Uae z30 U n2 fun y74=> Uae z31 U n2 fun y75=> Uae z32 U n2 fun y76=> Uay U n2 fun s77=> Ua0 y76 fun x78=> UF n1 s77 [y70,y72,y73,y74,y75,x78.ng] r1)
def l_Z22_1:=M.fx (X0Lk (b_Z22_1 M n0 n1 r1 n2))
def b_Z22_3 (M:Mach) (n0:Nat) (n1:Nat) (r1:Rk) (n2:Nat) (r2:Rk) (z0 z5 z7 z13 z68 z69 z70 z78 z79 z80:V) (U:Objs):Ro:=Uaw z80 z79 fun x113=> br x113.ng (Ubm z80 z78 7 fun x114=> Uaq x114 U 7 fun x115=>
 let s116:Objs:=U++[.cells [(.int .i64 0),(.bool false),(.str []),(.str []),(.int .i64 0),(.str []),(.bool false)]]
 Uao x115 s116 U 7 0 fun p117=> Uaq z13 p117.2 7 fun x118=> Ub1 p117.2 U 7 0 fun x119=> Ucd x118 x119 fun x120=> br x120.ng (Uae z0 p117.2 n2 fun y121=> Ua6 p117.2 n2 fun y122=> Uae z5 p117.2 n2 fun y123=> Uae z7 p117.2 n2 fun y124=> Uae z68 p117.2 n2 fun y125=> Uae z69 p117.2 n2 fun y126=> Uae z70 p117.2 n2 fun y127=> Uay p117.2 n2 fun s128=> Uae y121 s128 n1 fun y129=> Uae y122 s128 n1 fun y130=> Uae y123 s128 n1 fun y131=> Uae y124 s128 n1 fun y132=> Uay s128 n1 fun s133=> bd (oK false y130) (nK n0 s133)) (Ua0 z80 fun x134=> UF n2 p117.2 [z0,z5,z7,z13,z68,z69,z70,z78,z79,x134.ng] r2)) (Uae z0 U n2 fun y146=> Uar U n2 fun y147=> Uae z5 U n2 fun y148=> Uae z7 U n2 fun y149=> Uae z68 U n2 fun y150=> Uae z69 U n2 fun y151=> Uae z70 U n2 fun y152=> Uay U n2 fun s153=> Ua0 y152 fun x154=> UF n1 s153 [y146,y148,y149,y150,y151,x154.ng] r1)
def l_Z22_3:=M.fx (X0Lk (b_Z22_3 M n0 n1 r1 n2))
def b_Z22_2:=Uaw z70 z69 fun x104=> br x104.ng (Ubm z70 z68 7 fun x105=> Uaq x105 U 7 fun x106=>
 let s107:Objs:=U++[.cells [(.int .i64 0),(.bool false),(.str []),(.str []),(.int .i64 0),(.str []),(.bool false)]]
 Uao x106 s107 U 7 0 fun p108=> Uc7 z5 fun x109=> Uac x109 p108.2 fun x110=> bd (pu (Qbm 7 x110.ng none (some z70.ng.ng.ng.ng) none)) fun x111=> Uam x111 fun x112=> Uaa z0 p108.2 fun y162=> Uaa z5 p108.2 fun y163=> Uaa z7 p108.2 fun y164=> Ubl p108.2 U fun y165=> Uaa z68 p108.2 fun y166=> Uaa z69 p108.2 fun y167=> Uaa z70 p108.2 fun y168=> Uaa x111 p108.2 fun y169=> Uaa x112 p108.2 fun y170=> Ud2 p108.2 fun y171=> l_Z22_3 M n0 n1 r1 p108.2.length [y162,y163,y164,y165,y166,y167,y168,y169,y170,y171] p108.2) (Uae z0 U n1 fun y172=> Uar U n1 fun y173=> Uae z5 U n1 fun y174=> Uae z7 U n1 fun y175=> Uay U n1 fun s176=> Uen y174 fun x177=> Uac x177 s176 fun x178=> Udm y175 x178 fun x179=> Ua9 x179 y174 0 fun x180=> Uax x179 x180 s176 fun x181=> Ua1 x179 x181 s176 10 M fun p182=> Ucy x179 p182.1 0 fun x183=> Uab x179 x183 fun x184=> Ua9 x184 y174 3 fun x185=> Uax x184 x185 p182.2 fun x186=> Uby x184 x186 fun x187=> gd x184.ng true (Uby x184 y172 fun x188=> Ubg x184 x187 x188 fun x189=> Uab x184 x189 fun x190=> bd (oK false x190.ng) (nK n0 p182.2)) (bd (gdv x184.ng true (pu (Qai .undef))) fun x191=> Ubg x184 x187 x191 fun x192=> Uab x184 x192 fun x193=> bd (oK false x193.ng) (nK n0 p182.2)))
def l_Z22_2:=M.fx (X0Lg (b_Z22_2 M n0 n1))
def b_Z22_0:=Uaw z32 z31 fun x20=> br x20.ng (Ubm z32 z30 3 fun x21=> Uaq x21 U 3 fun x22=>
 let s23:Objs:=U++[.cells [(.int .i64 0),.nils,(.str [])]]
 Ud4 x22 s23 U fun p24=> Ubs U fun x25=> Uac x25 p24.2 fun x26=> bd (pu (eB .neq .no x26.ng z7.ng.ng)) fun x27=> Uc9 x27 U fun x28=> Uag x27 x28 p24.2 fun x29=> Ua5 x27 x29 fun x30=> Ua4 x27 x30 0 fun x31=> Uad x27 x31 fun x32=> br x32.ng (j_Z22_0 M n0 n1 r1 z0 (.bool false) z5 z7 p24.2) (Ubq U 1 0 fun x33=> Uac x33 p24.2 fun x34=> Uam x34 fun x35=> Ueu z7 x35 fun x36=> Ubq U 1 0 fun x37=> Uac x37 p24.2 fun x38=> Uam x38 fun x39=> Uaa z0 p24.2 fun y86=> Uaa z5 p24.2 fun y87=> Ua2 x36 p24.2 fun y88=> bd (fz p24.2.length p24.2 fzD z32.ng.ng) fun y89=> Uaa z30 p24.2 fun y90=> Uaa z31 p24.2 fun y91=> Uaa z32 p24.2 fun y92=> Uaa x38 p24.2 fun y93=> Uaa x39 p24.2 fun y94=> Ud2 p24.2 fun y95=> l_Z22_1 M n0 n1 r1 p24.2.length [y86,y87,y88,y89,y90,y91,y92,y93,y94,y95] p24.2)) (Uae z0 U n1 fun y96=> Uar U n1 fun y97=> Uae z5 U n1 fun y98=> Uae z7 U n1 fun y99=> Uay U n1 fun s100=> Uc7 y98 fun x101=> Uac x101 s100 fun x102=> Uam x102 fun x103=> Uaa y96 s100 fun y194=> Uaa y98 s100 fun y195=> Uaa y99 s100 fun y196=> Uaa x102 s100 fun y197=> Uaa x103 s100 fun y198=> Ud2 s100 fun y199=> l_Z22_2 M n0 s100.length [y194,y195,y196,y197,y198,y199] s100)
def l_Z22_0:=M.fx (X0Lg (b_Z22_0 M n0 n1))
def s_Z22:=Uaz a1 U fun p0=> bd (M.call 6 [] p0.2) fun p1=> Ubh p1.1 fun x2=> br x2.ng (bd (oK false (.bool false)) (nK U.length p1.2)) (Uaq p0.1 p1.2 4 fun x3=> bd (M.call 7 [a0.ng.ng,x3.ng,(.int .i64 100)] p1.2) fun p4=> br p4.1.ng (bd (oK false (.bool true)) (nK U.length p4.2)) (Uaq p0.1 p4.2 4 fun x5=> Ubj a0 x5 p4.2 8 M fun p6=> Ubk p6.1 0 fun x7=> Ubk p6.1 1 fun x8=>
 let s9:Objs:=p6.2++[.cells [.nils,.nils,.nils,.nils,(.int .i64 0)]]
 Uao x7 s9 p6.2 5 0 fun p10=> Ucm x8 fun x11=> br x11.ng (bd (oK false (.bool true)) (nK U.length p10.2)) (Ubq p6.2 1 0 fun x12=> Uac x12 p10.2 fun x13=> Uam x13 fun x14=> Uaa a0 p10.2 fun y200=> Ubl p10.2 p6.2 fun y201=> Ud2 p10.2 fun y202=> Uaa x13 p10.2 fun y203=> Uaa x14 p10.2 fun y204=> Ud2 p10.2 fun y205=> l_Z22_0 M U.length p10.2.length [y200,y201,y202,y203,y204,y205] p10.2)))
theorem k_Z22:fnK M c_Z22 [a0,a1] U=s_Z22 M a0 a1 U:=X0k
def c_Z21:Ev.Fn:=⟨98,[.tmp 4],false,false,(Yq 0 [Vby 3,Vbf 4] (Yj (Yq 1 [Yc 13 6 [],Vbm 14 13] (Ym 14 2 [Vbf 4])) (Yj (Yq 3 [Vbp 15,Va7 16 4 3,Vc6 17 7 15 16 100] (Ym 17 4 [Vdc 4])) (Yq 5 [Vbp 19,Va7 20 4 3,Vbo 21 8 19 20,Yv 18 21,Vex 22 18,Vey 23 18,Vbh 5,Var 5 5 22,Yv 6 23] (Yj (Yq 6 [Va7 24 4 3,Vc9 25 14 24,Vbm 26 25] (Ym 26 7 [Yv 27 6,Vc9 28 15 27,Vai 29 28 11,Yv 30 29,Vaa 31 30 6,Van 32 30 16 31,Vbk 33 30 32 0,Vag 34 30 33,Yv 4 34])) (Yq 8 [Vez 36,Va7 37 4 3,Vbo 38 17 36 37,Yv 35 38,Vex 39 35,Vey 40 35,Vbh 7,Var 5 7 39,Yv 8 40] (Yj (Yq 9 [Yv 41 8,Vcx 42 41 0] (Ym 42 10 [Yv 43 6,Vc9 44 15 43,Vai 45 44 1,Yv 46 45,Vaa 47 46 6,Van 48 46 16 47,Vaa 49 46 8,Vbd 50 46 48 49,Vag 51 46 50,Yv 52 51,Vaz 53 52 5 5,Vdk 54 52,Va4 55 52 18 53 54,Vag 56 52 55,Yv 4 56])) (Yq 11 [Va7 58 5 5,Vc9 59 19 58,Yv 57 59,Vex 60 57,Vey 61 57,Yv 9 60,Yv 10 61] (Yq 12 [Va7 63 5 7,Vc9 64 20 63,Yv 62 64,Vex 65 62,Vey 66 62,Yv 11 65,Yv 12 66] (Yj (.drw 13 [⟨Yv 67 6,0,[]⟩,⟨Yo 68 .eql .ifc 67 (.c .nili),1,[]⟩,⟨Yv 69 68,2,[]⟩,⟨⟨some 70,(some (69,true)),.load true 5 5⟩,3,[]⟩,⟨⟨some 71,(some (69,true)),.load true 5 7⟩,4,[]⟩,⟨⟨some 72,(some (69,true)),.call 18 [70,71]⟩,5,[]⟩,⟨Yk 73 (.pick 69 72 Yf),6,[]⟩,⟨Yv 74 73,7,[]⟩,⟨⟨some 75,(some (74,true)),.load true 5 5⟩,8,[]⟩,⟨⟨some 77,(some (74,true)),.load true 5 7⟩,10,[]⟩,⟨⟨some 76,(some (74,true)),.call 21 [75]⟩,9,[9]⟩,⟨⟨some 78,(some (74,true)),.call 22 [77]⟩,11,[]⟩,⟨⟨some 79,(some (74,true)),.call 13 [76,78]⟩,12,[]⟩,⟨Yk 80 (.pick 74 79 Yf),13,[]⟩,⟨Yv 81 80,14,[]⟩,⟨⟨some 82,(some (81,true)),.load true 5 5⟩,15,[]⟩,⟨⟨some 84,(some (81,true)),.load true 5 7⟩,17,[]⟩,⟨⟨some 83,(some (81,true)),.call 24 [82]⟩,16,[16]⟩,⟨⟨some 85,(some (81,true)),.call 25 [84]⟩,18,[]⟩,⟨⟨some 86,(some (81,true)),.call 23 [83,85]⟩,19,[]⟩,⟨Yk 87 (.pick 81 86 Yf),20,[]⟩,⟨Yv 88 87,21,[]⟩,⟨⟨some 89,(some (88,true)),.mv 9 false⟩,22,[]⟩,⟨⟨some 90,(some (88,true)),.mv 11 false⟩,23,[]⟩,⟨⟨some 91,(some (88,true)),.call 13 [89,90]⟩,24,[]⟩,⟨Yk 92 (.pick 88 91 Yf),25,[]⟩,⟨Yv 93 92,26,[]⟩,⟨⟨some 94,(some (93,true)),.mv 10 false⟩,27,[]⟩,⟨⟨some 95,(some (93,true)),.mv 12 false⟩,28,[]⟩,⟨⟨some 96,(some (93,true)),.call 13 [94,95]⟩,29,[]⟩,⟨Yk 97 (.pick 93 96 Yf),30,[]⟩,⟨Yv 4 97,31,[]⟩]) .ret))))))))))⟩
theorem ok_c_Z21:Qao prog 5 c_Z21=true:=Qac func5 X0k
def s_Z21:=Uaz a1 U fun p0=> bd (M.call 6 [] p0.2) fun p1=> Ubh p1.1 fun x2=> br x2.ng (bd (oK false (.bool false)) (nK U.length p1.2)) (Uaq p0.1 p1.2 4 fun x3=> bd (M.call 7 [a0.ng.ng,x3.ng,(.int .i64 100)] p1.2) fun p4=> br p4.1.ng (bd (oK false (.bool true)) (nK U.length p4.2)) (Uaq p0.1 p4.2 4 fun x5=> Ubj a0 x5 p4.2 8 M fun p6=> Ubk p6.1 0 fun x7=> Ubk p6.1 1 fun x8=>
 let s9:Objs:=p6.2++[.cells [.nils,.nils,.nils,.nils,(.int .i64 0)]]
 Uao x7 s9 p6.2 5 0 fun p10=> Uaq p0.1 p10.2 4 fun x11=> Ubr x11 p10.2 14 M fun p12=> Ubh p12.1 fun x13=> br x13.ng (bd (M.call 15 [x8.ng.ng.ng] p12.2) fun p14=> Uai p14.1 11 fun x15=> Uan x15 x8 fun x16=> Ua1 x15 x16 p14.2 16 M fun p17=> Ucz x15 p17.1 0 fun x18=> Uab x15 x18 fun x19=> bd (oK false x19.ng) (nK U.length p17.2)) (Uaq p0.1 p12.2 4 fun x20=> Ucn a0 x20 p12.2 17 M fun p21=> Ubk p21.1 0 fun x22=> Ubk p21.1 1 fun x23=>
 let s24:Objs:=p21.2++[.cells [.nils,.nils,.nils,.nils,(.int .i64 0)]]
 Uao x22 s24 p21.2 5 0 fun p25=> bd (pu (eB .geq .no x23.ng.ng.ng (.int .i64 0))) fun x26=> br x26.ng (bd (M.call 15 [x8.ng.ng.ng] p25.2) fun p27=> Uai p27.1 1 fun x28=> Uan x28 x8 fun x29=> Ua1 x28 x29 p27.2 16 M fun p30=> Uan x28 x23 fun x31=> Ubg x28 p30.1 x31 fun x32=> Uab x28 x32 fun x33=> Ucf x33 p30.2 p6.2 fun x34=> bd (gdv x33.ng true (pu (Qaw [.nils,.nils,.nils,.nils,(.int .i64 0)] []))) fun x35=> Uci x33 x34 x35 p30.2 18 M fun p36=> Uab x33 p36.1 fun x37=> bd (oK false x37.ng) (nK U.length p36.2)) (Ub1 p25.2 p6.2 5 0 fun x38=> Ubr x38 p25.2 19 M fun p39=> Ubk p39.1 0 fun x40=> Ubk p39.1 1 fun x41=> Ub1 p39.2 p21.2 5 0 fun x42=> Ubr x42 p39.2 20 M fun p43=> Ubk p43.1 0 fun x44=> Ubk p43.1 1 fun x45=> bd (pu (eB .eql .ifc x8.ng.ng.ng .nili)) fun x46=> Ucf x46 p43.2 p6.2 fun x47=> Ucf x46 p43.2 p21.2 fun x48=> Uci x46 x47 x48 p43.2 18 M fun p49=> Uab x46 p49.1 fun x50=> Ucf x50 p49.2 p6.2 fun x51=> Ucf x50 p49.2 p21.2 fun x52=> bd (Qgd [rdG x50.ng true (Qcn true 5 (.ptr p21.2.length 0))] p49.2) fun s53=> Ua1 x50 x51 s53 21 M fun p55=> bd (Qei [rdG x50.ng true (Qcn true 5 (.ptr p21.2.length 0))] p49.2 p55.2) fun s54=> Ua1 x50 x52 s54 22 M fun p56=> Uci x50 p55.1 p56.1 p56.2 13 M fun p57=> Uab x50 p57.1 fun x58=> Ucf x58 p57.2 p6.2 fun x59=> Ucf x58 p57.2 p21.2 fun x60=> bd (Qgd [rdG x58.ng true (Qcn true 5 (.ptr p21.2.length 0))] p57.2) fun s61=> Ua1 x58 x59 s61 24 M fun p63=> bd (Qei [rdG x58.ng true (Qcn true 5 (.ptr p21.2.length 0))] p57.2 p63.2) fun s62=> Ua1 x58 x60 s62 25 M fun p64=> Uci x58 p63.1 p64.1 p64.2 23 M fun p65=> Uab x58 p65.1 fun x66=> Uan x66 x40 fun x67=> Uan x66 x44 fun x68=> Uci x66 x67 x68 p65.2 13 M fun p69=> Uab x66 p69.1 fun x70=> Uan x70 x41 fun x71=> Uan x70 x45 fun x72=> Uci x70 x71 x72 p69.2 13 M fun p73=> Uab x70 p73.1 fun x74=> bd (oK false x74.ng) (nK U.length p73.2)))))
theorem k_Z21:fnK M c_Z21 [a0,a1] U=s_Z21 M a0 a1 U:=X0k
def c_Z26:Ev.Fn:=⟨50,[.tmp 0],false,false,(Yq 0 [Vbf 0] (Yq 1 [Yk 7 (.buildG false 1 13 (.int .u8 0) [(0,(.c (.int .u8 97))),(1,(.c (.int .u8 32))),(2,(.c (.int .u8 62))),(3,(.c (.int .u8 32))),(4,(.c (.int .u8 46))),(5,(.c (.int .u8 120))),(6,(.c (.int .u8 58))),(7,(.c (.int .u8 110))),(8,(.c (.int .u8 111))),(9,(.c (.int .u8 116))),(10,(.c (.int .u8 40))),(11,(.c (.int .u8 98))),(12,(.c (.int .u8 41)))]),Yk 8 (.mark 7),Vda 9,Vbo 10 26 8 9,Yv 6 10,Vex 11 6,Vey 12 6,Yx 13 6 2,Yv 1 11,Yv 2 12,Yv 3 13] (Yq 2 [Vcj 15,Vds 16 15,Vda 17,Vbo 18 8 16 17,Yv 14 18,Vex 19 14,Vey 20 14,Vbh 4,Var 5 4 19,Yv 5 20] (Yr 3 [Yv 21 2,Vaj 22 21,Yv 23 22,Vaa 24 23 5,Vd9 25 23 24,Vag 26 23 25,Yv 27 26,Vam 28 27 1 4,Vad 29 27 28,Va2 30 27 29,Vbk 31 27 30 2,Vag 32 27 31,Yv 33 32,Vam 34 33 4 4,Vad 35 33 34,Vbk 36 33 35 3,Vag 37 33 36,Yv 38 37,Vam 39 38 0 4,Vad 40 38 39,Va2 41 38 40,Vbk 42 38 41 3,Vag 43 38 42,Yv 44 43,Vaz 45 44 5 4,Van 46 44 21 45,⟨some 47,(some (44,true)),.buildSl false 1 3 Y0 [(0,(Yi 0)),(1,(Yi 2)),(2,(Yi 0))] false⟩,Va4 48 44 13 46 47,Vag 49 44 48,Yv 0 49]))))⟩
theorem ok_c_Z26:Qao prog 6 c_Z26=true:=Qac func6 X0k
def c_Z23:Ev.Fn:=⟨26,[.tmp 6],false,false,(Yq 0 [Vby 4,Vbf 6] (Yj (Yq 1 [Vbp 9,Yh 10 9,Vb0 11 10 4,Yv 12 11,Vbx 13 12 4 4,Vbe 14 12 27 13,Vap 15 12 14] (Ym 15 2 [Vdc 6])) (Yj (Yq 3 [Vez 16,Yh 17 16,Vaw 18] (.block 0 (.loop [2,16,17,18] [6] (Yq 4 [Vat 19 18 17] (Yj (Yz 19 .skip (.exit 0)) (Yj (.block 1 (Yq 5 [Vet 20 16 18,Vah 21 20,Yu 8 21] (Yq 6 [Yu 22 8,Yv 23 2,Vbo 24 28 22 23] (Ym 24 7 [Vdc 6])))) (Ys1 8 [Vaf 25 18,Yv 18 25]))))))) (Yr 9 [Vbf 6]))))⟩
theorem ok_c_Z23:Qao prog 7 c_Z23=true:=Qac func7 X0k
def b_Z23_0:=Uaw z18 z17 fun x7=> br x7.ng (Ubm z18 z16 1 fun x8=> Uac x8 U fun x9=> Ud3 x9 z2 U 28 M fun p10=> br p10.1.ng (Udi p10.2 n1 fun y11=> Uay p10.2 n1 fun s12=> bd (oK false y11) (nK n0 s12)) (Ua0 z18 fun x13=> UF n1 p10.2 [z2,z16,z17,x13.ng] r1)) (Uar U n1 fun y19=> Uay U n1 fun s20=> bd (oK false (.bool false)) (nK n0 s20))
def l_Z23_0:=M.fx (X0Le (b_Z23_0 M n0 n1))
def s_Z23:=Uaz a1 U fun p0=> Uau a0 fun x1=> Ubd x1 4 fun x2=> bd (gdv x2.ng false (pu (eL p0.2 true 4 p0.1.ng))) fun x3=> Uc8 x2 x3 p0.2 27 M fun p4=> Uad x2 p4.1 fun x5=> br x5.ng (bd (oK false (.bool true)) (nK U.length p4.2)) (Uam a0 fun x6=> Uaa a2 p4.2 fun y21=> Uaa a0 p4.2 fun y22=> Uaa x6 p4.2 fun y23=> Ud2 p4.2 fun y24=> l_Z23_0 M U.length p4.2.length [y21,y22,y23,y24] p4.2)
theorem k_Z23:fnK M c_Z23 [a0,a1,a2] U=s_Z23 M a0 a1 a2 U:=X0k
def c_Z18:Ev.Fn:=⟨55,[.cell 4 true 5,.tmp 5],false,false,(Yq 0 [Vby 3,Vbh 4,Vcr 5] (Yj (Yq 1 [Va7 11 4 3,Vc9 12 29 11,Yv 6 12] (Yq 2 [Yv 13 6,Vcw 14 13] (Ym 14 3 [Vb9 15,Yv 16 6,Var 5 4 15,Yv 5 16]))) (Yq 4 [Va7 17 4 3,Vc0 18 4 17,Vd8 19 18,Yv 7 19] (Yj (Yq 5 [Vez 20,Yh 21 20,Vaw 22] (.block 0 (.loop [3,4,7,20,21,22] [4,5,7] (Yq 6 [Vat 23 22 21] (Yj (Yz 23 .skip (.exit 0)) (Yj (.block 1 (Yq 7 [Yv 24 22,Vet 25 20 22,Vah 26 25,Yv 8 24,Yu 9 26] (Yj (Yq 8 [Yv 27 9,Va7 28 4 3,Vbo 29 30 27 28,Yv 10 29] (Yq 9 [Yv 30 10,Vcw 31 30] (Ym 31 10 [Vb9 32,Yv 33 8,Yv 34 10,Yc 35 31 [(Yi 1),33,34],Var 5 4 32,Yv 5 35]))) (.drw 11 [⟨Yv 36 7,0,[]⟩,⟨Yv 37 7,1,[]⟩,⟨Yk 38 (.nilc 37),2,[]⟩,⟨Ya 39 4 38,3,[]⟩,⟨Ya 40 3 39,4,[]⟩,⟨Yk 41 (.loadT 40),5,[]⟩,⟨Yv 42 7,6,[]⟩,⟨Yu 43 9,7,[]⟩,⟨Yc 44 32 [42,43],8,[5]⟩,⟨Yk 45 (.buildSl false 1 1 .nils [(0,44)] false),9,[]⟩,⟨Yk 46 (.app false false 1 24 41 45 true),10,[]⟩,⟨Yk 47 (.nilc 36),11,[]⟩,⟨Ya 48 4 47,12,[]⟩,⟨Ya 49 3 48,13,[]⟩,⟨Yw 1 49 46 true,14,[]⟩])))) (Ys1 12 [Vaf 50 22,Yv 22 50]))))))) (Yr 13 [Yv 51 7,Vbn 52 51,Ya 53 4 52,Va7 54 5 53,Var 5 4 54,Vcr 5])))))⟩
theorem ok_c_Z18:Qao prog 8 c_Z18=true:=Qac func8 X0k
def b_Z18_0:=Uaw z22 z21 fun x12=> br x12.ng (Ubm z22 z20 1 fun x13=> Uac x13 U fun x14=> Uaq z3 U 4 fun x15=> Ubj x14 x15 U 30 M fun p16=> Ucm p16.1 fun x17=> br x17.ng (Uds fun x18=> bd (M.call 31 [(.int .i64 1),z22.ng.ng.ng.ng,p16.1.ng.ng.ng] p16.2) fun p19=> Ua3 z4 x18 p19.2 5 fun p20=> Uae z4 p20.2 n1 fun y21=> Uee p19.1 p20.2 n1 fun y22=> Uae z7 p20.2 n1 fun y23=> Uay p20.2 n1 fun s24=> Ub4 y21 s24 5 fun x25=> nK n0 s24 (.tup [x25.ng,y22.ng])) (Uat z7 fun x26=> Uen x26 fun x27=> Uaf x27 3 fun x28=> Ucu x28 p16.2 fun p29=> bd (Qgd [Qdd p16.2 x28.ng] p29.2) fun s30=> Ubj z7 x14 s30 32 M fun p32=> bd (Qei [Qdd p16.2 x28.ng] p29.2 p32.2) fun s31=> bd (Qam false 1 1 .nils [(0,p32.1.ng)]) fun x33=> Ub8 p29.1 x33 s31 1 24 fun x34=> Uat z7 fun x35=> Uen x35 fun x36=> Uaf x36 3 fun x37=> Uct x37 x34 s31 fun p38=> Ua0 z22 fun x39=> UF n1 p38.2 [z3,z4,z7,z20,z21,x39.ng] r1)) (Uae z4 U n1 fun y47=> Uar U n1 fun y48=> Uae z7 U n1 fun y49=> Uay U n1 fun s50=> Uat y49 fun x51=> Uen x51 fun x52=> Uaq x52 s50 5 fun x53=> Ua3 y47 x53 s50 5 fun p54=> Ub4 y47 p54.2 5 fun x55=> nK n0 p54.2 (.tup [x55.ng,.nili]))
def l_Z18_0:=M.fx (X0Lg (b_Z18_0 M n0 n1))
def s_Z18:=Uaz a1 U fun p0=>
 let s1:Objs:=p0.2++[.cells [.nils,.nils,.nils,.nils,(.int .i64 0)]]
 Uaq p0.1 s1 4 fun x2=> Ubr x2 s1 29 M fun p3=> Ucm p3.1 fun x4=> br x4.ng (Uds fun x5=> Uao x5 p3.2 p0.2 5 0 fun p6=> bd (resC p6.2 true 5 (.ptr p0.2.length 0)) fun x7=> nK U.length p6.2 (.tup [x7.ng,p3.1.ng.ng.ng.ng])) (Uaq p0.1 p3.2 4 fun x8=> Ud0 x8 fun x9=> Uaz x9 p3.2 fun p10=> Uam a0 fun x11=> Uaa p0.1 p10.2 fun y56=> Ubl p10.2 p0.2 fun y57=> Ua2 p10.1 p10.2 fun y58=> Uaa a0 p10.2 fun y59=> Uaa x11 p10.2 fun y60=> Ud2 p10.2 fun y61=> l_Z18_0 M U.length p10.2.length [y56,y57,y58,y59,y60,y61] p10.2)
theorem k_Z18:fnK M c_Z18 [a0,a1] U=s_Z18 M a0 a1 U:=X0k
def c_Z24:Ev.Fn:=⟨101,[.tmp 6],false,false,(Yq 0 [Vby 4,Vbf 6] (Yj (Yq 1 [Vez 12,Yh 13 12,Vaw 14] (.block 0 (.loop [2,4,12,13,14] [6] (Yq 2 [Vat 15 14 13] (Yj (Yz 15 .skip (.exit 0)) (Yj (.block 1 (Yq 3 [Ye 16 3 12 14,Va7 17 3 16,Vau 8,Var 3 8 17] (Yq 4 [Vbf 9] (Yj (Yq 5 [Vdg 18 8,Vah 19 18] (.block 2 (Yq 6 [Vai 21 19 1,Yv 20 21] (Yz 20 (Ys1 7 [Vd3 22 8,Vah 23 22,Vcx 24 23 0,Yv 25 24,Vam 26 25 1 8,Vad 27 25 26,Vam 28 25 0 4,Vad 29 25 28,Va2 30 25 29,Vbr 31 25 27 30,Vag 32 25 31,Yv 9 32]) (Yq 8 [Vai 34 19 2,Yv 33 34] (Yz 33 (Ys1 9 [Vd3 35 8,Vah 36 35,Vcx 37 36 0,Yv 38 37,Vam 39 38 1 8,Vad 40 38 39,Vaa 41 38 2,Vbr 42 38 40 41,Vag 43 38 42,Yv 9 43]) (Yq 10 [Vai 45 19 3,Yv 44 45] (Yz 44 (Ys1 11 [Ya 46 2 8,Vah 47 46,Yh 48 47,Vai 49 48 1,Yv 9 49]) (Yq 12 [Vai 51 19 5,Yv 50 51] (Yz 50 (Yq 13 [Vd3 52 8,Vah 53 52,Vcx 54 53 0,Yv 55 54,Vam 56 55 1 8,Vad 57 55 56,Vam 58 55 2 4,Vad 59 55 58,Va2 60 55 59,Vbr 61 55 57 60,Vag 62 55 61,Yv 9 62] (Yq 14 [Ya 63 2 4,Vah 64 63,Vd3 65 8,Vah 66 65,Ye 67 3 64 66,Ya 68 2 67,Vah 69 68,Yh 70 69,Vaw 71] (.block 3 (.loop [2,4,8,9,12,13,14,69,70,71] [2,4,6,8,9,12,13,14] (Yq 15 [Vat 72 71 70] (Yj (Yz 72 .skip (.exit 3)) (Yj (.block 4 (Yq 16 [Vet 73 69 71,Vah 74 73,Yv 11 74] (Ys1 17 [Yv 75 9,Yv 76 75,Vaa 77 76 11,⟨some 78,(some (76,true)),.bin .geq .no 77 (Yi 0)⟩,Vag 79 76 78,Yv 80 79,Vaa 81 80 11,Vaa 82 80 2,Vbr 83 80 81 82,Vag 84 80 83,Yv 9 84]))) (Ys1 18 [Vaf 85 71,Yv 71 85])))))))) (Yj (Yq 19 [Vai 87 19 4,Yv 86 87] (Yz 86 .skip (Yq 20 [Vai 88 19 6,Yv 86 88] (Yz 86 .skip (Ys1 21 [Vai 89 19 7,Yv 86 89]))))) (Yz 86 (Ys1 22 [Vdc 9]) .skip)))))))))))) (Yq 23 [Yv 90 9,Vbm 91 90,Yv 92 91,Vaq 93 92 2 8,Vae 94 92 93,Vbx 95 92 5 4,Vac 96 92 2,Vde 97 92 9 94 95 96,Va3 98 92 97,Vap 99 92 98] (Ym 99 24 [Vbf 6])))))) (Ys1 25 [Vaf 100 14,Yv 14 100]))))))) (Yr 26 [Vdc 6])))⟩
theorem ok_c_Z24:Qao prog 9 c_Z24=true:=Qac func9 X0k
def j_Z24_0:=Udy z9 fun x7=> Uas x7 z8 2 fun x8=> Uag x7 x8 U fun x9=> bd (gdv x7.ng false (pu (eL U true 5 z4.ng))) fun x10=> Uah x7 z2 fun x11=> bd (gdp x7.ng false (M.call 9 [x9.ng,x10.ng,x11.ng] U) U) fun p12=> Ua7 x7 p12.1 fun x13=> Uad x7 x13 fun x14=> br x14.ng (Ua6 p12.2 n1 fun y15=> Uay p12.2 n1 fun s16=> bd (oK false y15) (nK n0 s16)) (Ua0 z14 fun x17=> UF n1 p12.2 [z2,z4,z12,z13,x17.ng] r1)
def b_Z24_1:=Uaw z71 z70 fun x70=> br x70.ng (Ubm z71 z69 1 fun x71=> Uac x71 U fun x72=> Ueo z9 x72 fun x73=> bd (gdv z9.ng.ng true (pu (eB .geq .no x73.ng (.int .i64 0)))) fun x74=> Ud7 z9 x74 fun x75=> Uan x75 x72 fun x76=> Uak x75 z2 fun x77=> Ucj x75 x76 x77 fun x78=> Uab x75 x78 fun x79=> Ua0 z71 fun x80=> UF n2 U [z2,z4,z8,x79.ng,z12,z13,z14,z69,z70,x80.ng] r2) (Uae z2 U n2 fun y92=> Uae z4 U n2 fun y93=> Uar U n2 fun y94=> Uae z8 U n2 fun y95=> Uae z9 U n2 fun y96=> Uae z12 U n2 fun y97=> Uae z13 U n2 fun y98=> Uae z14 U n2 fun y99=> Uay U n2 fun s100=> j_Z24_0 M n0 n1 r1 y92 y93 y95 y96 y97 y98 y99 s100)
def l_Z24_1:=M.fx (X0Lk (b_Z24_1 M n0 n1 r1 n2))
def j_Z24_1:=br z86.ng (j_Z24_0 M n0 n1 r1 z2 z4 z8 (.bool true) z12 z13 z14 U) (j_Z24_0 M n0 n1 r1 z2 z4 z8 z9 z12 z13 z14 U)
def b_Z24_0:=Uaw z14 z13 fun x2=> br x2.ng (Ubm z14 z12 3 fun x3=> Uaq x3 U 3 fun x4=>
 let s5:Objs:=U++[.cells [(.int .i64 0),(.int .i64 0),.nils]]
 Ud4 x4 s5 U fun p6=> Ubs U fun x24=> Uac x24 p6.2 fun x25=> Uai x25 1 fun x26=> br x26.ng.ng (Ubq U 1 0 fun x27=> Uac x27 p6.2 fun x28=> Uc1 x28 fun x29=> Ubu x29 U 1 0 fun x30=> Uax x29 x30 p6.2 fun x31=> Ua9 x29 z4 0 fun x32=> Uax x29 x32 p6.2 fun x33=> Uby x29 x33 fun x34=> Ucj x29 x31 x34 fun x35=> Uab x29 x35 fun x36=> j_Z24_0 M n0 n1 r1 z2 z4 (.ptr U.length 0) x36.ng z12 z13 z14 p6.2) (Uai x25 2 fun x37=> br x37.ng.ng (Ubq U 1 0 fun x38=> Uac x38 p6.2 fun x39=> Uc1 x39 fun x40=> Ubu x40 U 1 0 fun x41=> Uax x40 x41 p6.2 fun x42=> Uak x40 z2 fun x43=> Ucj x40 x42 x43 fun x44=> Uab x40 x44 fun x45=> j_Z24_0 M n0 n1 r1 z2 z4 (.ptr U.length 0) x45.ng z12 z13 z14 p6.2) (Uai x25 3 fun x46=> br x46.ng.ng (Ubq U 2 0 fun x47=> Uac x47 p6.2 fun x48=> Uam x48 fun x49=> Uai x49 1 fun x50=> j_Z24_0 M n0 n1 r1 z2 z4 (.ptr U.length 0) x50.ng z12 z13 z14 p6.2) (Uai x25 5 fun x51=> br x51.ng.ng (Ubq U 1 0 fun x52=> Uac x52 p6.2 fun x53=> Uc1 x53 fun x54=> Ubu x54 U 1 0 fun x55=> Uax x54 x55 p6.2 fun x56=> Ua9 x54 z4 2 fun x57=> Uax x54 x57 p6.2 fun x58=> Uby x54 x58 fun x59=> Ucj x54 x56 x59 fun x60=> Uab x54 x60 fun x61=> Uaf z4 2 fun x62=> Uac x62 p6.2 fun x63=> Ubq U 1 0 fun x64=> Uac x64 p6.2 fun x65=> Ubm x65 x63 3 fun x66=> Uaf x66 2 fun x67=> Uac x67 p6.2 fun x68=> Uam x68 fun x69=> Uaa z2 p6.2 fun y101=> Uaa z4 p6.2 fun y102=> Ubl p6.2 U fun y103=> Ua2 x61 p6.2 fun y104=> Uaa z12 p6.2 fun y105=> Uaa z13 p6.2 fun y106=> Uaa z14 p6.2 fun y107=> Uaa x68 p6.2 fun y108=> Uaa x69 p6.2 fun y109=> Ud2 p6.2 fun y110=> l_Z24_1 M n0 n1 r1 p6.2.length [y101,y102,y103,y104,y105,y106,y107,y108,y109,y110] p6.2) (Uai x25 4 fun x111=> br x111.ng.ng (j_Z24_1 M n0 n1 r1 z2 z4 (.ptr U.length 0) (.bool false) z12 z13 z14 x111.ng p6.2) (Uai x25 6 fun x112=> br x112.ng.ng (j_Z24_1 M n0 n1 r1 z2 z4 (.ptr U.length 0) (.bool false) z12 z13 z14 x112.ng p6.2) (Uai x25 7 fun x113=> j_Z24_1 M n0 n1 r1 z2 z4 (.ptr U.length 0) (.bool false) z12 z13 z14 x113.ng p6.2))))))) (Uar U n1 fun y114=> Uay U n1 fun s115=> bd (oK false (.bool true)) (nK n0 s115))
def l_Z24_0:=M.fx (X0Lf (b_Z24_0 M n0 n1))
def s_Z24:=Uaz a1 U fun p0=> Uam a0 fun x1=> Uaa a2 p0.2 fun y116=> Uaa p0.1 p0.2 fun y117=> Uaa a0 p0.2 fun y118=> Uaa x1 p0.2 fun y119=> Ud2 p0.2 fun y120=> l_Z24_0 M U.length p0.2.length [y116,y117,y118,y119,y120] p0.2
theorem k_Z24:fnK M c_Z24 [a0,a1,a2] U=s_Z24 M a0 a1 a2 U:=X0k
def c_Z3s:Ev.Fn:=⟨54,[.tmp 2],false,false,(Yq 0 [Vaw 2] (Yj (Yq 1 [Vaw 3] (.block 0 (.loop [0,3] [2] (Yj (Yq 2 [Yv 6 3,Vbp 7,Yh 8 7,Vat 9 6 8] (Yz 9 .skip (.exit 0))) (Yj (.block 1 (Yq 4 [Vbp 12,Yv 13 3,Ye 14 7 12 13,Va7 15 7 14,Vbl 4,Var 7 4 15] (Yq 5 [Ya 16 2 4,Vah 17 16,Vc9 18 33 17,Yv 19 18,Vam 20 19 4 4,Vam 21 19 1 20,Vad 22 19 21,Van 23 19 33 22,Vag 24 19 23,Yv 25 24,Vam 26 25 3 4,Vad 27 25 26,Van 28 25 33 27,Vag 29 25 28,Yv 5 29] (Yj (Yq 6 [Vdg 30 4,Vah 31 30,Vai 32 31 2] (Yz 32 (Ys1 7 [Yv 33 5,Yv 34 33,Vam 35 34 3 4,Vad 36 34 35,Vb8 37 34 36,Vag 38 34 37,Yv 5 38]) (Yq 8 [Vdg 39 4,Vah 40 39,Vai 41 40 3] (Yz 41 (Ys1 9 [Yv 42 5,Yv 43 42,Vam 44 43 3 4,Vad 45 43 44,Van 46 43 34 45,Vag 47 43 46,Yv 5 47]) (Yq 10 [Vdg 48 4,Vah 49 48,Vcp 50 49 1] (Yz 50 (Ys1 11 [Vbf 5]) .skip)))))) (Yq 12 [Yv 51 5,Vbm 52 51] (Ym 52 13 [Yv 53 3,Yv 2 53])))))) (Ys1 3 [Yv 10 3,Vaf 11 10,Yv 3 11])))))) (Yr 14 [Ve1 2])))⟩
theorem ok_c_Z3s:Qao prog 10 c_Z3s=true:=Qac func10 X0k
def j_Z3s_0 (M:Mach) (n0:Nat) (n1:Nat) (r1:Rk) (z0 z3 z5:V) (U:Objs):Ro:=Udy z5 fun x18=> br x18.ng (Uef z3 U n1 fun y19=> Uay U n1 fun s20=> bd (oK false y19) (nK n0 s20)) (Uap z3 fun x21=> UF n1 U [z0,x21.ng] r1)
def b_Z3s_0:=Uau z0 fun x0=> Ual z3 x0 fun x1=> br x1.ng (Ubb z3 z0 7 fun x2=> Uaq x2 U 7 fun x3=>
 let s4:Objs:=U++[.cells [(.int .i64 0),(.bool false),(.str []),(.str []),(.int .i64 0),(.str []),(.bool false)]]
 Uao x3 s4 U 7 0 fun p5=> Ubq U 2 0 fun x6=> Uac x6 p5.2 fun x7=> Ubr x7 p5.2 33 M fun p8=> Ubu p8.1 U 4 0 fun x9=> Ua9 p8.1 x9 1 fun x10=> Uax p8.1 x10 p8.2 fun x11=> Ua1 p8.1 x11 p8.2 33 M fun p12=> Uab p8.1 p12.1 fun x13=> Ubu x13 U 3 0 fun x14=> Uax x13 x14 p12.2 fun x15=> Ua1 x13 x15 p12.2 33 M fun p16=> Uab x13 p16.1 fun x17=> Ubs U fun x25=> Uac x25 p16.2 fun x26=> Uai x26 2 fun x27=> br x27.ng (bd (gdv x17.ng.ng.ng true (pu (eF 3 (.ptr U.length 0)))) fun x28=> bd (gdv x17.ng.ng.ng true (pu (eL p16.2 false 1 x28.ng))) fun x29=> bd (gdv x17.ng.ng.ng true (pu (eB .neq .no x29.ng (.str [])))) fun x30=> Udz x17 x30 fun x31=> j_Z3s_0 M n0 n1 r1 z0 z3 x31.ng p16.2) (Ubs U fun x32=> Uac x32 p16.2 fun x33=> Uai x33 3 fun x34=> br x34.ng (bd (gdv x17.ng.ng.ng true (pu (eF 3 (.ptr U.length 0)))) fun x35=> bd (gdv x17.ng.ng.ng true (pu (eL p16.2 false 1 x35.ng))) fun x36=> bd (gdp x17.ng.ng.ng true (M.call 34 [x36.ng] p16.2) p16.2) fun p37=> Udz x17 p37.1 fun x38=> j_Z3s_0 M n0 n1 r1 z0 z3 x38.ng p37.2) (Ubs U fun x39=> Uac x39 p16.2 fun x40=> Ucv x40 1 fun x41=> br x41.ng (j_Z3s_0 M n0 n1 r1 z0 z3 (.bool false) p16.2) (j_Z3s_0 M n0 n1 r1 z0 z3 x17.ng p16.2)))) (Uar U n1 fun y42=> Uay U n1 fun s43=> bd (oK false (.int .i64 (-1))) (nK n0 s43))
def l_Z3s_0:=M.fx (X0Lc (b_Z3s_0 M n0 n1))
def s_Z3s:=Uaa a0 U fun y44=> Ud2 U fun y45=> l_Z3s_0 M U.length U.length [y44,y45] U
theorem k_Z3s:fnK M c_Z3s [a0] U=s_Z3s M a0 U:=X0k
def c_Z37:Ev.Fn:=⟨15,[.tmp 4],false,false,(Yq 0 [Vby 3,Vaw 4] (Yj (Yq 1 [Va7 5 4 3,Vc9 6 14 5,Vbm 7 6] (Ym 7 2 [Vdd 4 11])) (Yj (Yq 3 [Vbp 8,Vc9 9 35 8,Vb0 10 9 32] (Ym 10 4 [Vdd 4 12])) (Yj (Yq 5 [Vez 11,Va7 12 4 3,Yc 13 36 [11,12,Yt],Vbm 14 13] (Ym 14 6 [Vdd 4 10])) (Yr 7 [Vaw 4])))))⟩
theorem ok_c_Z37:Qao prog 11 c_Z37=true:=Qac func11 X0k
def s_Z37:=Uaz a1 U fun p0=> Uaq p0.1 p0.2 4 fun x1=> Ubr x1 p0.2 14 M fun p2=> Ubh p2.1 fun x3=> br x3.ng (bd (oK false (.int .i64 11)) (nK U.length p2.2)) (Udx a0 p2.2 35 M fun p4=> Ubd p4.1 32 fun x5=> br x5.ng (bd (oK false (.int .i64 12)) (nK U.length p4.2)) (Uaq p0.1 p4.2 4 fun x6=> bd (M.call 36 [a0.ng,x6.ng,(.bool true)] p4.2) fun p7=> Ubh p7.1 fun x8=> br x8.ng (bd (oK false (.int .i64 10)) (nK U.length p7.2)) (bd (oK false (.int .i64 0)) (nK U.length p7.2))))
theorem k_Z37:fnK M c_Z37 [a0,a1] U=s_Z37 M a0 a1 U:=X0k
def c_Z25:Ev.Fn:=⟨53,[.tmp 2,.tmp 3],false,false,(Yq 0 [Vaw 2,Vaw 3] (Yj (Yq 1 [Vez 12,Yh 13 12,Vaw 14] (.block 0 (.loop [2,3,12,13,14] [2,3] (Yq 2 [Vat 15 14 13] (Yj (Yz 15 .skip (.exit 0)) (Yj (.block 1 (Yq 3 [Vet 16 12 14,Va7 17 1 16,Vcf 5,Var 1 5 17] (Yq 4 [Yv 18 2,Vaf 19 18,Yv 2 19] (Yq 5 [Vdg 20 5,Vah 21 20,Yh 22 21,Vaw 23] (.block 2 (.loop [2,3,12,13,14,21,22,23] [2,3,12,13,14] (Yq 6 [Vat 24 23 22] (Yj (Yz 24 .skip (.exit 2)) (Yj (.block 3 (Yq 7 [Ye 25 2 21 23,Va7 26 2 25,Vcc 7,Var 2 7 26] (Yq 8 [Yv 27 3,Vaf 28 27,Yv 3 28] (Yq 9 [Vd3 29 7,Vah 30 29,Yh 31 30,Vaw 32] (.block 4 (.loop [2,3,12,13,14,21,22,23,30,31,32] [2,3,12,13,14,21,22,23] (Yq 10 [Vat 33 32 31] (Yj (Yz 33 .skip (.exit 4)) (Yj (.block 5 (Yq 11 [Ye 34 11 30 32,Va7 35 11 34,Vas 9,Var 11 9 35] (Yq 12 [Ya 37 10 9,Vah 38 37,Vc9 39 12 38,Yv 36 39,Vex 40 36,Vey 41 36,Yv 10 40,Yv 11 41] (Ys1 13 [Yv 42 2,Yv 43 10,Vcl 44 42 43,Yv 45 3,Yv 46 11,Vcl 47 45 46,Yv 2 44,Yv 3 47])))) (Ys1 14 [Vaf 48 32,Yv 32 48])))))))))) (Ys1 15 [Vaf 49 23,Yv 23 49])))))))))) (Ys1 16 [Vaf 50 14,Yv 14 50]))))))) (Yr 17 [Yv 51 2,Yv 52 3,Yv 2 51,Yv 3 52])))⟩
theorem ok_c_Z25:Qao prog 12 c_Z25=true:=Qac func12 X0k
def b_Z25_2 (M:Mach) (n0:Nat) (n1:Nat) (r1:Rk) (n2:Nat) (r2:Rk) (n3:Nat) (r3:Rk) (z2 z3 z12 z13 z14 z21 z22 z23 z30 z31 z32:V) (U:Objs):Ro:=Uaw z32 z31 fun x19=> br x19.ng (Ubm z32 z30 11 fun x20=> Uaq x20 U 11 fun x21=>
 let s22:Objs:=U++[.cells [(.int .i64 0),(.int .i64 0),(.str []),(.str []),(.int .i64 0),(.str []),(.bool false),(.int .i64 0),(.int .i64 0),(.int .i64 0),.nils]]
 Uao x21 s22 U 11 0 fun p23=> Ubq U 10 0 fun x24=> Uac x24 p23.2 fun x25=> Ubr x25 p23.2 12 M fun p26=> Ubk p26.1 0 fun x27=> Ubk p26.1 1 fun x28=> Udb z2 x27 fun x29=> Udb z3 x28 fun x30=> Ua0 z32 fun x31=> UF n3 p26.2 [x29.ng,x30.ng,z12,z13,z14,z21,z22,z23,z30,z31,x31.ng] r3) (Uae z2 U n3 fun y44=> Uae z3 U n3 fun y45=> Uae z12 U n3 fun y46=> Uae z13 U n3 fun y47=> Uae z14 U n3 fun y48=> Uae z21 U n3 fun y49=> Uae z22 U n3 fun y50=> Uae z23 U n3 fun y51=> Uay U n3 fun s52=> Ua0 y51 fun x53=> UF n2 s52 [y44,y45,y46,y47,y48,y49,y50,x53.ng] r2)
def l_Z25_2:=M.fx (X0Ll (b_Z25_2 M n0 n1 r1 n2 r2 n3))
def b_Z25_1:=Uaw z23 z22 fun x10=> br x10.ng (Ubm z23 z21 2 fun x11=> Uaq x11 U 2 fun x12=>
 let s13:Objs:=U++[.cells [(.int .i64 0),.nils]]
 Uao x12 s13 U 2 0 fun p14=> Uap z3 fun x15=> Ubq U 1 0 fun x16=> Uac x16 p14.2 fun x17=> Uam x17 fun x18=> Uaa z2 p14.2 fun y63=> Ua2 x15 p14.2 fun y64=> Uaa z12 p14.2 fun y65=> Uaa z13 p14.2 fun y66=> Uaa z14 p14.2 fun y67=> Uaa z21 p14.2 fun y68=> Uaa z22 p14.2 fun y69=> Uaa z23 p14.2 fun y70=> Uaa x17 p14.2 fun y71=> Uaa x18 p14.2 fun y72=> Ud2 p14.2 fun y73=> l_Z25_2 M n0 n1 r1 n2 r2 p14.2.length [y63,y64,y65,y66,y67,y68,y69,y70,y71,y72,y73] p14.2) (Uae z2 U n2 fun y74=> Uae z3 U n2 fun y75=> Uae z12 U n2 fun y76=> Uae z13 U n2 fun y77=> Uae z14 U n2 fun y78=> Uay U n2 fun s79=> Ua0 y78 fun x80=> UF n1 s79 [y74,y75,y76,y77,x80.ng] r1)
def l_Z25_1:=M.fx (X0Li (b_Z25_1 M n0 n1 r1 n2))
def b_Z25_0:=Uaw z14 z13 fun x1=> br x1.ng (Ubm z14 z12 1 fun x2=> Uaq x2 U 1 fun x3=>
 let s4:Objs:=U++[.cells [.nils]]
 Uao x3 s4 U 1 0 fun p5=> Uap z2 fun x6=> Ubs U fun x7=> Uac x7 p5.2 fun x8=> Uam x8 fun x9=> Ua2 x6 p5.2 fun y87=> Uaa z3 p5.2 fun y88=> Uaa z12 p5.2 fun y89=> Uaa z13 p5.2 fun y90=> Uaa z14 p5.2 fun y91=> Uaa x8 p5.2 fun y92=> Uaa x9 p5.2 fun y93=> Ud2 p5.2 fun y94=> l_Z25_1 M n0 n1 r1 p5.2.length [y87,y88,y89,y90,y91,y92,y93,y94] p5.2) (Uae z2 U n1 fun y95=> Uae z3 U n1 fun y96=> Uay U n1 fun s97=> nK n0 s97 (.tup [y95.ng.ng.ng,y96.ng.ng.ng]))
def l_Z25_0:=M.fx (X0Lf (b_Z25_0 M n0 n1))
def s_Z25:=Uam a0 fun x0=> Ud2 U fun y98=> Ud2 U fun y99=> Uaa a0 U fun y100=> Uaa x0 U fun y101=> Ud2 U fun y102=> l_Z25_0 M U.length U.length [y98,y99,y100,y101,y102] U
theorem k_Z25:fnK M c_Z25 [a0] U=s_Z25 M a0 U:=X0k
def c_Z27:Ev.Fn:=⟨26,[.tmp 4],false,false,(Yq 0 [Vbf 4] (Yj (Yq 1 [Vbp 6,Yh 7 6,Vcj 8,Yh 9 8,Vc7 10 7 9] (Ym 10 2 [Vbf 4])) (Yj (Yq 3 [Vaw 5] (.block 0 (.loop [0,1,5] [4] (Yj (Yq 4 [Yv 11 5,Vbp 12,Yh 13 12,Vat 14 11 13] (Yz 14 .skip (.exit 0))) (Yj (.block 1 (Yj (.drw 6 [⟨Yv 17 0,0,[]⟩,⟨Yv 18 5,1,[]⟩,⟨Ye 19 1 17 18,2,[]⟩,⟨Yl 20 false 1 19,3,[]⟩,⟨Yv 21 1,4,[]⟩,⟨Yv 22 5,5,[]⟩,⟨Ye 23 1 21 22,6,[]⟩,⟨Yl 24 false 1 23,7,[]⟩,⟨Yo 25 .neq .no 20 24,8,[]⟩]) (Ym 25 7 [Vbf 4]))) (Ys1 5 [Yv 15 5,Vaf 16 15,Yv 5 16])))))) (Yr 8 [Vdc 4]))))⟩
theorem ok_c_Z27:Qao prog 13 c_Z27=true:=Qac func13 X0k
def b_Z27_0 (M:Mach) (n0:Nat) (n1:Nat) (r1:Rk) (z0 z1 z5:V) (U:Objs):Ro:=Uau z0 fun x3=> Ual z5 x3 fun x4=> br x4.ng (Ubb z5 z0 1 fun x5=> Uac x5 U fun x6=> Ubb z5 z1 1 fun x7=> Uac x7 U fun x8=> Ubi x6 x8 fun x9=> br x9.ng (Ua6 U n1 fun y10=> Uay U n1 fun s11=> bd (oK false y10) (nK n0 s11)) (Uap z5 fun x12=> UF n1 U [z0,z1,x12.ng] r1)) (Uar U n1 fun y17=> Uay U n1 fun s18=> bd (oK false (.bool true)) (nK n0 s18))
def l_Z27_0:=M.fx (X0Ld (b_Z27_0 M n0 n1))
def s_Z27:=Uau a0 fun x0=> Uau a1 fun x1=> Ubi x0 x1 fun x2=> br x2.ng (bd (oK false (.bool false)) (nK U.length U)) (Uaa a0 U fun y19=> Uaa a1 U fun y20=> Ud2 U fun y21=> l_Z27_0 M U.length U.length [y19,y20,y21] U)
theorem k_Z27:fnK M c_Z27 [a0,a1] U=s_Z27 M a0 a1 U:=X0k
def c_Z3c:Ev.Fn:=⟨52,[.tmp 2],false,false,(Yq 0 [Vbz 1,Vbf 2] (Yj (Yq 1 [Ya 4 2 1,Vah 5 4,Yh 6 5,Ya 7 3 1,Vah 8 7,Yh 9 8,Vc7 10 6 9,Yv 11 10,Vaq 12 11 1 1,Vae 13 11 12,Vbe 14 11 37 13,Va3 15 11 14,Vap 16 11 15] (Ym 16 2 [Vbf 2])) (Yj (Yq 3 [Vaw 3] (.block 0 (.loop [1,3] [2] (Yj (Yq 4 [Yv 17 3,Ya 18 2 1,Vah 19 18,Yh 20 19,Vat 21 17 20] (Yz 21 .skip (.exit 0))) (Yj (.block 1 (Yj (.drw 6 [⟨Ya 24 2 1,0,[]⟩,⟨Yl 25 false 1 24,1,[]⟩,⟨Yv 26 3,2,[]⟩,⟨Ye 27 1 25 26,3,[]⟩,⟨Yl 28 false 1 27,4,[]⟩,⟨Yc 29 38 [28],5,[]⟩,⟨Yk 30 (.un .not 29),6,[]⟩,⟨Yv 31 30,7,[]⟩,⟨⟨some 32,(some (31,false)),.faddr 2 1⟩,8,[]⟩,⟨⟨some 33,(some (31,false)),.load false 1 32⟩,9,[]⟩,⟨⟨some 34,(some (31,false)),.mv 3 false⟩,10,[]⟩,⟨⟨some 35,(some (31,false)),.cut 1 33 none (some 34) none⟩,11,[]⟩,⟨⟨some 36,(some (31,false)),.faddr 2 1⟩,12,[]⟩,⟨⟨some 37,(some (31,false)),.load false 1 36⟩,13,[]⟩,⟨⟨some 38,(some (31,false)),.mv 3 false⟩,14,[]⟩,⟨⟨some 39,(some (31,false)),.iaddr 1 37 38⟩,15,[]⟩,⟨⟨some 40,(some (31,false)),.load false 1 39⟩,16,[]⟩,⟨⟨some 41,(some (31,false)),.call 39 [35,40]⟩,17,[]⟩,⟨Yk 42 (.pick 31 Yt 41),18,[]⟩,⟨Yv 43 42,19,[]⟩,⟨⟨some 44,(some (43,false)),.faddr 3 1⟩,20,[]⟩,⟨⟨some 45,(some (43,false)),.load false 1 44⟩,21,[]⟩,⟨⟨some 46,(some (43,false)),.mv 3 false⟩,22,[]⟩,⟨⟨some 47,(some (43,false)),.iaddr 1 45 46⟩,23,[]⟩,⟨⟨some 48,(some (43,false)),.load false 1 47⟩,24,[]⟩,⟨⟨some 49,(some (43,false)),.call 37 [48]⟩,25,[]⟩,⟨⟨some 50,(some (43,false)),.un .not 49⟩,26,[]⟩,⟨Yk 51 (.pick 43 Yt 50),27,[]⟩]) (Ym 51 7 [Vbf 2]))) (Ys1 5 [Yv 22 3,Vaf 23 22,Yv 3 23])))))) (Yr 8 [Vdc 2]))))⟩
theorem ok_c_Z3c:Qao prog 14 c_Z3c=true:=Qac func14 X0k
def b_Z3c_0:=Uaf z1 2 fun x13=> Uac x13 U fun x14=> Uam x14 fun x15=> Ual z3 x15 fun x16=> br x16.ng (Uaf z1 2 fun x17=> Uac x17 U fun x18=> Ube z3 x18 1 fun x19=> Uac x19 U fun x20=> Ubr x20 U 38 M fun p21=> Ubh p21.1 fun x22=> Uas x22 z1 2 fun x23=> Uag x22 x23 p21.2 fun x24=> Uah x22 z3 fun x25=> bd (gdv x22.ng false (pu (Qbm 1 x24.ng none (some x25.ng) none))) fun x26=> Uas x22 z1 2 fun x27=> Uag x22 x27 p21.2 fun x28=> Uah x22 z3 fun x29=> Ubp x22 x29 x28 1 fun x30=> Uag x22 x30 p21.2 fun x31=> Uex x22 x26 x31 p21.2 39 M fun p32=> Uad x22 p32.1 fun x33=> Uas x33 z1 3 fun x34=> Uag x33 x34 p32.2 fun x35=> Uah x33 z3 fun x36=> Ubp x33 x36 x35 1 fun x37=> Uag x33 x37 p32.2 fun x38=> Uc8 x33 x38 p32.2 37 M fun p39=> Ua7 x33 p39.1 fun x40=> Uad x33 x40 fun x41=> br x41.ng (Ua6 p39.2 n1 fun y42=> Uay p39.2 n1 fun s43=> bd (oK false y42) (nK n0 s43)) (Uap z3 fun x44=> UF n1 p39.2 [z1,x44.ng] r1)) (Uar U n1 fun y48=> Uay U n1 fun s49=> bd (oK false (.bool true)) (nK n0 s49))
def l_Z3c_0:=M.fx (X0Lc (b_Z3c_0 M n0 n1))
def s_Z3c:=Uaz a0 U fun p0=> Uaf p0.1 2 fun x1=> Uac x1 p0.2 fun x2=> Uam x2 fun x3=> Uaf p0.1 3 fun x4=> Uac x4 p0.2 fun x5=> Uam x5 fun x6=> Ubi x3 x6 fun x7=> Uas x7 p0.1 1 fun x8=> Uag x7 x8 p0.2 fun x9=> Uc8 x7 x9 p0.2 37 M fun p10=> Ua7 x7 p10.1 fun x11=> Uad x7 x11 fun x12=> br x12.ng (bd (oK false (.bool false)) (nK U.length p10.2)) (Uaa p0.1 p10.2 fun y50=> Ud2 p10.2 fun y51=> l_Z3c_0 M U.length p10.2.length [y50,y51] p10.2)
theorem k_Z3c:fnK M c_Z3c [a0] U=s_Z3c M a0 U:=X0k
def c_Z3v:Ev.Fn:=⟨49,[.cell 4 true 5,.tmp 5],false,false,(Yq 0 [Vby 3,Vbh 4,Vaw 5] (Yq 1 [Va7 9 4 3,Vc0 10 4 9,Vd8 11 10,Yv 6 11] (Yj (Yq 2 [Vaw 7] (.block 0 (.loop [0,3,4,6,7] [4,5,6] (Yj (Yq 3 [Yv 12 7,Vbp 13,Yh 14 13,Vat 15 12 14] (Yz 15 .skip (.exit 0))) (Yj (.block 1 (Yj (Yj (.drw 5 [⟨Yv 18 0,0,[]⟩,⟨Yv 19 7,1,[]⟩,⟨Ye 20 1 18 19,2,[]⟩,⟨Yl 21 false 1 20,3,[]⟩,⟨Yl 22 true 4 3,4,[]⟩,⟨Yc 23 11 [21,22],5,[]⟩,⟨Yo 24 .neq .no 23 (Yi 0),6,[]⟩]) (Ym 24 6 [Vb9 25,Yv 26 7,Var 5 4 25,Yv 5 26])) (Yq 7 [Yv 27 6,Vbp 28,Yv 29 7,Vet 30 28 29,Vah 31 30,Vbo 32 41 27 31,Yu 8 32] (Ys1 8 [Yv 33 6,Yv 34 6,Vbn 35 34,Ya 36 4 35,Ya 37 3 36,Vdu 38 37,Yu 39 8,Vds 40 39,Va5 41 24 38 40,Vbn 42 33,Ya 43 4 42,Ya 44 3 43,Yw 1 44 41 true])))) (Ys1 4 [Yv 16 7,Vaf 17 16,Yv 7 17])))))) (Yr 9 [Yv 45 6,Vbn 46 45,Ya 47 4 46,Va7 48 5 47,Var 5 4 48,Ve1 5]))))⟩
theorem ok_c_Z3v:Qao prog 17 c_Z3v=true:=Qac func17 X0k
def b_Z3v_0:=Uau z0 fun x5=> Ual z7 x5 fun x6=> br x6.ng (Ubb z7 z0 1 fun x7=> Uac x7 U fun x8=> Uaq z3 U 4 fun x9=> Ucn x8 x9 U 11 M fun p10=> Ucv p10.1 0 fun x11=> br x11.ng (Uds fun x12=> Ua3 z4 x12 p10.2 5 fun p13=> Uae z4 p13.2 n1 fun y14=> Uef z7 p13.2 n1 fun y15=> Uae z6 p13.2 n1 fun y16=> Uay p13.2 n1 fun s17=> Ub4 y14 s17 5 fun x18=> nK n0 s17 (.tup [x18.ng,y15.ng])) (Ubb z7 z0 1 fun x19=> Uac x19 p10.2 fun x20=> Ubj z6 x20 p10.2 41 M fun p21=> Uat z6 fun x22=> Uen x22 fun x23=> Uaf x23 3 fun x24=> Ucu x24 p21.2 fun p25=> bd (Qam false 1 1 .nils [(0,p21.1.ng)]) fun x26=> Ub8 p25.1 x26 p25.2 1 24 fun x27=> Uat z6 fun x28=> Uen x28 fun x29=> Uaf x29 3 fun x30=> Uct x30 x27 p25.2 fun p31=> Uap z7 fun x32=> UF n1 p31.2 [z0,z3,z4,z6,x32.ng] r1)) (Uae z4 U n1 fun y39=> Uar U n1 fun y40=> Uae z6 U n1 fun y41=> Uay U n1 fun s42=> Uat y41 fun x43=> Uen x43 fun x44=> Uaq x44 s42 5 fun x45=> Ua3 y39 x45 s42 5 fun p46=> Ub4 y39 p46.2 5 fun x47=> nK n0 p46.2 (.tup [x47.ng,(.int .i64 (-1))]))
def l_Z3v_0:=M.fx (X0Lf (b_Z3v_0 M n0 n1))
def s_Z3v:=Uaz a1 U fun p0=>
 let s1:Objs:=p0.2++[.cells [.nils,.nils,.nils,.nils,(.int .i64 0)]]
 Uaq p0.1 s1 4 fun x2=> Ud0 x2 fun x3=> Uaz x3 s1 fun p4=> Uaa a0 p4.2 fun y48=> Uaa p0.1 p4.2 fun y49=> Ubl p4.2 p0.2 fun y50=> Ua2 p4.1 p4.2 fun y51=> Ud2 p4.2 fun y52=> l_Z3v_0 M U.length p4.2.length [y48,y49,y50,y51,y52] p4.2
theorem k_Z3v:fnK M c_Z3v [a0,a1] U=s_Z3v M a0 a1 U:=X0k
def c_Z3x:Ev.Fn:=⟨142,[.tmp 4],false,false,(Yq 0 [Vbz 2,Vby 3,Vbf 4] (Yj (Yq 1 [Vdg 9 2,Vah 10 9,Yh 11 10,Vdg 12 3,Vah 13 12,Yh 14 13,Vc7 15 11 14,Yv 16 15,Vaq 17 16 1 2,Vae 18 16 17,Vax 19 16 18,Vaq 20 16 1 3,Vae 21 16 20,Vax 22 16 21,Vbi 23 16 19 22,Vap 24 16 23,Yv 25 24,Vaq 26 25 2 2,Vae 27 25 26,Vax 28 25 27,Vaq 29 25 2 3,Vae 30 25 29,Vax 31 25 30,Vbi 32 25 28 31,Vap 33 25 32,Yv 34 33,Vaq 35 34 3 2,Vae 36 34 35,Vax 37 34 36,Vaq 38 34 3 3,Vae 39 34 38,Vax 40 34 39,Vbi 41 34 37 40,Vap 42 34 41,Yv 43 42,Vaq 44 43 4 2,Vae 45 43 44,Vaq 46 43 4 3,Vae 47 43 46,Vbi 48 43 45 47,Vap 49 43 48] (Ym 49 2 [Vbf 4])) (Yj (Yq 3 [Vaw 5] (.block 0 (.loop [2,3,5] [2,3,4] (Yj (Yq 4 [Yv 50 5,Vdg 51 2,Vah 52 51,Yh 53 52,Vat 54 50 53] (Yz 54 .skip (.exit 0))) (Yj (.block 1 (Yj (.drw 6 [⟨Ya 57 0 2,0,[]⟩,⟨Yl 58 false 1 57,1,[]⟩,⟨Yv 59 5,2,[]⟩,⟨Ye 60 7 58 59,3,[]⟩,⟨Yl 61 true 7 60,4,[]⟩,⟨Ya 62 0 3,5,[]⟩,⟨Yl 63 false 1 62,6,[]⟩,⟨Yv 64 5,7,[]⟩,⟨Ye 65 7 63 64,8,[]⟩,⟨Yl 66 true 7 65,9,[]⟩,⟨Yo 67 .neq (.agg [.i,.b,.s,.s,.i,.s,.b]) 61 66,10,[]⟩]) (Ym 67 7 [Vbf 4]))) (Ys1 5 [Yv 55 5,Vaf 56 55,Yv 5 56])))))) (Yj (Yq 8 [Vaw 6] (.block 2 (.loop [2,3,6] [2,3,4] (Yj (Yq 9 [Yv 68 6,Vd3 69 2,Vah 70 69,Yh 71 70,Vat 72 68 71] (Yz 72 .skip (.exit 2))) (Yj (.block 3 (Yj (.drw 11 [⟨Ya 75 1 2,0,[]⟩,⟨Yl 76 false 1 75,1,[]⟩,⟨Yv 77 6,2,[]⟩,⟨Ye 78 3 76 77,3,[]⟩,⟨Yl 79 true 3 78,4,[]⟩,⟨Ya 80 1 3,5,[]⟩,⟨Yl 81 false 1 80,6,[]⟩,⟨Yv 82 6,7,[]⟩,⟨Ye 83 3 81 82,8,[]⟩,⟨Yl 84 true 3 83,9,[]⟩,⟨Yc 85 42 [79,84],10,[]⟩,⟨Yk 86 (.un .not 85),11,[]⟩]) (Ym 86 12 [Vbf 4]))) (Ys1 10 [Yv 73 6,Vaf 74 73,Yv 6 74])))))) (Yj (Yq 13 [Vaw 7] (.block 4 (.loop [2,3,7] [2,3,4] (Yj (Yq 14 [Yv 87 7,Ya 88 2 2,Vah 89 88,Yh 90 89,Vat 91 87 90] (Yz 91 .skip (.exit 4))) (Yj (.block 5 (Yj (.drw 16 [⟨Ya 94 2 2,0,[]⟩,⟨Yl 95 false 1 94,1,[]⟩,⟨Yv 96 7,2,[]⟩,⟨Ye 97 3 95 96,3,[]⟩,⟨Ya 98 0 97,4,[]⟩,⟨Yl 99 true 2 98,5,[]⟩,⟨Ya 100 2 3,6,[]⟩,⟨Yl 101 false 1 100,7,[]⟩,⟨Yv 102 7,8,[]⟩,⟨Ye 103 3 101 102,9,[]⟩,⟨Ya 104 0 103,10,[]⟩,⟨Yl 105 true 2 104,11,[]⟩,⟨Yo 106 .neq (.agg [.i,.i]) 99 105,12,[]⟩,⟨Yv 107 106,13,[]⟩,⟨⟨some 108,(some (107,false)),.faddr 2 2⟩,14,[]⟩,⟨⟨some 109,(some (107,false)),.load false 1 108⟩,15,[]⟩,⟨⟨some 110,(some (107,false)),.mv 7 false⟩,16,[]⟩,⟨⟨some 111,(some (107,false)),.iaddr 3 109 110⟩,17,[]⟩,⟨⟨some 112,(some (107,false)),.faddr 2 111⟩,18,[]⟩,⟨⟨some 113,(some (107,false)),.load false 1 112⟩,19,[]⟩,⟨⟨some 114,(some (107,false)),.faddr 2 3⟩,20,[]⟩,⟨⟨some 115,(some (107,false)),.load false 1 114⟩,21,[]⟩,⟨⟨some 116,(some (107,false)),.mv 7 false⟩,22,[]⟩,⟨⟨some 117,(some (107,false)),.iaddr 3 115 116⟩,23,[]⟩,⟨⟨some 118,(some (107,false)),.faddr 2 117⟩,24,[]⟩,⟨⟨some 119,(some (107,false)),.load false 1 118⟩,25,[]⟩,⟨⟨some 120,(some (107,false)),.call 43 [113,119]⟩,26,[]⟩,⟨⟨some 121,(some (107,false)),.un .not 120⟩,27,[]⟩,⟨Yk 122 (.pick 107 Yt 121),28,[]⟩]) (Ym 122 17 [Vbf 4]))) (Ys1 15 [Yv 92 7,Vaf 93 92,Yv 7 93])))))) (Yj (Yq 18 [Vaw 8] (.block 6 (.loop [2,3,8] [4] (Yj (Yq 19 [Yv 123 8,Ya 124 3 2,Vah 125 124,Yh 126 125,Vat 127 123 126] (Yz 127 .skip (.exit 6))) (Yj (.block 7 (Yj (.drw 21 [⟨Ya 130 3 2,0,[]⟩,⟨Yl 131 false 1 130,1,[]⟩,⟨Yv 132 8,2,[]⟩,⟨Ye 133 1 131 132,3,[]⟩,⟨Yl 134 false 1 133,4,[]⟩,⟨Ya 135 3 3,5,[]⟩,⟨Yl 136 false 1 135,6,[]⟩,⟨Yv 137 8,7,[]⟩,⟨Ye 138 1 136 137,8,[]⟩,⟨Yl 139 false 1 138,9,[]⟩,⟨Yc 140 43 [134,139],10,[]⟩,⟨Yk 141 (.un .not 140),11,[]⟩]) (Ym 141 22 [Vbf 4]))) (Ys1 20 [Yv 128 8,Vaf 129 128,Yv 8 129])))))) (Yr 23 [Vdc 4])))))))⟩
theorem ok_c_Z3x:Qao prog 18 c_Z3x=true:=Qac func18 X0k
def b_Z3x_3:=Uaf z2 3 fun x135=> Uac x135 U fun x136=> Uam x136 fun x137=> Ual z8 x137 fun x138=> br x138.ng (Uaf z2 3 fun x139=> Uac x139 U fun x140=> Ube z8 x140 1 fun x141=> Uac x141 U fun x142=> Uaf z3 3 fun x143=> Uac x143 U fun x144=> Ube z8 x144 1 fun x145=> Uac x145 U fun x146=> Ucn x142 x146 U 43 M fun p147=> Ubh p147.1 fun x148=> br x148.ng (Ua6 p147.2 n1 fun y149=> Uay p147.2 n1 fun s150=> bd (oK false y149) (nK n0 s150)) (Uap z8 fun x151=> UF n1 p147.2 [z2,z3,x151.ng] r1)) (Uar U n1 fun y156=> Uay U n1 fun s157=> bd (oK false (.bool true)) (nK n0 s157))
def l_Z3x_3:=M.fx (X0Ld (b_Z3x_3 M n0 n1))
def b_Z3x_2:=Uaf z2 2 fun x92=> Uac x92 U fun x93=> Uam x93 fun x94=> Ual z7 x94 fun x95=> br x95.ng (Uaf z2 2 fun x96=> Uac x96 U fun x97=> Ube z7 x97 3 fun x98=> Uc7 x98 fun x99=> Uaq x99 U 2 fun x100=> Uaf z3 2 fun x101=> Uac x101 U fun x102=> Ube z7 x102 3 fun x103=> Uc7 x103 fun x104=> Uaq x104 U 2 fun x105=> bd (pu (eB .neq (.agg [.i,.i]) x100.ng x105.ng)) fun x106=> Uas x106 z2 2 fun x107=> Uag x106 x107 U fun x108=> Uah x106 z7 fun x109=> Ubp x106 x109 x108 3 fun x110=> Uas x106 x110 2 fun x111=> Uag x106 x111 U fun x112=> Uas x106 z3 2 fun x113=> Uag x106 x113 U fun x114=> Uah x106 z7 fun x115=> Ubp x106 x115 x114 3 fun x116=> Uas x106 x116 2 fun x117=> Uag x106 x117 U fun x118=> Uex x106 x112 x118 U 43 M fun p119=> Ua7 x106 p119.1 fun x120=> Uad x106 x120 fun x121=> br x121.ng (Uae z2 p119.2 n1 fun y122=> Uae z3 p119.2 n1 fun y123=> Ua6 p119.2 n1 fun y124=> Uay p119.2 n1 fun s125=> bd (oK false y124) (nK n0 s125)) (Uap z7 fun x126=> UF n1 p119.2 [z2,z3,x126.ng] r1)) (Uae z2 U n1 fun y131=> Uae z3 U n1 fun y132=> Uar U n1 fun y133=> Uay U n1 fun s134=> Uaa y131 s134 fun y158=> Uaa y132 s134 fun y159=> Ud2 s134 fun y160=> l_Z3x_3 M n0 s134.length [y158,y159,y160] s134)
def l_Z3x_2:=M.fx (X0Ld (b_Z3x_2 M n0 n1))
def b_Z3x_1:=Udu z2 fun x65=> Uac x65 U fun x66=> Uam x66 fun x67=> Ual z6 x67 fun x68=> br x68.ng (Udu z2 fun x69=> Uac x69 U fun x70=> Ube z6 x70 3 fun x71=> Uaq x71 U 3 fun x72=> Udu z3 fun x73=> Uac x73 U fun x74=> Ube z6 x74 3 fun x75=> Uaq x75 U 3 fun x76=> Ucn x72 x76 U 42 M fun p77=> Ubh p77.1 fun x78=> br x78.ng (Uae z2 p77.2 n1 fun y79=> Uae z3 p77.2 n1 fun y80=> Ua6 p77.2 n1 fun y81=> Uay p77.2 n1 fun s82=> bd (oK false y81) (nK n0 s82)) (Uap z6 fun x83=> UF n1 p77.2 [z2,z3,x83.ng] r1)) (Uae z2 U n1 fun y88=> Uae z3 U n1 fun y89=> Uar U n1 fun y90=> Uay U n1 fun s91=> Uaa y88 s91 fun y161=> Uaa y89 s91 fun y162=> Ud2 s91 fun y163=> l_Z3x_2 M n0 s91.length [y161,y162,y163] s91)
def l_Z3x_1:=M.fx (X0Ld (b_Z3x_1 M n0 n1))
def b_Z3x_0:=Uc7 z2 fun x39=> Uac x39 U fun x40=> Uam x40 fun x41=> Ual z5 x41 fun x42=> br x42.ng (Uc7 z2 fun x43=> Uac x43 U fun x44=> Ube z5 x44 7 fun x45=> Uaq x45 U 7 fun x46=> Uc7 z3 fun x47=> Uac x47 U fun x48=> Ube z5 x48 7 fun x49=> Uaq x49 U 7 fun x50=> bd (pu (eB .neq (.agg [.i,.b,.s,.s,.i,.s,.b]) x46.ng x50.ng)) fun x51=> br x51.ng (Uae z2 U n1 fun y52=> Uae z3 U n1 fun y53=> Ua6 U n1 fun y54=> Uay U n1 fun s55=> bd (oK false y54) (nK n0 s55)) (Uap z5 fun x56=> UF n1 U [z2,z3,x56.ng] r1)) (Uae z2 U n1 fun y61=> Uae z3 U n1 fun y62=> Uar U n1 fun y63=> Uay U n1 fun s64=> Uaa y61 s64 fun y164=> Uaa y62 s64 fun y165=> Ud2 s64 fun y166=> l_Z3x_1 M n0 s64.length [y164,y165,y166] s64)
def l_Z3x_0:=M.fx (X0Ld (b_Z3x_0 M n0 n1))
def s_Z3x:=Uaz a0 U fun p0=> Uaz a1 p0.2 fun p1=> Uc7 p0.1 fun x2=> Uac x2 p1.2 fun x3=> Uam x3 fun x4=> Uc7 p1.1 fun x5=> Uac x5 p1.2 fun x6=> Uam x6 fun x7=> Ubi x4 x7 fun x8=> Uas x8 p0.1 1 fun x9=> Uag x8 x9 p1.2 fun x10=> Ua5 x8 x10 fun x11=> Uas x8 p1.1 1 fun x12=> Uag x8 x12 p1.2 fun x13=> Ua5 x8 x13 fun x14=> Ubn x8 x11 x14 fun x15=> Uad x8 x15 fun x16=> Uas x16 p0.1 2 fun x17=> Uag x16 x17 p1.2 fun x18=> Ua5 x16 x18 fun x19=> Uas x16 p1.1 2 fun x20=> Uag x16 x20 p1.2 fun x21=> Ua5 x16 x21 fun x22=> Ubn x16 x19 x22 fun x23=> Uad x16 x23 fun x24=> Uas x24 p0.1 3 fun x25=> Uag x24 x25 p1.2 fun x26=> Ua5 x24 x26 fun x27=> Uas x24 p1.1 3 fun x28=> Uag x24 x28 p1.2 fun x29=> Ua5 x24 x29 fun x30=> Ubn x24 x27 x30 fun x31=> Uad x24 x31 fun x32=> Uas x32 p0.1 4 fun x33=> Uag x32 x33 p1.2 fun x34=> Uas x32 p1.1 4 fun x35=> Uag x32 x35 p1.2 fun x36=> Ubn x32 x34 x36 fun x37=> Uad x32 x37 fun x38=> br x38.ng (bd (oK false (.bool false)) (nK U.length p1.2)) (Uaa p0.1 p1.2 fun y167=> Uaa p1.1 p1.2 fun y168=> Ud2 p1.2 fun y169=> l_Z3x_0 M U.length p1.2.length [y167,y168,y169] p1.2)
theorem k_Z3x:fnK M c_Z3x [a0,a1] U=s_Z3x M a0 a1 U:=X0k
def c_Z1a:Ev.Fn:=⟨33,[.tmp 2,.tmp 3],false,false,(Yq 0 [Vbz 1,Vbg 2,Vbg 3] (Yj (Yq 1 [Ya 8 2 1,Vah 9 8,Yh 10 9,Vaw 11] (.block 0 (.loop [2,3,9,10,11] [2,3] (Yq 2 [Vat 12 11 10] (Yj (Yz 12 .skip (.exit 0)) (Yj (.block 1 (Yq 3 [Ye 13 3 9 11,Va7 14 3 13,Vau 5,Var 3 5 14] (Yq 4 [Vdg 16 5,Va7 17 2 16,Yk 18 (.buildSl true 2 1 (.agg [Y0,Y0]) [(0,17)] false),Vc9 19 44 18,Yv 15 19,Vex 20 15,Vey 21 15,Yv 6 20,Yv 7 21] (Ys1 5 [Yu 22 2,Yv 23 6,Va6 24 23,Va5 25 8 22 24,Yu 26 3,Yv 27 7,Va6 28 27,Va5 29 8 26 28,Yu 2 25,Yu 3 29])))) (Ys1 6 [Vaf 30 11,Yv 11 30]))))))) (Yr 7 [Yu 31 2,Yu 32 3,Yu 2 31,Yu 3 32])))⟩
theorem ok_c_Z1a:Qao prog 19 c_Z1a=true:=Qac func19 X0k
def b_Z1a_0:=Uaw z11 z10 fun x4=> br x4.ng (Ubm z11 z9 3 fun x5=> Uaq x5 U 3 fun x6=>
 let s7:Objs:=U++[.cells [(.int .i64 0),(.int .i64 0),.nils]]
 Ud4 x6 s7 U fun p8=> Ubs U fun x9=> Uaq x9 p8.2 2 fun x10=> bd (Qam true 2 1 (.agg [(.int .i64 0),(.int .i64 0)]) [(0,x10.ng)]) fun x11=> Ubr x11 p8.2 44 M fun p12=> Ubk p12.1 0 fun x13=> Ubk p12.1 1 fun x14=> Udj x13 fun x15=> Ub8 z2 x15 p12.2 1 8 fun x16=> Udj x14 fun x17=> Ub8 z3 x17 p12.2 1 8 fun x18=> Ua0 z11 fun x19=> UF n1 p12.2 [x16,x18,z9,z10,x19.ng] r1) (Uae z2 U n1 fun y26=> Uae z3 U n1 fun y27=> Uay U n1 fun s28=> nK n0 s28 (.tup [y26.ng,y27.ng]))
def l_Z1a_0:=M.fx (X0Lf (b_Z1a_0 M n0 n1))
def s_Z1a:=Uaz a0 U fun p0=> Uaf p0.1 2 fun x1=> Uac x1 p0.2 fun x2=> Uam x2 fun x3=> Ucc p0.2 fun y29=> Ucc p0.2 fun y30=> Uaa x2 p0.2 fun y31=> Uaa x3 p0.2 fun y32=> Ud2 p0.2 fun y33=> l_Z1a_0 M U.length p0.2.length [y29,y30,y31,y32,y33] p0.2
theorem k_Z1a:fnK M c_Z1a [a0] U=s_Z1a M a0 U:=X0k
def c_Z3y:Ev.Fn:=⟨39,[.tmp 2,.tmp 3],false,false,(Yq 0 [Vbz 1,Vbg 2,Vbg 3] (Yq 1 [Va9 9,Va9 10,Yu 4 9,Yu 5 10] (Yj (Yq 2 [Vaw 6] (.block 0 (.loop [1,4,5,6] [2,3,4,5] (Yj (Yq 3 [Yv 11 6,Ya 12 2 1,Vah 13 12,Yh 14 13,Vat 15 11 14] (Yz 15 .skip (.exit 0))) (Yj (.block 1 (Yq 5 [Ya 19 2 1,Vah 20 19,Yv 21 6,Ye 22 3 20 21,Vdg 23 22,Va7 24 2 23,Yk 25 (.buildSl true 2 1 (.agg [Y0,Y0]) [(0,24)] false),Vc9 26 45 25,Yv 18 26,Vex 27 18,Vey 28 18,Yv 7 27,Yv 8 28] (Yq 6 [Yu 29 4,Yv 30 7,Va6 31 30,Va5 32 8 29 31,Yu 4 32] (Ys1 7 [Yu 33 5,Yv 34 8,Va6 35 34,Va5 36 8 33 35,Yu 5 36])))) (Ys1 4 [Yv 16 6,Vaf 17 16,Yv 6 17])))))) (Yr 8 [Yu 37 4,Yu 38 5,Yu 2 37,Yu 3 38]))))⟩
theorem ok_c_Z3y:Qao prog 20 c_Z3y=true:=Qac func20 X0k
def b_Z3y_0:=Uaf z1 2 fun x3=> Uac x3 U fun x4=> Uam x4 fun x5=> Ual z6 x5 fun x6=> br x6.ng (Uaf z1 2 fun x7=> Uac x7 U fun x8=> Ube z6 x8 3 fun x9=> Uc7 x9 fun x10=> Uaq x10 U 2 fun x11=> bd (Qam true 2 1 (.agg [(.int .i64 0),(.int .i64 0)]) [(0,x11.ng)]) fun x12=> Ubr x12 U 45 M fun p13=> Ubk p13.1 0 fun x14=> Ubk p13.1 1 fun x15=> Udj x14 fun x16=> Ub8 z4 x16 p13.2 1 8 fun x17=> Udj x15 fun x18=> Ub8 z5 x18 p13.2 1 8 fun x19=> Uap z6 fun x20=> UF n1 p13.2 [z1,x17,x19,x20.ng] r1) (Uar U n1 fun y26=> Uar U n1 fun y27=> Uae z4 U n1 fun y28=> Uae z5 U n1 fun y29=> Uay U n1 fun s30=> nK n0 s30 (.tup [y28.ng,y29.ng]))
def l_Z3y_0:=M.fx (X0Le (b_Z3y_0 M n0 n1))
def s_Z3y:=Uaz a0 U fun p0=> Udh fun x1=> Udh fun x2=> Uaa p0.1 p0.2 fun y31=> Uaa x1 p0.2 fun y32=> Uaa x2 p0.2 fun y33=> Ud2 p0.2 fun y34=> l_Z3y_0 M U.length p0.2.length [y31,y32,y33,y34] p0.2
theorem k_Z3y:fnK M c_Z3y [a0] U=s_Z3y M a0 U:=X0k
def c_Z17:Ev.Fn:=⟨41,[.tmp 2],false,false,(Yq 0 [Vbz 1,Vbg 2] (Yj (Yq 1 [Ya 6 1 1,Vah 7 6,Yh 8 7,Vaw 9] (.block 0 (.loop [2,7,8,9] [2] (Yq 2 [Vat 10 9 8] (Yj (Yz 10 .skip (.exit 0)) (Yj (.block 1 (Yq 3 [Ye 11 3 7 9,Va7 12 3 11,Vcg 4,Var 3 4 12] (Yq 4 [Vd3 13 4,Vah 14 13,Yh 15 14,Vaw 16] (.block 2 (.loop [2,4,7,8,9,15,16] [2,7,8,9] (Yq 5 [Vat 17 16 15] (Yj (Yz 17 .skip (.exit 2)) (Yj (.block 3 (Yq 6 [Yv 18 16,Yv 5 18] (Yq 7 [Yv 19 5,Vaf 20 19,Vd3 21 4,Vah 22 21,Yh 23 22,Vat 24 20 23] (Yz 24 (Ys1 8 [Yu 25 2,Vd3 26 4,Vah 27 26,Yv 28 5,Vaf 29 28,Ye 30 2 27 29,Vdg 31 30,Vah 32 31,Va6 33 32,Va5 34 8 25 33,Yu 2 34]) (Ys1 9 [Yu 35 2,Vdm 36,Va5 37 8 35 36,Yu 2 37]))))) (Ys1 10 [Vaf 38 16,Yv 16 38]))))))))) (Ys1 11 [Vaf 39 9,Yv 9 39]))))))) (Yr 12 [Yu 40 2,Yu 2 40])))⟩
theorem ok_c_Z17:Qao prog 21 c_Z17=true:=Qac func21 X0k
def j_Z17_0 (M:Mach) (n0:Nat) (n1:Nat) (r1:Rk) (n2:Nat) (r2:Rk) (z2 z4 z7 z8 z9 z15 z16:V) (U:Objs):Ro:=Ua0 z16 fun x13=> UF n2 U [z2,z4,z7,z8,z9,z15,x13.ng] r2
def b_Z17_1:=Uaw z16 z15 fun x12=> br x12.ng (bd (pu (eB .add .no z16.ng.ng.ng.ng (.int .i64 1))) fun x22=> Udu z4 fun x23=> Uac x23 U fun x24=> Uam x24 fun x25=> Uaw x22 x25 fun x26=> br x26.ng (Udu z4 fun x27=> Uac x27 U fun x28=> bd (pu (eB .add .no z16.ng.ng.ng.ng (.int .i64 1))) fun x29=> Ubm x29 x28 2 fun x30=> Uc7 x30 fun x31=> Uac x31 U fun x32=> Udt x32 fun x33=> Ub8 z2 x33 U 1 8 fun x34=> j_Z17_0 M n0 n1 r1 n2 r2 x34 z4 z7 z8 z9 z15 z16 U) (bd (Qam false 1 1 (.int .i64 0) [(0,(.int .i64 0))]) fun x35=> Ub8 z2 x35 U 1 8 fun x36=> j_Z17_0 M n0 n1 r1 n2 r2 x36 z4 z7 z8 z9 z15 z16 U)) (Uae z2 U n2 fun y37=> Uae z7 U n2 fun y38=> Uae z8 U n2 fun y39=> Uae z9 U n2 fun y40=> Uay U n2 fun s41=> Ua0 y40 fun x42=> UF n1 s41 [y37,y38,y39,x42.ng] r1)
def l_Z17_1:=M.fx (X0Lh (b_Z17_1 M n0 n1 r1 n2))
def b_Z17_0:=Uaw z9 z8 fun x4=> br x4.ng (Ubm z9 z7 3 fun x5=> Uaq x5 U 3 fun x6=>
 let s7:Objs:=U++[.cells [(.int .i64 0),.nils,(.str [])]]
 Ud4 x6 s7 U fun p8=> Ubq U 1 0 fun x9=> Uac x9 p8.2 fun x10=> Uam x10 fun x11=> Uaa z2 p8.2 fun y48=> Ubl p8.2 U fun y49=> Uaa z7 p8.2 fun y50=> Uaa z8 p8.2 fun y51=> Uaa z9 p8.2 fun y52=> Uaa x11 p8.2 fun y53=> Ud2 p8.2 fun y54=> l_Z17_1 M n0 n1 r1 p8.2.length [y48,y49,y50,y51,y52,y53,y54] p8.2) (Uae z2 U n1 fun y55=> Uay U n1 fun s56=> bd (oK false y55) (nK n0 s56))
def l_Z17_0:=M.fx (X0Le (b_Z17_0 M n0 n1))
def s_Z17:=Uaz a0 U fun p0=> Udu p0.1 fun x1=> Uac x1 p0.2 fun x2=> Uam x2 fun x3=> Ucc p0.2 fun y57=> Uaa x2 p0.2 fun y58=> Uaa x3 p0.2 fun y59=> Ud2 p0.2 fun y60=> l_Z17_0 M U.length p0.2.length [y57,y58,y59,y60] p0.2
theorem k_Z17:fnK M c_Z17 [a0] U=s_Z17 M a0 U:=X0k
def c_Z3u:Ev.Fn:=⟨50,[.tmp 2],false,false,(Yq 0 [Vbz 1,Vbg 2] (Yq 1 [Va9 6,Yu 3 6] (Yj (Yq 2 [Vaw 4] (.block 0 (.loop [1,3,4] [2,3] (Yj (Yq 3 [Yv 7 4,Ya 8 1 1,Vah 9 8,Yh 10 9,Vat 11 7 10] (Yz 11 .skip (.exit 0))) (Yj (.block 1 (Yj (Yq 5 [Vdd 5 1] (.block 2 (.loop [1,3,4,5] [1,2,3,4] (Yj (Yq 6 [Yv 14 5,Ya 15 1 1,Vah 16 15,Yv 17 4,Ye 18 3 16 17,Vd3 19 18,Vah 20 19,Yh 21 20,Vat 22 14 21] (Yz 22 .skip (.exit 2))) (Yj (.block 3 (Ys1 8 [Yu 25 3,Ya 26 1 1,Vah 27 26,Yv 28 4,Ye 29 3 27 28,Vd3 30 29,Vah 31 30,Yv 32 5,Ye 33 2 31 32,Vdg 34 33,Vah 35 34,Va6 36 35,Va5 37 8 25 36,Yu 3 37])) (Ys1 7 [Yv 23 5,Vaf 24 23,Yv 5 24])))))) (Yq 9 [Ya 38 1 1,Vah 39 38,Yv 40 4,Ye 41 3 39 40,Vd3 42 41,Vah 43 42,Yh 44 43,Vb0 45 44 0] (Yz 45 (Ys1 10 [Yu 46 3,Vdm 47,Va5 48 8 46 47,Yu 3 48]) .skip)))) (Ys1 4 [Yv 12 4,Vaf 13 12,Yv 4 13])))))) (Yr 11 [Yu 49 3,Yu 2 49]))))⟩
theorem ok_c_Z3u:Qao prog 22 c_Z3u=true:=Qac func22 X0k
def j_Z3u_0 (M:Mach) (n0:Nat) (n1:Nat) (r1:Rk) (z1 z3 z4:V) (U:Objs):Ro:=Uap z4 fun x6=> UF n1 U [z1,z3,x6.ng] r1
def b_Z3u_1:=Udu z1 fun x11=> Uac x11 U fun x12=> Ube z4 x12 3 fun x13=> Udu x13 fun x14=> Uac x14 U fun x15=> Uam x15 fun x16=> Ual z5 x16 fun x17=> br x17.ng (Udu z1 fun x18=> Uac x18 U fun x19=> Ube z4 x19 3 fun x20=> Udu x20 fun x21=> Uac x21 U fun x22=> Ube z5 x22 2 fun x23=> Uc7 x23 fun x24=> Uac x24 U fun x25=> Udt x25 fun x26=> Ub8 z3 x26 U 1 8 fun x27=> Uap z5 fun x28=> UF n2 U [z1,x27,z4,x28.ng] r2) (Uae z1 U n2 fun y34=> Uar U n2 fun y35=> Uae z3 U n2 fun y36=> Uae z4 U n2 fun y37=> Uay U n2 fun s38=> Udu y34 fun x39=> Uac x39 s38 fun x40=> Ube y37 x40 3 fun x41=> Udu x41 fun x42=> Uac x42 s38 fun x43=> Uam x43 fun x44=> Ubd x44 0 fun x45=> br x45.ng (bd (Qam false 1 1 (.int .i64 0) [(0,(.int .i64 0))]) fun x46=> Ub8 y36 x46 s38 1 8 fun x47=> j_Z3u_0 M n0 n1 r1 y34 x47 y37 s38) (j_Z3u_0 M n0 n1 r1 y34 y36 y37 s38))
def l_Z3u_1:=M.fx (X0Le (b_Z3u_1 M n0 n1 r1 n2))
def b_Z3u_0:=Udu z1 fun x2=> Uac x2 U fun x3=> Uam x3 fun x4=> Ual z4 x4 fun x5=> br x5.ng (Uaa z1 U fun y48=> Uaa z3 U fun y49=> Uaa z4 U fun y50=> Uaj U 1 fun y51=> l_Z3u_1 M n0 n1 r1 U.length [y48,y49,y50,y51] U) (Uar U n1 fun y52=> Uae z3 U n1 fun y53=> Uay U n1 fun s54=> bd (oK false y53) (nK n0 s54))
def l_Z3u_0:=M.fx (X0Ld (b_Z3u_0 M n0 n1))
def s_Z3u:=Uaz a0 U fun p0=> Udh fun x1=> Uaa p0.1 p0.2 fun y55=> Uaa x1 p0.2 fun y56=> Ud2 p0.2 fun y57=> l_Z3u_0 M U.length p0.2.length [y55,y56,y57] p0.2
theorem k_Z3u:fnK M c_Z3u [a0] U=s_Z3u M a0 U:=X0k
def c_Z19:Ev.Fn:=⟨47,[.tmp 2],false,false,(Yq 0 [Vbz 1,Vbg 2] (Yj (Yq 1 [Ya 8 3 1,Vah 9 8,Yh 10 9,Vaw 11] (.block 0 (.loop [1,2,9,10,11] [2] (Yq 2 [Vat 12 11 10] (Yj (Yz 12 .skip (.exit 0)) (Yj (.block 1 (Yq 3 [Vet 13 9 11,Vah 14 13,Yu 4 14] (Yq 4 [Yu 15 4,Yh 16 15,Vaw 17] (.block 2 (.loop [1,2,9,10,11,15,16,17] [1,2,9,10,11] (Yq 5 [Vat 18 17 16] (Yj (Yz 18 .skip (.exit 2)) (Yj (.block 3 (Yq 6 [Vet 19 15 17,Vah 20 19,Yv 6 20] (Yj (Yq 7 [Yv 21 6,Vck 22 21 0,Yv 23 22,Vac 24 23 6,Vaq 25 23 1 1,Vae 26 23 25,Vax 27 23 26,Veu 28 23 24 27,Vap 29 23 28] (Yz 29 (.exit 3) .skip)) (Yq 8 [Ya 30 1 1,Vah 31 30,Yv 32 6,Ye 33 3 31 32,Ya 34 2 33,Vah 35 34,Yv 7 35] (Yq 9 [Yv 36 2,Yv 37 7,Vbo 38 46 36 37,Vbm 39 38] (Yz 39 (Ys1 10 [Yu 40 2,Yv 41 7,Vdv 42 41,Va5 43 16 40 42,Yu 2 43]) .skip)))))) (Ys1 11 [Vaf 44 17,Yv 17 44]))))))))) (Ys1 12 [Vaf 45 11,Yv 11 45]))))))) (Yr 13 [Yu 46 2,Yu 2 46])))⟩
theorem ok_c_Z19:Qao prog 24 c_Z19=true:=Qac func24 X0k
def j_Z19_0 (M:Mach) (n0:Nat) (n1:Nat) (r1:Rk) (n2:Nat) (r2:Rk) (z1 z2 z9 z10 z11 z15 z16 z17:V) (U:Objs):Ro:=Ua0 z17 fun x9=> UF n2 U [z1,z2,z9,z10,z11,z15,z16,x9.ng] r2
def b_Z19_1:=Uaw z17 z16 fun x8=> br x8.ng (Ubm z17 z15 1 fun x19=> Uac x19 U fun x20=> Uep x20 fun x21=> Ub9 x21 x20 fun x22=> Uas x21 z1 1 fun x23=> Uag x21 x23 U fun x24=> Ua5 x21 x24 fun x25=> bd (gdv x21.ng false (pu (eB .geq .no x22.ng x25.ng))) fun x26=> Uad x21 x26 fun x27=> br x27.ng (j_Z19_0 M n0 n1 r1 n2 r2 z1 z2 z9 z10 z11 z15 z16 z17 U) (Udu z1 fun x28=> Uac x28 U fun x29=> bd (pu (eI 3 x20.ng.ng.ng x29.ng)) fun x30=> Uaf x30 2 fun x31=> Uac x31 U fun x32=> bd (M.call 46 [z2.ng.ng,x32.ng.ng.ng] U) fun p33=> Ubh p33.1 fun x34=> br x34.ng (bd (Qam false 1 1 (.str []) [(0,x32.ng.ng.ng)]) fun x35=> Ub8 z2 x35 p33.2 1 16 fun x36=> j_Z19_0 M n0 n1 r1 n2 r2 z1 x36 z9 z10 z11 z15 z16 z17 p33.2) (j_Z19_0 M n0 n1 r1 n2 r2 z1 z2 z9 z10 z11 z15 z16 z17 p33.2))) (Uae z1 U n2 fun y37=> Uae z2 U n2 fun y38=> Uae z9 U n2 fun y39=> Uae z10 U n2 fun y40=> Uae z11 U n2 fun y41=> Uay U n2 fun s42=> Ua0 y41 fun x43=> UF n1 s42 [y37,y38,y39,y40,x43.ng] r1)
def l_Z19_1:=M.fx (X0Li (b_Z19_1 M n0 n1 r1 n2))
def b_Z19_0:=Uaw z11 z10 fun x4=> br x4.ng (Ubm z11 z9 1 fun x5=> Uac x5 U fun x6=> Uam x6 fun x7=> Uaa z1 U fun y50=> Uaa z2 U fun y51=> Uaa z9 U fun y52=> Uaa z10 U fun y53=> Uaa z11 U fun y54=> Uaa x6 U fun y55=> Uaa x7 U fun y56=> Ud2 U fun y57=> l_Z19_1 M n0 n1 r1 U.length [y50,y51,y52,y53,y54,y55,y56,y57] U) (Uae z2 U n1 fun y58=> Uay U n1 fun s59=> bd (oK false y58) (nK n0 s59))
def l_Z19_0:=M.fx (X0Lf (b_Z19_0 M n0 n1))
def s_Z19:=Uaz a0 U fun p0=> Uaf p0.1 3 fun x1=> Uac x1 p0.2 fun x2=> Uam x2 fun x3=> Uaa p0.1 p0.2 fun y60=> Ucc p0.2 fun y61=> Uaa x2 p0.2 fun y62=> Uaa x3 p0.2 fun y63=> Ud2 p0.2 fun y64=> l_Z19_0 M U.length p0.2.length [y60,y61,y62,y63,y64] p0.2
theorem k_Z19:fnK M c_Z19 [a0] U=s_Z19 M a0 U:=X0k
def c_Z3w:Ev.Fn:=⟨47,[.tmp 2],false,false,(Yq 0 [Vbz 1,Vbg 2] (Yq 1 [Va9 7,Yu 3 7] (Yj (Yq 2 [Vaw 4] (.block 0 (.loop [1,3,4] [2,3] (Yj (Yq 3 [Yv 8 4,Ya 9 3 1,Vah 10 9,Yh 11 10,Vat 12 8 11] (Yz 12 .skip (.exit 0))) (Yj (.block 1 (Yq 5 [Vaw 5] (.block 2 (.loop [1,3,4,5] [1,2,3,4] (Yj (Yq 6 [Yv 15 5,Ya 16 3 1,Vah 17 16,Yv 18 4,Vet 19 17 18,Vah 20 19,Yh 21 20,Vat 22 15 21] (Yz 22 .skip (.exit 2))) (Yj (.block 3 (Yj (.drw 8 [⟨Ya 25 1 1,0,[]⟩,⟨Yl 26 false 1 25,1,[]⟩,⟨Ya 27 3 1,2,[]⟩,⟨Yl 28 false 1 27,3,[]⟩,⟨Yv 29 4,4,[]⟩,⟨Ye 30 1 28 29,5,[]⟩,⟨Yl 31 false 1 30,6,[]⟩,⟨Yv 32 5,7,[]⟩,⟨Ye 33 1 31 32,8,[]⟩,⟨Yl 34 false 1 33,9,[]⟩,⟨Ye 35 3 26 34,10,[]⟩,⟨Ya 36 2 35,11,[]⟩,⟨Yl 37 false 1 36,12,[]⟩,⟨Yv 6 37,13,[]⟩]) (Yq 9 [Yv 38 3,Yv 39 6,Vbo 40 39 38 39,Vbm 41 40] (Yz 41 (Ys1 10 [Yu 42 3,Yv 43 6,Vdv 44 43,Va5 45 16 42 44,Yu 3 45]) .skip)))) (Ys1 7 [Yv 23 5,Vaf 24 23,Yv 5 24]))))))) (Ys1 4 [Yv 13 4,Vaf 14 13,Yv 4 14])))))) (Yr 11 [Yu 46 3,Yu 2 46]))))⟩
theorem ok_c_Z3w:Qao prog 25 c_Z3w=true:=Qac func25 X0k
def j_Z3w_0 (M:Mach) (n0:Nat) (n1:Nat) (r1:Rk) (n2:Nat) (r2:Rk) (z1 z3 z4 z5:V) (U:Objs):Ro:=Uap z5 fun x12=> UF n2 U [z1,z3,z4,x12.ng] r2
def b_Z3w_1:=Uaf z1 3 fun x6=> Uac x6 U fun x7=> Ube z4 x7 1 fun x8=> Uac x8 U fun x9=> Uam x9 fun x10=> Ual z5 x10 fun x11=> br x11.ng (Udu z1 fun x18=> Uac x18 U fun x19=> Uaf z1 3 fun x20=> Uac x20 U fun x21=> Ube z4 x21 1 fun x22=> Uac x22 U fun x23=> Ube z5 x23 1 fun x24=> Uac x24 U fun x25=> Ubm x25 x19 3 fun x26=> Uaf x26 2 fun x27=> Uac x27 U fun x28=> bd (M.call 39 [z3.ng.ng,x28.ng.ng.ng] U) fun p29=> Ubh p29.1 fun x30=> br x30.ng (bd (Qam false 1 1 (.str []) [(0,x28.ng.ng.ng)]) fun x31=> Ub8 z3 x31 p29.2 1 16 fun x32=> j_Z3w_0 M n0 n1 r1 n2 r2 z1 x32 z4 z5 p29.2) (j_Z3w_0 M n0 n1 r1 n2 r2 z1 z3 z4 z5 p29.2)) (Uae z1 U n2 fun y33=> Uar U n2 fun y34=> Uae z3 U n2 fun y35=> Uae z4 U n2 fun y36=> Uay U n2 fun s37=> Uap y36 fun x38=> UF n1 s37 [y33,y35,x38.ng] r1)
def l_Z3w_1:=M.fx (X0Le (b_Z3w_1 M n0 n1 r1 n2))
def b_Z3w_0:=Uaf z1 3 fun x2=> Uac x2 U fun x3=> Uam x3 fun x4=> Ual z4 x4 fun x5=> br x5.ng (Uaa z1 U fun y43=> Uaa z3 U fun y44=> Uaa z4 U fun y45=> Ud2 U fun y46=> l_Z3w_1 M n0 n1 r1 U.length [y43,y44,y45,y46] U) (Uar U n1 fun y47=> Uae z3 U n1 fun y48=> Uay U n1 fun s49=> bd (oK false y48) (nK n0 s49))
def l_Z3w_0:=M.fx (X0Ld (b_Z3w_0 M n0 n1))
def s_Z3w:=Uaz a0 U fun p0=> Udh fun x1=> Uaa p0.1 p0.2 fun y50=> Uaa x1 p0.2 fun y51=> Ud2 p0.2 fun y52=> l_Z3w_0 M U.length p0.2.length [y50,y51,y52] p0.2
theorem k_Z3w:fnK M c_Z3w [a0] U=s_Z3w M a0 U:=X0k
def c_Z28:Ev.Fn:=⟨26,[.tmp 4],false,false,(Yq 0 [Vbf 4] (Yj (Yq 1 [Vbp 6,Yh 7 6,Vcj 8,Yh 9 8,Vc7 10 7 9] (Ym 10 2 [Vbf 4])) (Yj (Yq 3 [Vaw 5] (.block 0 (.loop [0,1,5] [4] (Yj (Yq 4 [Yv 11 5,Vbp 12,Yh 13 12,Vat 14 11 13] (Yz 14 .skip (.exit 0))) (Yj (.block 1 (Yj (.drw 6 [⟨Yv 17 0,0,[]⟩,⟨Yv 18 5,1,[]⟩,⟨Ye 19 1 17 18,2,[]⟩,⟨Yl 20 false 1 19,3,[]⟩,⟨Yv 21 1,4,[]⟩,⟨Yv 22 5,5,[]⟩,⟨Ye 23 1 21 22,6,[]⟩,⟨Yl 24 false 1 23,7,[]⟩,⟨Yo 25 .neq .no 20 24,8,[]⟩]) (Ym 25 7 [Vbf 4]))) (Ys1 5 [Yv 15 5,Vaf 16 15,Yv 5 16])))))) (Yr 8 [Vdc 4]))))⟩
theorem ok_c_Z28:Qao prog 23 c_Z28=true:=Qac func23 X0k
def b_Z28_0 (M:Mach) (n0:Nat) (n1:Nat) (r1:Rk) (z0 z1 z5:V) (U:Objs):Ro:=Uau z0 fun x3=> Ual z5 x3 fun x4=> br x4.ng (Ubb z5 z0 1 fun x5=> Uac x5 U fun x6=> Ubb z5 z1 1 fun x7=> Uac x7 U fun x8=> Ubi x6 x8 fun x9=> br x9.ng (Ua6 U n1 fun y10=> Uay U n1 fun s11=> bd (oK false y10) (nK n0 s11)) (Uap z5 fun x12=> UF n1 U [z0,z1,x12.ng] r1)) (Uar U n1 fun y17=> Uay U n1 fun s18=> bd (oK false (.bool true)) (nK n0 s18))
def l_Z28_0:=M.fx (X0Ld (b_Z28_0 M n0 n1))
def s_Z28:=Uau a0 fun x0=> Uau a1 fun x1=> Ubi x0 x1 fun x2=> br x2.ng (bd (oK false (.bool false)) (nK U.length U)) (Uaa a0 U fun y19=> Uaa a1 U fun y20=> Ud2 U fun y21=> l_Z28_0 M U.length U.length [y19,y20,y21] U)
theorem k_Z28:fnK M c_Z28 [a0,a1] U=s_Z28 M a0 a1 U:=X0k
def c_Z3q:Ev.Fn:=⟨14,[.tmp 4,.tmp 5,.tmp 6],false,false,(Yq 0 [Vby 3,Vbg 4,Vaw 5,Vaw 6] (Yj (.drw 1 [⟨Yu 7 0,0,[]⟩,⟨Yl 9 true 4 3,2,[]⟩,⟨Yc 8 48 [7],1,[1]⟩,⟨Yc 10 47 [8,9],3,[]⟩,⟨Yx 11 10 0,4,[]⟩,⟨Yx 12 10 1,5,[]⟩,⟨Yx 13 10 2,6,[]⟩,⟨Yv 4 11,7,[]⟩,⟨Yv 5 12,8,[]⟩,⟨Yv 6 13,9,[]⟩]) .ret))⟩
theorem ok_c_Z3q:Qao prog 26 c_Z3q=true:=Qac func26 X0k
def c_Z20:Ev.Fn:=⟨37,[.tmp 2],false,false,(Yq 0 [Vbz 1,Vbf 2] (Yj (Yq 1 [Ya 5 2 1,Vah 6 5,Yh 7 6,Vb0 8 7 30,Yv 9 8,Vaq 10 9 3 1,Vae 11 9 10,Vax 12 9 11,Vav 13 9 12 30,Vap 14 9 13,Yv 15 14,Vaq 16 15 1 1,Vae 17 15 16,Vco 18 15 17,Vav 19 15 18 100,Vap 20 15 19] (Ym 20 2 [Vdc 2])) (Yj (Yj (.drw 3 [⟨Yk 21 (.buildSl false 1 0 .any [] false),0,[]⟩,⟨Ya 22 2 1,1,[]⟩,⟨Yl 23 false 1 22,2,[]⟩,⟨Ya 25 3 1,4,[]⟩,⟨Yl 26 false 1 25,5,[]⟩,⟨Yv 29 (Yi 0),8,[]⟩,⟨Yk 24 (.app false false 1 16 21 23 true),3,[4]⟩,⟨Yk 27 (.app false false 1 16 24 26 true),6,[]⟩,⟨Yh 28 27,7,[]⟩]) (.block 0 (.loop [27,28,29] [2] (Yq 4 [Vat 30 29 28] (Yj (Yz 30 .skip (.exit 0)) (Yj (.block 1 (Yq 5 [Vet 31 27 29,Vah 32 31,Yv 4 32] (Yq 6 [Yv 33 4,Vec 34 33,Vb0 35 34 100] (Ym 35 7 [Vdc 2])))) (Ys1 8 [Vaf 36 29,Yv 29 36]))))))) (Yr 9 [Vbf 2]))))⟩
theorem ok_c_Z20:Qao prog 27 c_Z20=true:=Qac func27 X0k
def b_Z20_0 (M:Mach) (n0:Nat) (n1:Nat) (r1:Rk) (z27 z28 z29:V) (U:Objs):Ro:=Uaw z29 z28 fun x25=> br x25.ng (Ubm z29 z27 1 fun x26=> Uac x26 U fun x27=> bd (pu (Qfw x27.ng.ng.ng)) fun x28=> Ubd x28 100 fun x29=> br x29.ng (Udi U n1 fun y30=> Uay U n1 fun s31=> bd (oK false y30) (nK n0 s31)) (Ua0 z29 fun x32=> UF n1 U [z27,z28,x32.ng] r1)) (Uar U n1 fun y37=> Uay U n1 fun s38=> bd (oK false (.bool false)) (nK n0 s38))
def l_Z20_0:=M.fx (X0Ld (b_Z20_0 M n0 n1))
def s_Z20:=Uaz a0 U fun p0=> Uaf p0.1 2 fun x1=> Uac x1 p0.2 fun x2=> Uam x2 fun x3=> Ubd x3 30 fun x4=> Uas x4 p0.1 3 fun x5=> Uag x4 x5 p0.2 fun x6=> Ua5 x4 x6 fun x7=> Ubf x4 x7 30 fun x8=> Uad x4 x8 fun x9=> Uas x9 p0.1 1 fun x10=> Uag x9 x10 p0.2 fun x11=> Udk x9 x11 fun x12=> Ubf x9 x12 100 fun x13=> Uad x9 x13 fun x14=> br x14.ng (bd (oK false (.bool true)) (nK U.length p0.2)) (Udh fun x15=> Uaf p0.1 2 fun x16=> Uac x16 p0.2 fun x17=> Uaf p0.1 3 fun x18=> Uac x18 p0.2 fun x19=> bd (Qgd [Qcn false 1 x18.ng] p0.2) fun s20=> Ub8 x15 x17 s20 1 16 fun x22=> bd (Qei [Qcn false 1 x18.ng] p0.2 s20) fun s21=> Ub8 x22 x19 s21 1 16 fun x23=> Uam x23 fun x24=> Uaa x23 s21 fun y39=> Uaa x24 s21 fun y40=> Ud2 s21 fun y41=> l_Z20_0 M U.length s21.length [y39,y40,y41] s21)
theorem k_Z20:fnK M c_Z20 [a0] U=s_Z20 M a0 U:=X0k
def c_Z3a:Ev.Fn:=⟨10,[.tmp 4],false,false,(Yq 0 [Vbf 4] (Yr 1 [Vez 5,Vcj 6,Vc6 7 49 5 6 0,Vcj 8,Vdo 9 7 8,Yv 4 9]))⟩
theorem ok_c_Z3a:Qao prog 28 c_Z3a=true:=Qac func28 X0k
def s_Z3a:=bd (M.call 49 [a0.ng,a1.ng.ng,(.int .i64 0)] U) fun p0=> bd (pu (eB .gtr .no p0.1.ng a1.ng.ng)) fun x1=> bd (oK false x1.ng) (nK U.length p0.2)
theorem k_Z3a:fnK M c_Z3a [a0,a1] U=s_Z3a M a0 a1 U:=X0k
def c_Z1i:Ev.Fn:=⟨52,[.tmp 2],false,false,(Yq 0 [Vbz 1,Vcr 2] (Yq 1 [Ya 6 2 1,Vah 7 6,Yh 8 7,Ya 9 3 1,Vah 10 9,Yh 11 10,Vcm 12 8 11,Yv 13 12,Vam 14 13 1 1,Vad 15 13 14,Van 16 13 50 15,Vag 17 13 16,Yv 3 17] (Yj (Yq 2 [Ya 18 2 1,Vah 19 18,Yh 20 19,Vaw 21] (.block 0 (.loop [1,3,19,20,21] [2,3] (Yq 3 [Vat 22 21 20] (Yj (Yz 22 .skip (.exit 0)) (Yj (.block 1 (Yq 4 [Yv 23 21,Vet 24 19 21,Vah 25 24,Yv 4 23,Yv 5 25] (Ys1 5 [Yv 26 3,Yv 27 26,Vaa 28 27 5,Van 29 27 51 28,Vag 30 27 29,Yv 31 30,Vam 32 31 2 1,Vad 33 31 32,Vaa 34 31 4,⟨some 35,(some (31,true)),.cut 1 33 none (some 34) none⟩,Vaa 36 31 5,Va4 37 31 46 35 36,Vak 38 31 37,Vag 39 31 38,Yv 40 39,Vam 41 40 3 1,Vad 42 40 41,Vaa 43 40 4,Vb2 44 40 42 43,Vad 45 40 44,Van 46 40 50 45,Vag 47 40 46,Yv 3 47]))) (Ys1 6 [Vaf 48 21,Yv 21 48]))))))) (Yj (Yq 7 [Yv 49 3,Vbm 50 49] (Ym 50 8 [Ve4 51 52 11,Yv 2 51])) (Yr 9 [Vcr 2])))))⟩
theorem ok_c_Z1i:Qao prog 29 c_Z1i=true:=Qac func29 X0k
def b_Z1i_0:=Uaw z21 z20 fun x15=> br x15.ng (Ubm z21 z19 1 fun x16=> Uac x16 U fun x17=> Ueo z3 x17 fun x18=> bd (gdp z3.ng.ng true (M.call 51 [x18.ng] U) U) fun p19=> Ud7 z3 p19.1 fun x20=> Ua9 x20 z1 2 fun x21=> Uax x20 x21 p19.2 fun x22=> Ueq x20 z21 fun x23=> bd (gdv x20.ng true (pu (Qbm 1 x22.ng none (some x23.ng) none))) fun x24=> Uan x20 x17 fun x25=> Uci x20 x24 x25 p19.2 46 M fun p26=> Uav x20 p26.1 fun x27=> Uab x20 x27 fun x28=> Ua9 x28 z1 3 fun x29=> Uax x28 x29 p26.2 fun x30=> Ueq x28 z21 fun x31=> bd (gdv x28.ng true (pu (eI 1 x31.ng x30.ng))) fun x32=> Uax x28 x32 p26.2 fun x33=> Ua1 x28 x33 p26.2 50 M fun p34=> Uab x28 p34.1 fun x35=> Ua0 z21 fun x36=> UF n1 p34.2 [z1,x35.ng,z19,z20,x36.ng] r1) (Uar U n1 fun y43=> Uae z3 U n1 fun y44=> Uay U n1 fun s45=> Udy y44 fun x46=> br x46.ng (bd (M.call 52 [(.int .i64 11),(.int .i64 0)] s45) fun p47=> bd (oK false p47.1.ng) (nK n0 p47.2)) (bd (oK false .nili) (nK n0 s45)))
def l_Z1i_0:=M.fx (X0Lf (b_Z1i_0 M n0 n1))
def s_Z1i:=Uaz a0 U fun p0=> Uaf p0.1 2 fun x1=> Uac x1 p0.2 fun x2=> Uam x2 fun x3=> Uaf p0.1 3 fun x4=> Uac x4 p0.2 fun x5=> Uam x5 fun x6=> bd (pu (eB .eql .no x3.ng x6.ng)) fun x7=> Ua9 x7 p0.1 1 fun x8=> Uax x7 x8 p0.2 fun x9=> Ua1 x7 x9 p0.2 50 M fun p10=> Uab x7 p10.1 fun x11=> Uaf p0.1 2 fun x12=> Uac x12 p10.2 fun x13=> Uam x13 fun x14=> Uaa p0.1 p10.2 fun y48=> Ua2 x11 p10.2 fun y49=> Uaa x13 p10.2 fun y50=> Uaa x14 p10.2 fun y51=> Ud2 p10.2 fun y52=> l_Z1i_0 M U.length p10.2.length [y48,y49,y50,y51,y52] p10.2
theorem k_Z1i:fnK M c_Z1i [a0] U=s_Z1i M a0 U:=X0k
def c_Z1h:Ev.Fn:=⟨23,[.tmp 4],false,false,(Yq 0 [Vby 3,Vcr 4] (Yj (Yq 1 [Va7 6 4 3,Vc9 7 29 6,Yv 5 7] (Yq 2 [Yv 8 5,Vcw 9 8] (Ym 9 3 [Yv 10 5,Yv 4 10]))) (Yj (.block 0 (Yq 4 [Vbp 12,Vc9 13 53 12,Vb0 14 13 32,Yv 11 14] (Yz 11 (Yr 5 [Ve4 15 52 12,Yv 4 15]) (Yq 6 [Va7 17 4 3,Yk 18 (.build [Yb,Yn,.nils,.nils] [(0,4,17)]),Vez 19,Yc 20 54 [18,19,Yt],Vbm 21 20,Yv 16 21] (Ym 16 7 [Ve4 22 52 10,Yv 4 22]))))) (Yr 8 [Vcr 4]))))⟩
theorem ok_c_Z1h:Qao prog 30 c_Z1h=true:=Qac func30 X0k
def s_Z1h:=Uaz a1 U fun p0=> Uaq p0.1 p0.2 4 fun x1=> Ubr x1 p0.2 29 M fun p2=> Ucm p2.1 fun x3=> br x3.ng (bd (oK false p2.1.ng.ng.ng) (nK U.length p2.2)) (Udx a0 p2.2 53 M fun p4=> Ubd p4.1 32 fun x5=> br x5.ng.ng (bd (M.call 52 [(.int .i64 12),(.int .i64 0)] p4.2) fun p6=> bd (oK false p6.1.ng) (nK U.length p6.2)) (Uaq p0.1 p4.2 4 fun x7=> bd (pu (Qaw [(.bool false),(.str []),.nils,.nils] [(0,4,x7.ng)])) fun x8=> bd (M.call 54 [x8.ng,a0.ng,(.bool true)] p4.2) fun p9=> Ubh p9.1 fun x10=> br x10.ng.ng (bd (M.call 52 [(.int .i64 10),(.int .i64 0)] p9.2) fun p11=> bd (oK false p11.1.ng) (nK U.length p11.2)) (bd (oK false .nili) (nK U.length p9.2))))
theorem k_Z1h:fnK M c_Z1h [a0,a1] U=s_Z1h M a0 a1 U:=X0k
def c_Z15:Ev.Fn:=⟨13,[.tmp 6],false,false,(Yq 0 [Vcr 6] (Yr 1 [Vbp 7,Vcj 8,Yv 9 2,Yk 10 (.build [Y0,Y0,.nili] [(0,1,7),(1,1,8),(2,1,9)]),Vd8 11 10,Yk 12 (.mkif 98 11),Yv 6 12]))⟩
theorem ok_c_Z15:Qao prog 31 c_Z15=true:=Qac func31 X0k
def s_Z15 (M:Mach) (a0 a1 a2:V) (U:Objs):Ro:=bd (pu (Qaw [(.int .i64 0),(.int .i64 0),.nili] [(0,1,a0.ng.ng),(1,1,a1.ng.ng),(2,1,a2.ng.ng)])) fun x0=> Uaz x0 U fun p1=> bd (oK false (.ifc 98 p1.1.ng)) (nK U.length p1.2)
theorem k_Z15:fnK M c_Z15 [a0,a1,a2] U=s_Z15 M a0 a1 a2 U:=X0k
def c_Z6:Ev.Fn:=⟨21,[.tmp 4],false,false,(Yq 0 [Vbg 4] (Yj (Yq 1 [Yu 7 1,Yh 8 7,Vaw 9] (.block 0 (.loop [0,4,7,8,9] [4] (Yq 2 [Vat 10 9 8] (Yj (Yz 10 .skip (.exit 0)) (Yj (.block 1 (Yq 3 [Vet 11 7 9,Va7 12 1 11,Vcf 6,Var 1 6 12] (Ys1 4 [Yu 13 4,Vbp 14,Va7 15 1 6,Vbo 16 55 14 15,Va6 17 16,Va5 18 8 13 17,Yu 4 18]))) (Ys1 5 [Vaf 19 9,Yv 9 19]))))))) (Yr 6 [Yu 20 4,Yu 4 20])))⟩
theorem ok_c_Z6:Qao prog 32 c_Z6=true:=Qac func32 X0k
def b_Z6_0:=Uaw z9 z8 fun x1=> br x1.ng (Ubm z9 z7 1 fun x2=> Uaq x2 U 1 fun x3=>
 let s4:Objs:=U++[.cells [.nils]]
 Uao x3 s4 U 1 0 fun p5=> Ub1 p5.2 U 1 0 fun x6=> Ubj z0 x6 p5.2 55 M fun p7=> Udt p7.1 fun x8=> Ub8 z4 x8 p7.2 1 8 fun x9=> Ua0 z9 fun x10=> UF n1 p7.2 [z0,x9,z7,z8,x10.ng] r1) (Uae z4 U n1 fun y17=> Uay U n1 fun s18=> bd (oK false y17) (nK n0 s18))
def l_Z6_0:=M.fx (X0Lf (b_Z6_0 M n0 n1))
def s_Z6:=Uam a1 fun x0=> Uaa a0 U fun y19=> Ucc U fun y20=> Uaa a1 U fun y21=> Uaa x0 U fun y22=> Ud2 U fun y23=> l_Z6_0 M U.length U.length [y19,y20,y21,y22,y23] U
theorem k_Z6:fnK M c_Z6 [a0,a1] U=s_Z6 M a0 a1 U:=X0k
def c_Z3t:Ev.Fn:=⟨6,[.tmp 2],false,false,(Yq 0 [Vbf 2] (Yr 1 [Vbp 3,Vei 4 3,Vc9 5 56 4,Yv 2 5]))⟩
theorem ok_c_Z3t:Qao prog 33 c_Z3t=true:=Qac func33 X0k
def s_Z3t:=Uea a0 U fun x0=> Ubr x0 U 56 M fun p1=> bd (oK false p1.1.ng) (nK U.length p1.2)
theorem k_Z3t:fnK M c_Z3t [a0] U=s_Z3t M a0 U:=X0k
def c_Z3h:Ev.Fn:=⟨6,[.tmp 2],false,false,(Yq 0 [Vbf 2] (Yq 1 [Yk 3 (.buildSl false 1 10 Yn [(0,(Ys [104,111,118,101,114])),(1,(Ys [97,99,116,105,118,101])),(2,(Ys [102,111,99,117,115])),(3,(Ys [102,111,99,117,115,45,118,105,115,105,98,108,101])),(4,(Ys [118,105,115,105,116,101,100])),(5,(Ys [108,105,110,107])),(6,(Ys [99,104,101,99,107,101,100])),(7,(Ys [100,105,115,97,98,108,101,100])),(8,(Ys [101,110,97,98,108,101,100])),(9,(Ys [116,97,114,103,101,116]))] false),Vbp 4,Vbo 5 39 3 4,Yv 2 5] .ret))⟩
theorem ok_c_Z3h:Qao prog 34 c_Z3h=true:=Qac func34 X0k
def s_Z3h:=bd (Qam false 1 10 (.str []) [(0,(.str [104,111,118,101,114])),(1,(.str [97,99,116,105,118,101])),(2,(.str [102,111,99,117,115])),(3,(.str [102,111,99,117,115,45,118,105,115,105,98,108,101])),(4,(.str [118,105,115,105,116,101,100])),(5,(.str [108,105,110,107])),(6,(.str [99,104,101,99,107,101,100])),(7,(.str [100,105,115,97,98,108,101,100])),(8,(.str [101,110,97,98,108,101,100])),(9,(.str [116,97,114,103,101,116]))]) fun x0=> Ud3 x0 a0 U 39 M fun p1=> bd (oK false p1.1.ng) (nK U.length p1.2)
theorem k_Z3h:fnK M c_Z3h [a0] U=s_Z3h M a0 U:=X0k
def c_Z38:Ev.Fn:=⟨60,[.tmp 2],false,false,(Yq 0 [Vaw 2] (Yq 1 [Vaw 3] (Yj (Yq 2 [Vaw 4] (.block 0 (.loop [0,3,4] [2,3] (Yj (Yq 3 [Yv 8 4,Vbp 9,Yh 10 9,Vat 11 8 10] (Yz 11 .skip (.exit 0))) (Yj (.block 1 (Yq 5 [Vaw 5] (.block 2 (.loop [0,3,4,5] [0,2,3,4] (Yj (Yq 6 [Yv 14 5,Vbp 15,Yv 16 4,Vet 17 15 16,Vdg 18 17,Vah 19 18,Yh 20 19,Vat 21 14 20] (Yz 21 .skip (.exit 2))) (Yj (.block 3 (Yq 8 [Vaw 6] (.block 4 (.loop [0,3,4,5,6] [0,2,3,4,5] (Yj (Yq 9 [Yv 24 6,Vbp 25,Yv 26 4,Vet 27 25 26,Vdg 28 27,Vah 29 28,Yv 30 5,Ye 31 2 29 30,Vd3 32 31,Vah 33 32,Yh 34 33,Vat 35 24 34] (Yz 35 .skip (.exit 4))) (Yj (.block 5 (Yq 11 [Vbp 38,Yv 39 4,Vet 40 38 39,Vdg 41 40,Vah 42 41,Yv 43 5,Ye 44 2 42 43,Vd3 45 44,Vah 46 45,Yv 47 6,Ye 48 11 46 47,Ya 49 10 48,Vah 50 49,Yu 7 50] (Yq 12 [Yv 51 7,Yh 52 51,Vb0 53 52 0] (Yz 53 (Ys1 13 [Yv 54 3,Yu 55 7,Vc9 56 35 55,Vdj 57 54 56,Yv 3 57]) .skip)))) (Ys1 10 [Yv 36 6,Vaf 37 36,Yv 6 37]))))))) (Ys1 7 [Yv 22 5,Vaf 23 22,Yv 5 23]))))))) (Ys1 4 [Yv 12 4,Vaf 13 12,Yv 4 13])))))) (Yr 14 [Yv 58 3,Vaf 59 58,Yv 2 59]))))⟩
theorem ok_c_Z38:Qao prog 35 c_Z38=true:=Qac func35 X0k
def j_Z38_0 (M:Mach) (n0:Nat) (n1:Nat) (r1:Rk) (n2:Nat) (r2:Rk) (n3:Nat) (r3:Rk) (z0 z3 z4 z5 z6:V) (U:Objs):Ro:=Uap z6 fun x15=> UF n3 U [z0,z3,z4,z5,x15.ng] r3
def b_Z38_2:=Ubb z4 z0 1 fun x7=> Uc7 x7 fun x8=> Uac x8 U fun x9=> Ube z5 x9 2 fun x10=> Udu x10 fun x11=> Uac x11 U fun x12=> Uam x12 fun x13=> Ual z6 x13 fun x14=> br x14.ng (Ubb z4 z0 1 fun x22=> Uc7 x22 fun x23=> Uac x23 U fun x24=> Ube z5 x24 2 fun x25=> Udu x25 fun x26=> Uac x26 U fun x27=> Ube z6 x27 11 fun x28=> Uaf x28 10 fun x29=> Uac x29 U fun x30=> Uau x30 fun x31=> Ubd x31 0 fun x32=> br x32.ng (Ubr x30 U 35 M fun p33=> Uev z3 p33.1 fun x34=> j_Z38_0 M n0 n1 r1 n2 r2 n3 r3 z0 x34.ng z4 z5 z6 p33.2) (j_Z38_0 M n0 n1 r1 n2 r2 n3 r3 z0 z3 z4 z5 z6 U)) (Uae z0 U n3 fun y35=> Uar U n3 fun y36=> Uae z3 U n3 fun y37=> Uae z4 U n3 fun y38=> Uae z5 U n3 fun y39=> Uay U n3 fun s40=> Uap y39 fun x41=> UF n2 s40 [y35,y37,y38,x41.ng] r2)
def l_Z38_2:=M.fx (X0Lf (b_Z38_2 M n0 n1 r1 n2 r2 n3))
def b_Z38_1:=Ubb z4 z0 1 fun x2=> Uc7 x2 fun x3=> Uac x3 U fun x4=> Uam x4 fun x5=> Ual z5 x5 fun x6=> br x6.ng (Uaa z0 U fun y47=> Uaa z3 U fun y48=> Uaa z4 U fun y49=> Uaa z5 U fun y50=> Ud2 U fun y51=> l_Z38_2 M n0 n1 r1 n2 r2 U.length [y47,y48,y49,y50,y51] U) (Uae z0 U n2 fun y52=> Uar U n2 fun y53=> Uae z3 U n2 fun y54=> Uae z4 U n2 fun y55=> Uay U n2 fun s56=> Uap y55 fun x57=> UF n1 s56 [y52,y54,x57.ng] r1)
def l_Z38_1:=M.fx (X0Le (b_Z38_1 M n0 n1 r1 n2))
def b_Z38_0:=Uau z0 fun x0=> Ual z4 x0 fun x1=> br x1.ng (Uaa z0 U fun y62=> Uaa z3 U fun y63=> Uaa z4 U fun y64=> Ud2 U fun y65=> l_Z38_1 M n0 n1 r1 U.length [y62,y63,y64,y65] U) (Uar U n1 fun y66=> Uae z3 U n1 fun y67=> Uay U n1 fun s68=> Uap y67 fun x69=> bd (oK false x69.ng) (nK n0 s68))
def l_Z38_0:=M.fx (X0Ld (b_Z38_0 M n0 n1))
def s_Z38:=Uaa a0 U fun y70=> Ud2 U fun y71=> Ud2 U fun y72=> l_Z38_0 M U.length U.length [y70,y71,y72] U
theorem k_Z38:fnK M c_Z38 [a0] U=s_Z38 M a0 U:=X0k
def c_Z3e:Ev.Fn:=⟨135,[.tmp 6],false,false,(Yq 0 [Vby 4,Vbf 6] (Yj (Yq 1 [Vaw 7] (.block 0 (.loop [0,2,4,7] [0,6] (Yj (Yq 2 [Yv 13 7,Vbp 14,Yh 15 14,Vat 16 13 15] (Yz 16 .skip (.exit 0))) (Yj (.block 1 (Yq 4 [Vbp 19,Yv 20 7,Vet 21 19 20,Vdg 22 21,Vah 23 22,Yu 8 23] (Yj (Yq 5 [Vaw 9] (.block 2 (.loop [0,2,4,7,8,9] [0,2,4,6,7,8] (Yj (Yq 6 [Yv 24 9,Yv 25 8,Yh 26 25,Vat 27 24 26] (Yz 27 .skip (.exit 2))) (Yj (.block 3 (Yj (Yq 8 [Yv 30 8,Yv 31 9,Ye 32 2 30 31,Vdg 33 32,Vah 34 33,Vck 35 34 0,Yv 36 35,Vac 37 36 8,Vac 38 36 9,Vbu 39 36 2 37 38,Vaq 40 36 0 39,Vae 41 36 40,Vav 42 36 41 4,Vap 43 36 42,Yv 44 43,Vac 45 44 8,Vac 46 44 9,Vbu 47 44 2 45 46,Vaq 48 44 0 47,Vae 49 44 48,Vao 50 44 49 0,Vac 51 44 9,Vao 52 44 51 0,Vc2 53 44 50 52,Vap 54 44 53,Yv 55 54,Vac 56 55 8,Vac 57 55 9,Vbu 58 55 2 56 57,Vaq 59 55 1 58,Vae 60 55 59,Vax 61 55 60,Vao 62 55 61 0,Vap 63 55 62] (Ym 63 9 [Vbf 6])) (Yq 10 [Vaw 10] (.block 4 (.loop [0,2,4,7,8,9,10] [0,2,4,6,7,8,9] (Yj (Yq 11 [Yv 64 10,Yv 65 8,Yv 66 9,Ye 67 2 65 66,Vd3 68 67,Vah 69 68,Yh 70 69,Vat 71 64 70] (Yz 71 .skip (.exit 4))) (Yj (.block 5 (Yq 13 [Yv 74 8,Yv 75 9,Ye 76 2 74 75,Vd3 77 76,Vah 78 77,Yv 79 10,Ye 80 11 78 79,Va7 81 11 80,Vas 11,Var 11 11 81] (Yq 14 [Yv 82 9,Yv 83 8,Yh 84 83,Vcb 85 84,Vcm 86 82 85,Yv 87 86,Vaa 88 87 10,Vaa 89 87 8,Vaa 90 87 9,⟨some 91,(some (87,true)),.iaddr 2 89 90⟩,Vam 92 87 1 91,Vad 93 87 92,Va2 94 87 93,Vdp 95 87 94,Vbd 96 87 88 95,Vag 97 87 96,Yv 12 97] (Yq 15 [Va7 98 11 11,Va7 99 4 4,Vbo 100 57 98 99,Vbm 101 100,Yv 102 101,Vac 103 102 10,Vav 104 102 103 0,Vac 105 102 104,Vam 106 105 0 11,Vad 107 105 106,Vbk 108 105 107 1,Vaa 109 105 108,Vaq 110 109 0 11,Vae 111 109 110,Vao 112 109 111 2,Va0 113 105 109 112,Vba 114 102 105 113,Vap 115 102 114,Yv 116 115,Vaq 117 116 0 11,Vae 118 116 117,Vao 119 116 118 13,Vac 120 116 119,Vaa 121 120 2,Vak 122 120 121,Vaa 123 120 122,Vac 124 123 12,Va3 125 123 124,Va0 126 120 123 125,Vba 127 116 120 126,Vap 128 116 127] (Ym 128 16 [Vbf 6]))))) (Ys1 12 [Yv 72 10,Vaf 73 72,Yv 10 73])))))))) (Ys1 7 [Yv 28 9,Vaf 29 28,Yv 9 29])))))) (Yq 17 [Yu 129 8,Yh 130 129,Vaj 131 130] (Ym 131 18 [Vbf 6]))))) (Ys1 3 [Yv 17 7,Vaf 18 17,Yv 7 18])))))) (Yr 19 [Vez 132,Yh 133 132,Vb0 134 133 0,Yv 6 134])))⟩
theorem ok_c_Z3e:Qao prog 36 c_Z3e=true:=Qac func36 X0k
def j_Z3e_0 (M:Mach) (n0:Nat) (n1:Nat) (r1:Rk) (z0 z6:V) (U:Objs):Ro:=Uae z0 U n1 fun y1=> Uae z6 U n1 fun y2=> Uay U n1 fun s3=> bd (oK false y2) (nK n0 s3)
def j_Z3e_1 (M:Mach) (n0:Nat) (n1:Nat) (r1:Rk) (n2:Nat) (r2:Rk) (z0 z2 z4 z6 z7 z8:V) (U:Objs):Ro:=Uae z0 U n2 fun y9=> Uae z2 U n2 fun y10=> Uae z4 U n2 fun y11=> Uae z6 U n2 fun y12=> Uae z7 U n2 fun y13=> Uae z8 U n2 fun y14=> Uay U n2 fun s15=> j_Z3e_0 M n0 n1 r1 y9 y12 s15
def b_Z3e_2:=Ubb z9 z8 2 fun x47=> Udu x47 fun x48=> Uac x48 U fun x49=> Uam x49 fun x50=> Ual z10 x50 fun x51=> br x51.ng (Ubb z9 z8 2 fun x52=> Udu x52 fun x53=> Uac x53 U fun x54=> Ube z10 x54 11 fun x55=> Uaq x55 U 11 fun x56=>
 let s57:Objs:=U++[.cells [(.int .i64 0),(.int .i64 0),(.str []),(.str []),(.int .i64 0),(.str []),(.bool false),(.int .i64 0),(.int .i64 0),(.int .i64 0),.nils]]
 Uao x56 s57 U 11 0 fun p58=> Uau z8 fun x59=> Ubz x59 1 fun x60=> Udm z9 x60 fun x61=> Uak x61 z10 fun x62=> Uak x61 z8 fun x63=> Uak x61 z9 fun x64=> bd (gdv x61.ng true (pu (eI 2 x64.ng x63.ng))) fun x65=> Ua9 x61 x65 1 fun x66=> Uax x61 x66 p58.2 fun x67=> Uby x61 x67 fun x68=> bd (gdv x61.ng true (pu (eB .sub .no x68.ng (.int .i64 1)))) fun x69=> Ubg x61 x62 x69 fun x70=> Uab x61 x70 fun x71=> Ub1 p58.2 U 11 0 fun x72=> Uaq z4 p58.2 4 fun x73=> Ucn x72 x73 p58.2 57 M fun p74=> Ubh p74.1 fun x75=> Uah x75 z10 fun x76=> Ubf x75 x76 0 fun x77=> Uah x75 x77 fun x78=> bd (gdv x78 true (pu (eF 0 (.ptr U.length 0)))) fun x79=> bd (gdv x78 true (pu (eL p74.2 false 1 x79.ng))) fun x80=> bd (gdv x78 true (pu (eB .eql .no x80.ng (.int .i64 1)))) fun x81=> Uc2 x78 x81 fun x82=> bd (gdv x82 false (pu (eF 0 (.ptr U.length 0)))) fun x83=> Ucx x82 x83 p74.2 fun x84=> bd (gdv x82 false (pu (eB .eql .no x84.ng (.int .i64 2)))) fun x85=> Ud1 x78 x82 x85 fun x86=> Ub0 x75 x78 x86 fun x87=> Uad x75 x87 fun x88=> Ucq x88 U fun x89=> Uag x88 x89 p74.2 fun x90=> Ua4 x88 x90 13 fun x91=> Uah x88 x91 fun x92=> Uc2 x92 z2 fun x93=> Udf x92 x93 fun x94=> Uc2 x92 x94 fun x95=> bd (gdv x95 false (some x71.ng.ng)) fun x96=> bd (gdv x95 false (pu (evUn .not x96.ng))) fun x97=> Ud1 x92 x95 x97 fun x98=> Ub0 x88 x92 x98 fun x99=> Uad x88 x99 fun x100=> br x100.ng (Uae z0 p74.2 n3 fun y101=> Uae z2 p74.2 n3 fun y102=> Uae z4 p74.2 n3 fun y103=> Ua6 p74.2 n3 fun y104=> Uae z7 p74.2 n3 fun y105=> Uae z8 p74.2 n3 fun y106=> Uae z9 p74.2 n3 fun y107=> Uay p74.2 n3 fun s108=> j_Z3e_1 M n0 n1 r1 n2 r2 y101 y102 y103 y104 y105 y106 s108) (Uap z10 fun x109=> UF n3 p74.2 [z0,z2,z4,z7,z8,z9,x109.ng] r3)) (Uae z0 U n3 fun y118=> Uae z2 U n3 fun y119=> Uae z4 U n3 fun y120=> Uar U n3 fun y121=> Uae z7 U n3 fun y122=> Uae z8 U n3 fun y123=> Uae z9 U n3 fun y124=> Uay U n3 fun s125=> Uap y124 fun x126=> UF n2 s125 [y118,y119,y120,y122,y123,x126.ng] r2)
def l_Z3e_2:=M.fx (X0Lh (b_Z3e_2 M n0 n1 r1 n2 r2 n3))
def b_Z3e_1:=Uau z8 fun x16=> Ual z9 x16 fun x17=> br x17.ng (Ubb z9 z8 2 fun x18=> Uc7 x18 fun x19=> Uac x19 U fun x20=> Ucw x20 0 fun x21=> Uah x21 z8 fun x22=> Uah x21 z9 fun x23=> Ubp x21 x23 x22 2 fun x24=> Uas x21 x24 0 fun x25=> Uag x21 x25 U fun x26=> Ubf x21 x26 4 fun x27=> Uad x21 x27 fun x28=> Uah x28 z8 fun x29=> Uah x28 z9 fun x30=> Ubp x28 x30 x29 2 fun x31=> Uas x28 x31 0 fun x32=> Uag x28 x32 U fun x33=> Ua4 x28 x33 0 fun x34=> Uah x28 z9 fun x35=> Ua4 x28 x35 0 fun x36=> Udw x28 x34 x36 fun x37=> Uad x28 x37 fun x38=> Uah x38 z8 fun x39=> Uah x38 z9 fun x40=> Ubp x38 x40 x39 2 fun x41=> Uas x38 x41 1 fun x42=> Uag x38 x42 U fun x43=> Ua5 x38 x43 fun x44=> Ua4 x38 x44 0 fun x45=> Uad x38 x45 fun x46=> br x46.ng (j_Z3e_1 M n0 n1 r1 n2 r2 z0 z2 z4 (.bool false) z7 z8 U) (Uaa z0 U fun y134=> Uaa z2 U fun y135=> Uaa z4 U fun y136=> Uaa z7 U fun y137=> Uaa z8 U fun y138=> Uaa z9 U fun y139=> Ud2 U fun y140=> l_Z3e_2 M n0 n1 r1 n2 r2 U.length [y134,y135,y136,y137,y138,y139,y140] U)) (Uae z0 U n2 fun y141=> Uae z2 U n2 fun y142=> Uae z4 U n2 fun y143=> Uar U n2 fun y144=> Uae z7 U n2 fun y145=> Uae z8 U n2 fun y146=> Uay U n2 fun s147=> Uam y146 fun x148=> Uai x148 0 fun x149=> br x149.ng (j_Z3e_0 M n0 n1 r1 y141 (.bool false) s147) (Uap y145 fun x150=> UF n1 s147 [y141,y142,y143,x150.ng] r1))
def l_Z3e_1:=M.fx (X0Lg (b_Z3e_1 M n0 n1 r1 n2))
def b_Z3e_0:=Uau z0 fun x4=> Ual z7 x4 fun x5=> br x5.ng (Ubb z7 z0 1 fun x6=> Uc7 x6 fun x7=> Uac x7 U fun x8=> Uaa z0 U fun y156=> Uaa z2 U fun y157=> Uaa z4 U fun y158=> Uaa z7 U fun y159=> Uaa x8 U fun y160=> Ud2 U fun y161=> l_Z3e_1 M n0 n1 r1 U.length [y156,y157,y158,y159,y160,y161] U) (Uae z0 U n1 fun y162=> Uar U n1 fun y163=> Uay U n1 fun s164=> Uam y162 fun x165=> Ubd x165 0 fun x166=> bd (oK false x166.ng) (nK n0 s164))
def l_Z3e_0:=M.fx (X0Le (b_Z3e_0 M n0 n1))
def s_Z3e:=Uaz a1 U fun p0=> Uaa a0 p0.2 fun y167=> Uaa a2 p0.2 fun y168=> Uaa p0.1 p0.2 fun y169=> Ud2 p0.2 fun y170=> l_Z3e_0 M U.length p0.2.length [y167,y168,y169,y170] p0.2
theorem k_Z3e:fnK M c_Z3e [a0,a1,a2] U=s_Z3e M a0 a1 a2 U:=X0k
def c_Z3m:Ev.Fn:=⟨6,[.tmp 2],false,false,(Yq 0 [Vbf 2] (Yr 1 [Vbp 3,Vei 4 3,Vc9 5 56 4,Yv 2 5]))⟩
theorem ok_c_Z3m:Qao prog 37 c_Z3m=true:=Qac func37 X0k
def s_Z3m:=Uea a0 U fun x0=> Ubr x0 U 56 M fun p1=> bd (oK false p1.1.ng) (nK U.length p1.2)
theorem k_Z3m:fnK M c_Z3m [a0] U=s_Z3m M a0 U:=X0k
def c_Z3k:Ev.Fn:=⟨10,[.tmp 2],false,false,(Yq 0 [Vbf 2] (Yr 1 [Vbp 3,Vec 4 3,Vb0 5 4 0,Yv 6 5,Vab 7 6,Van 8 6 37 7,Vag 9 6 8,Yv 2 9]))⟩
theorem ok_c_Z3k:Qao prog 38 c_Z3k=true:=Qac func38 X0k
def s_Z3k:=bd (pu (Qfw a0.ng.ng)) fun x0=> Ubd x0 0 fun x1=> Uak x1 a0 fun x2=> Ua1 x1 x2 U 37 M fun p3=> Uab x1 p3.1 fun x4=> bd (oK false x4.ng) (nK U.length p3.2)
theorem k_Z3k:fnK M c_Z3k [a0] U=s_Z3k M a0 U:=X0k
def c_Z3b:Ev.Fn:=⟨18,[.tmp 4],false,false,(Yq 0 [Vbf 4] (Yj (Yq 1 [Vaw 5] (.block 0 (.loop [0,1,5] [4] (Yj (Yq 2 [Yv 6 5,Vbp 7,Yh 8 7,Vat 9 6 8] (Yz 9 .skip (.exit 0))) (Yj (.block 1 (Yq 4 [Vbp 12,Yv 13 5,Vet 14 12 13,Vah 15 14,Vcj 16,Vcm 17 15 16] (Ym 17 5 [Vdc 4]))) (Ys1 3 [Yv 10 5,Vaf 11 10,Yv 5 11])))))) (Yr 6 [Vbf 4])))⟩
theorem ok_c_Z3b:Qao prog 39 c_Z3b=true:=Qac func39 X0k
def b_Z3b_0 (M:Mach) (n0:Nat) (n1:Nat) (r1:Rk) (z0 z1 z5:V) (U:Objs):Ro:=Uau z0 fun x0=> Ual z5 x0 fun x1=> br x1.ng (Ubb z5 z0 1 fun x2=> Uac x2 U fun x3=> Udn x3 z1 fun x4=> br x4.ng (Udi U n1 fun y5=> Uay U n1 fun s6=> bd (oK false y5) (nK n0 s6)) (Uap z5 fun x7=> UF n1 U [z0,z1,x7.ng] r1)) (Uar U n1 fun y12=> Uay U n1 fun s13=> bd (oK false (.bool false)) (nK n0 s13))
def l_Z3b_0:=M.fx (X0Ld (b_Z3b_0 M n0 n1))
def s_Z3b:=Uaa a0 U fun y14=> Uaa a1 U fun y15=> Ud2 U fun y16=> l_Z3b_0 M U.length U.length [y14,y15,y16] U
theorem k_Z3b:fnK M c_Z3b [a0,a1] U=s_Z3b M a0 a1 U:=X0k
def c_Zq:Ev.Fn:=⟨24,[.tmp 4],false,false,(Yq 0 [Vbg 4] (Yq 1 [Va9 7,Yu 5 7] (Yj (Yq 2 [Vaw 6] (.block 0 (.loop [0,1,5,6] [4,5] (Yj (Yq 3 [Yv 8 6,Vcj 9,Yh 10 9,Vat 11 8 10] (Yz 11 .skip (.exit 0))) (Yj (.block 1 (Ys1 5 [Yu 14 5,Vbp 15,Vcj 16,Yv 17 6,Vet 18 16 17,Va7 19 1 18,Vbo 20 62 15 19,Va6 21 20,Va5 22 8 14 21,Yu 5 22])) (Ys1 4 [Yv 12 6,Vaf 13 12,Yv 6 13])))))) (Yr 6 [Yu 23 5,Yu 4 23]))))⟩
theorem ok_c_Zq:Qao prog 41 c_Zq=true:=Qac func41 X0k
def b_Zq_0:=Uau z1 fun x1=> Ual z6 x1 fun x2=> br x2.ng (Ubb z6 z1 1 fun x3=> Uaq x3 U 1 fun x4=> Ubj z0 x4 U 62 M fun p5=> Udt p5.1 fun x6=> Ub8 z5 x6 p5.2 1 8 fun x7=> Uap z6 fun x8=> UF n1 p5.2 [z0,z1,x7,x8.ng] r1) (Uar U n1 fun y14=> Uae z5 U n1 fun y15=> Uay U n1 fun s16=> bd (oK false y15) (nK n0 s16))
def l_Zq_0:=M.fx (X0Le (b_Zq_0 M n0 n1))
def s_Zq:=Udh fun x0=> Uaa a0 U fun y17=> Uaa a1 U fun y18=> Uaa x0 U fun y19=> Ud2 U fun y20=> l_Zq_0 M U.length U.length [y17,y18,y19,y20] U
theorem k_Zq:fnK M c_Zq [a0,a1] U=s_Zq M a0 a1 U:=X0k
def c_Z41:Ev.Fn:=⟨63,[.tmp 4],false,false,(Yq 0 [Vbz 2,Vby 3,Vbf 4] (Yj (Yq 1 [Vdg 6 2,Vah 7 6,Vdg 8 3,Vah 9 8,Vc7 10 7 9,Yv 11 10,Vaq 12 11 2 2,Vae 13 11 12,Vaq 14 11 2 3,Vae 15 11 14,Vbi 16 11 13 15,Vap 17 11 16,Yv 18 17,Vaq 19 18 1 2,Vae 20 18 19,Vax 21 18 20,Vaq 22 18 1 3,Vae 23 18 22,Vax 24 18 23,Vbi 25 18 21 24,Vap 26 18 25] (Ym 26 2 [Vbf 4])) (Yj (Yq 3 [Vaw 5] (.block 0 (.loop [2,3,5] [4] (Yj (Yq 4 [Yv 27 5,Vd3 28 2,Vah 29 28,Yh 30 29,Vat 31 27 30] (Yz 31 .skip (.exit 0))) (Yj (.block 1 (Yj (.drw 6 [⟨Ya 34 1 2,0,[]⟩,⟨Yl 35 false 1 34,1,[]⟩,⟨Yv 36 5,2,[]⟩,⟨Ye 37 2 35 36,3,[]⟩,⟨Ya 38 0 37,4,[]⟩,⟨Yl 39 false 1 38,5,[]⟩,⟨Ya 40 1 3,6,[]⟩,⟨Yl 41 false 1 40,7,[]⟩,⟨Yv 42 5,8,[]⟩,⟨Ye 43 2 41 42,9,[]⟩,⟨Ya 44 0 43,10,[]⟩,⟨Yl 45 false 1 44,11,[]⟩,⟨Yo 46 .neq .no 39 45,12,[]⟩,⟨Yv 47 46,13,[]⟩,⟨⟨some 48,(some (47,false)),.faddr 1 2⟩,14,[]⟩,⟨⟨some 49,(some (47,false)),.load false 1 48⟩,15,[]⟩,⟨⟨some 50,(some (47,false)),.mv 5 false⟩,16,[]⟩,⟨⟨some 51,(some (47,false)),.iaddr 2 49 50⟩,17,[]⟩,⟨⟨some 52,(some (47,false)),.faddr 1 51⟩,18,[]⟩,⟨⟨some 53,(some (47,false)),.load false 1 52⟩,19,[]⟩,⟨⟨some 54,(some (47,false)),.faddr 1 3⟩,20,[]⟩,⟨⟨some 55,(some (47,false)),.load false 1 54⟩,21,[]⟩,⟨⟨some 56,(some (47,false)),.mv 5 false⟩,22,[]⟩,⟨⟨some 57,(some (47,false)),.iaddr 2 55 56⟩,23,[]⟩,⟨⟨some 58,(some (47,false)),.faddr 1 57⟩,24,[]⟩,⟨⟨some 59,(some (47,false)),.load false 1 58⟩,25,[]⟩,⟨⟨some 60,(some (47,false)),.call 63 [53,59]⟩,26,[]⟩,⟨⟨some 61,(some (47,false)),.un .not 60⟩,27,[]⟩,⟨Yk 62 (.pick 47 Yt 61),28,[]⟩]) (Ym 62 7 [Vbf 4]))) (Ys1 5 [Yv 32 5,Vaf 33 32,Yv 5 33])))))) (Yr 8 [Vdc 4]))))⟩
theorem ok_c_Z41:Qao prog 42 c_Z41=true:=Qac func42 X0k
def b_Z41_0:=Udu z2 fun x21=> Uac x21 U fun x22=> Uam x22 fun x23=> Ual z5 x23 fun x24=> br x24.ng (Udu z2 fun x25=> Uac x25 U fun x26=> Ube z5 x26 2 fun x27=> Uc7 x27 fun x28=> Uac x28 U fun x29=> Udu z3 fun x30=> Uac x30 U fun x31=> Ube z5 x31 2 fun x32=> Uc7 x32 fun x33=> Uac x33 U fun x34=> Ubi x29 x34 fun x35=> Uas x35 z2 1 fun x36=> Uag x35 x36 U fun x37=> Uah x35 z5 fun x38=> Ubp x35 x38 x37 2 fun x39=> Uas x35 x39 1 fun x40=> Uag x35 x40 U fun x41=> Uas x35 z3 1 fun x42=> Uag x35 x42 U fun x43=> Uah x35 z5 fun x44=> Ubp x35 x44 x43 2 fun x45=> Uas x35 x45 1 fun x46=> Uag x35 x46 U fun x47=> Uex x35 x41 x47 U 63 M fun p48=> Ua7 x35 p48.1 fun x49=> Uad x35 x49 fun x50=> br x50.ng (Ua6 p48.2 n1 fun y51=> Uay p48.2 n1 fun s52=> bd (oK false y51) (nK n0 s52)) (Uap z5 fun x53=> UF n1 p48.2 [z2,z3,x53.ng] r1)) (Uar U n1 fun y58=> Uay U n1 fun s59=> bd (oK false (.bool true)) (nK n0 s59))
def l_Z41_0:=M.fx (X0Ld (b_Z41_0 M n0 n1))
def s_Z41:=Uaz a0 U fun p0=> Uaz a1 p0.2 fun p1=> Uc7 p0.1 fun x2=> Uac x2 p1.2 fun x3=> Uc7 p1.1 fun x4=> Uac x4 p1.2 fun x5=> Ubi x3 x5 fun x6=> Uas x6 p0.1 2 fun x7=> Uag x6 x7 p1.2 fun x8=> Uas x6 p1.1 2 fun x9=> Uag x6 x9 p1.2 fun x10=> Ubn x6 x8 x10 fun x11=> Uad x6 x11 fun x12=> Uas x12 p0.1 1 fun x13=> Uag x12 x13 p1.2 fun x14=> Ua5 x12 x14 fun x15=> Uas x12 p1.1 1 fun x16=> Uag x12 x16 p1.2 fun x17=> Ua5 x12 x17 fun x18=> Ubn x12 x15 x18 fun x19=> Uad x12 x19 fun x20=> br x20.ng (bd (oK false (.bool false)) (nK U.length p1.2)) (Uaa p0.1 p1.2 fun y60=> Uaa p1.1 p1.2 fun y61=> Ud2 p1.2 fun y62=> l_Z41_0 M U.length p1.2.length [y60,y61,y62] p1.2)
theorem k_Z41:fnK M c_Z41 [a0,a1] U=s_Z41 M a0 a1 U:=X0k
def c_Z3z:Ev.Fn:=⟨26,[.tmp 4],false,false,(Yq 0 [Vbf 4] (Yj (Yq 1 [Vbp 6,Yh 7 6,Vcj 8,Yh 9 8,Vc7 10 7 9] (Ym 10 2 [Vbf 4])) (Yj (Yq 3 [Vaw 5] (.block 0 (.loop [0,1,5] [4] (Yj (Yq 4 [Yv 11 5,Vbp 12,Yh 13 12,Vat 14 11 13] (Yz 14 .skip (.exit 0))) (Yj (.block 1 (Yj (.drw 6 [⟨Yv 17 0,0,[]⟩,⟨Yv 18 5,1,[]⟩,⟨Ye 19 1 17 18,2,[]⟩,⟨Yl 20 false 1 19,3,[]⟩,⟨Yv 21 1,4,[]⟩,⟨Yv 22 5,5,[]⟩,⟨Ye 23 1 21 22,6,[]⟩,⟨Yl 24 false 1 23,7,[]⟩,⟨Yo 25 .neq .no 20 24,8,[]⟩]) (Ym 25 7 [Vbf 4]))) (Ys1 5 [Yv 15 5,Vaf 16 15,Yv 5 16])))))) (Yr 8 [Vdc 4]))))⟩
theorem ok_c_Z3z:Qao prog 43 c_Z3z=true:=Qac func43 X0k
def b_Z3z_0 (M:Mach) (n0:Nat) (n1:Nat) (r1:Rk) (z0 z1 z5:V) (U:Objs):Ro:=Uau z0 fun x3=> Ual z5 x3 fun x4=> br x4.ng (Ubb z5 z0 1 fun x5=> Uac x5 U fun x6=> Ubb z5 z1 1 fun x7=> Uac x7 U fun x8=> Ubi x6 x8 fun x9=> br x9.ng (Ua6 U n1 fun y10=> Uay U n1 fun s11=> bd (oK false y10) (nK n0 s11)) (Uap z5 fun x12=> UF n1 U [z0,z1,x12.ng] r1)) (Uar U n1 fun y17=> Uay U n1 fun s18=> bd (oK false (.bool true)) (nK n0 s18))
def l_Z3z_0:=M.fx (X0Ld (b_Z3z_0 M n0 n1))
def s_Z3z:=Uau a0 fun x0=> Uau a1 fun x1=> Ubi x0 x1 fun x2=> br x2.ng (bd (oK false (.bool false)) (nK U.length U)) (Uaa a0 U fun y19=> Uaa a1 U fun y20=> Ud2 U fun y21=> l_Z3z_0 M U.length U.length [y19,y20,y21] U)
theorem k_Z3z:fnK M c_Z3z [a0,a1] U=s_Z3z M a0 a1 U:=X0k
def c_Z1d:Ev.Fn:=⟨39,[.tmp 2,.tmp 3],false,false,(Yq 0 [Vaw 2,Vaw 3] (Yq 1 [Vdd 3 1] (Yj (Yq 2 [Vez 7,Yh 8 7,Vaw 9] (.block 0 (.loop [2,3,7,8,9] [2,3] (Yq 3 [Vat 10 9 8] (Yj (Yz 10 .skip (.exit 0)) (Yj (.block 1 (Yq 4 [Ye 11 2 7 9,Va7 12 2 11,Vee 5,Var 2 5 12] (Yq 5 [Vd3 13 5,Vah 14 13,Yk 15 (.mm false [14,(Yi 4611686018427387904)]),Yv 6 15] (Yj (Yq 6 [Vdg 16 5,Vah 17 16,Vb0 18 17 0] (Yz 18 (Ys1 7 [Yv 19 6,Vd3 20 5,Vah 21 20,Vcb 22 21,Yk 23 (.mm false [19,22]),Yk 24 (.mm true [23,(Yi 0)]),Yv 6 24]) .skip)) (Yq 8 [Yv 25 2,Yv 26 6,Vdj 27 25 26,Yv 2 27] (Yq 9 [Vdg 28 5,Vah 29 28,Vcp 30 29 0] (Yz 30 (Ys1 10 [Yv 31 3,Vdg 32 5,Vah 33 32,Vc9 34 65 33,Vbo 35 64 31 34,Yv 3 35]) .skip))))))) (Ys1 11 [Vaf 36 9,Yv 9 36]))))))) (Yr 12 [Yv 37 2,Yv 38 3,Yv 2 37,Yv 3 38]))))⟩
theorem ok_c_Z1d:Qao prog 44 c_Z1d=true:=Qac func44 X0k
def j_Z1d_0 (M:Mach) (n0:Nat) (n1:Nat) (r1:Rk) (z2 z3 z7 z8 z9:V) (U:Objs):Ro:=Ua0 z9 fun x2=> UF n1 U [z2,z3,z7,z8,x2.ng] r1
def j_Z1d_1:=bd (pu (mmV true [z2.ng.ng,z6.ng.ng])) fun x16=> Uc7 z5 fun x17=> Uac x17 U fun x18=> Ucv x18 0 fun x19=> br x19.ng (Uc7 z5 fun x20=> Uac x20 U fun x21=> Ubr x21 U 65 M fun p22=> Ubj z3 p22.1 p22.2 64 M fun p23=> j_Z1d_0 M n0 n1 r1 x16.ng p23.1.ng z7 z8 z9 p23.2) (j_Z1d_0 M n0 n1 r1 x16.ng z3 z7 z8 z9 U)
def b_Z1d_0:=Uaw z9 z8 fun x1=> br x1.ng (Ubm z9 z7 2 fun x9=> Uaq x9 U 2 fun x10=>
 let s11:Objs:=U++[.cells [(.int .i64 0),(.int .i64 0)]]
 Uao x10 s11 U 2 0 fun p12=> Ubq U 1 0 fun x13=> Uac x13 p12.2 fun x14=> bd (pu (mmV false [x14.ng,(.int .i64 4611686018427387904)])) fun x15=> Ubs U fun x24=> Uac x24 p12.2 fun x25=> Ubd x25 0 fun x26=> br x26.ng (Ubq U 1 0 fun x27=> Uac x27 p12.2 fun x28=> Ubz x28 1 fun x29=> bd (pu (mmV false [x15.ng.ng.ng,x29.ng])) fun x30=> bd (pu (mmV true [x30.ng,(.int .i64 0)])) fun x31=> j_Z1d_1 M n0 n1 r1 z2 z3 (.ptr U.length 0) x31.ng z7 z8 z9 p12.2) (j_Z1d_1 M n0 n1 r1 z2 z3 (.ptr U.length 0) x15.ng z7 z8 z9 p12.2)) (Uae z2 U n1 fun y32=> Uae z3 U n1 fun y33=> Uay U n1 fun s34=> nK n0 s34 (.tup [y32.ng.ng.ng,y33.ng.ng.ng]))
def l_Z1d_0:=M.fx (X0Lf (b_Z1d_0 M n0 n1))
def s_Z1d:=Uam a0 fun x0=> Ud2 U fun y35=> Uaj U 1 fun y36=> Uaa a0 U fun y37=> Uaa x0 U fun y38=> Ud2 U fun y39=> l_Z1d_0 M U.length U.length [y35,y36,y37,y38,y39] U
theorem k_Z1d:fnK M c_Z1d [a0] U=s_Z1d M a0 U:=X0k
def c_Z35:Ev.Fn:=⟨54,[.tmp 2,.tmp 3],false,false,(Yq 0 [Vaw 2,Vaw 3] (Yq 1 [Vaw 4,Vdd 5 1] (Yj (Yq 2 [Vaw 6] (.block 0 (.loop [0,4,5,6] [2,3,4,5] (Yj (Yq 3 [Yv 10 6,Vbp 11,Yh 12 11,Vat 13 10 12] (Yz 13 .skip (.exit 0))) (Yj (.block 1 (Yj (.drw 5 [⟨Yv 16 0,0,[]⟩,⟨Yv 17 6,1,[]⟩,⟨Ye 18 2 16 17,2,[]⟩,⟨Ya 19 0 18,3,[]⟩,⟨Yl 20 false 1 19,4,[]⟩,⟨Yv 21 0,5,[]⟩,⟨Yv 22 6,6,[]⟩,⟨Ye 23 2 21 22,7,[]⟩,⟨Ya 24 1 23,8,[]⟩,⟨Yl 25 false 1 24,9,[]⟩,⟨Yv 7 20,10,[]⟩,⟨Yv 8 25,11,[]⟩]) (Yj (Yq 6 [Yv 26 7,Vb0 27 26 0] (Yz 27 (Ys1 7 [Yv 28 8,Vcb 29 28,Yv 8 29]) .skip)) (Yj (Yq 8 [Yv 30 8,Yv 31 4,Vdo 32 30 31] (Yz 32 (Ys1 9 [Yv 33 8,Yv 4 33]) .skip)) (Yj (Yq 10 [Yv 34 7,Vck 35 34 0] (Yz 35 (Ys1 11 [Yv 36 7,Yk 37 (.un .neg 36),Yv 7 37]) .skip)) (Yj (Yq 12 [Yv 38 7,Vaj 39 38] (Yz 39 (.exit 1) .skip)) (Yq 13 [Yv 40 7,Yv 41 5,Yv 42 7,Vbo 43 66 41 42,Yo 44 .quo .no 40 43,Yv 9 44] (Yq 14 [Yv 45 5,Yv 46 9,Yo 47 .quo .no (Yi 4611686018427387904) 46,Vdo 48 45 47] (Yz 48 (Ys1 15 [Vdd 5 4611686018427387904]) (Ys1 16 [Yv 49 5,Yv 50 9,Yo 51 .mul .no 49 50,Yv 5 51])))))))))) (Ys1 4 [Yv 14 6,Vaf 15 14,Yv 6 15])))))) (Yr 17 [Yv 52 4,Yv 53 5,Yv 2 52,Yv 3 53]))))⟩
theorem ok_c_Z35:Qao prog 45 c_Z35=true:=Qac func45 X0k
def j_Z35_0 (M:Mach) (n0:Nat) (n1:Nat) (r1:Rk) (z0 z4 z5 z6:V) (U:Objs):Ro:=Uap z6 fun x2=> UF n1 U [z0,z4,z5,x2.ng] r1
def j_Z35_3:=Ud6 z7 0 fun x14=> br x14.ng (j_Z35_0 M n0 n1 r1 z0 z4 z5 z6 U) (bd (M.call 66 [z5.ng.ng,z7.ng.ng] U) fun p15=> Uew z7 p15.1 fun x16=> bd (pu (eB .quo .no (.int .i64 4611686018427387904) x16.ng.ng.ng)) fun x17=> Udo z5 x17 fun x18=> br x18.ng (j_Z35_0 M n0 n1 r1 z0 z4 (.int .i64 4611686018427387904) z6 p15.2) (Ueb z5 x16 fun x19=> j_Z35_0 M n0 n1 r1 z0 z4 x19.ng z6 p15.2))
def j_Z35_2:=Uc3 z7 0 fun x20=> br x20.ng (bd (pu (evUn .neg z7.ng.ng)) fun x21=> j_Z35_3 M n0 n1 r1 z0 z4 z5 z6 x21.ng U) (j_Z35_3 M n0 n1 r1 z0 z4 z5 z6 z7 U)
def j_Z35_1:=bd (pu (eB .gtr .no z8.ng.ng z4.ng.ng)) fun x22=> br x22.ng (j_Z35_2 M n0 n1 r1 z0 z8.ng.ng z5 z6 z7 U) (j_Z35_2 M n0 n1 r1 z0 z4 z5 z6 z7 U)
def b_Z35_0:=Uau z0 fun x0=> Ual z6 x0 fun x1=> br x1.ng (Ubb z6 z0 2 fun x8=> Uc7 x8 fun x9=> Uac x9 U fun x10=> Ubb z6 z0 2 fun x11=> Udu x11 fun x12=> Uac x12 U fun x13=> bd (pu (eB .gtr .no x10.ng.ng.ng (.int .i64 0))) fun x23=> br x23.ng (Uer x13 fun x24=> j_Z35_1 M n0 n1 r1 z0 z4 z5 z6 x10.ng x24.ng U) (j_Z35_1 M n0 n1 r1 z0 z4 z5 z6 x10.ng x13.ng U)) (Uar U n1 fun y25=> Uar U n1 fun y26=> Uae z4 U n1 fun y27=> Uae z5 U n1 fun y28=> Uay U n1 fun s29=> nK n0 s29 (.tup [y27.ng.ng.ng,y28.ng.ng.ng]))
def l_Z35_0:=M.fx (X0Le (b_Z35_0 M n0 n1))
def s_Z35:=Uaa a0 U fun y30=> Ud2 U fun y31=> Uaj U 1 fun y32=> Ud2 U fun y33=> l_Z35_0 M U.length U.length [y30,y31,y32,y33] U
theorem k_Z35:fnK M c_Z35 [a0] U=s_Z35 M a0 U:=X0k
end
end Go.Proofs.YtapnplljnpconaaGreatDoor
