/- Part of a proof: the small language, and functions of the program on it. -/
import Derived.Test.YtapnplljnpconaaGreatDoorFlXc
import Derived.Lib.Hide
import Derived.Test.YtapnplljnpconaaGreatDoorRows
import Derived.WalkKit
import Derived.WalkSpells
import Derived.WalkLawsBesides
import Derived.Deep.QuietTactic
import Derived.BigQuiet
import Derived.Deep.RegionHeld3
import Derived.Deep.AppendLies
import Derived.Deep.RegionLaw
import Derived.Deep.DrawnRows
import Derived.Deep.DeepFit
import Derived.RegionTactic
import Derived.LaidEql
import Derived.Stop.Asserts
import Derived.RowKitTokens
import Derived.ProofKit
import Derived.Lib.SmallJoins
import Derived.ChangeSlices
import Derived.ChangeArms
import Derived.DataReads
import Derived.Test.YtapnplljnpconaaGreatDoorChecked
set_option linter.unusedSimpArgs false
set_option linter.unusedVariables false
set_option linter.unusedSectionVars false
set_option maxHeartbeats 4000000
set_option maxRecDepth 100000
open Go.Proofs.Tryz
namespace Go.Proofs.YtapnplljnpconaaGreatDoor
open Go.RowKit Go.Ev Go.Shelf
attribute [local go_sem] Oper.semAt_some
theorem Qvr (F:Fence) (n:Nat) (h:F.fn 73) (hro:F.round=none) (va:Option Addr) (vl vc:Nat) (w:World):
  CallsIn F n prog 73 #[.slice va vl vc] w fun e w'=>e = .returned (.func (.func 97) #[] #[.pointer (some ⟨w.heap.size,0,none⟩)])∧w'=w.alloc (.cells #[.slice va vl vc] 51):=by
 refine callsIn_of_wp func73 rfl h ?_ hro
 simp only [Tryz.ntmps73,Xdh,Xal,Xa9,Nat.reduceAdd,Nat.reduceSub,Xdu,Xdv,Xd4,Xd0,Xcn,Xcs]
 gi_wp2
 go_ret
 exact ⟨rfl,rfl⟩
def mxN (g:SV→Nat) (xs:List SV):Nat:=xs.foldl (fun m x=>if 0<x.len then max m (g x) else m) 0
theorem Qkh (g:SV→Nat) (xs:List SV) (x:SV):mxN g (xs++[x])=if 0<x.len then max (mxN g xs) (g x) else mxN g xs:=by simp [mxN]
inductive Dp (n0:Nat) (w:World):Value→Nat→Prop
 |mk (v:Value) (qs:List (List (List SV))) (g:SV→Nat) (h:R1 n0 w v qs) (hg:∀x∈qs.flatten.flatten,0<x.len→Dp n0 w x.of (g x)):Dp n0 w v (mxN g qs.flatten.flatten+1)
theorem Wkt (g:SV→Nat):∀(xs ys:List SV),mxN g xs≤mxN g (xs++ys)
 |xs,[]=>by simp
 |xs,y::ys=>by
  rw [show xs++y::ys=(xs++[y])++ys by simp]
  refine Xca ?_ (Wkt g _ _)
  rw [Qkh]
  split
  ·exact Nat.le_max_left ..
  ·exact Xai _
theorem Wku (g:SV→Nat) {xs:List SV} {x:SV} (hx:x∈xs) (hl:0<x.len):g x≤mxN g xs:=by
 obtain ⟨p,r,rfl⟩:=List.append_of_mem hx
 refine Xca ?_ (by rw [show p++x::r=(p++[x])++r by simp];exact Wkt g _ _)
 rw [Qkh,if_pos hl]
 exact Nat.le_max_right ..
theorem Qvs {n0:Nat} {w:World} {v:Value} {d:Nat} (h:Dp n0 w v d):d≤1000000→∀w',Below n0 w w'→n0≤w'.heap.size→
  Calls prog 53 #[v] w' fun e w''=>e = .returned (.int .i64 d)∧Below w'.heap.size w' w'':=by
 induction h with
 |mk v qs g hq hg ih=>
  intro hd w' hb hn
  refine (callsIn_wide (n:=10)).1 ?_
  obtain ⟨F,hFw⟩:∃F,F=Fence.wide:=⟨_,rfl⟩
  have hro:F.round=none:=by rw [hFw];rfl
  have h53:F.fn 53:=by rw [hFw];trivial
  have h73:F.fn 73:=by rw [hFw];trivial
  have h97:F.fn 97:=by rw [hFw];trivial
  have hcw:∀(n f:Nat) (args:Array Value) (w:World) (R:Ending→World→Prop),Calls prog f args w R→CallsIn F n prog f args w R:=fun n f args w R h=>by rw [hFw];exact callsIn_wide.2 h
  rw [←hFw]
  clear hFw
  refine callsIn_of_wp_marks func53 rfl h53 ?_ hro
  have hv:∃a l c,v = .slice a l c:=by obtain ⟨a,cap,rfl,_⟩:=hq;exact ⟨_,_,_,rfl⟩
  obtain ⟨va,vl,vc,rfl⟩:=hv
  simp only [Tryz.ntmps53,Xdh,Xal,Xa9,Nat.reduceAdd,Nat.reduceSub,Xdu,Xdv,Xd4,Xd0,Xcn,Xcs]
  gi_wp2_with (gi_at_call 73;refine (Qvr _ _ h73 hro _ _ _ _).mono ?_;rintro e w' ⟨rfl,rfl⟩)
  refine wpIn_rangeFunc_ownH hro X0o (gf:=97) (lb := #[.pointer (some ⟨w'.heap.size+1,0,none⟩)]) rfl h97 (enters_of func97 (by kernel_rfl) rfl)
   (w0:=(w'.alloc (.cells #[.int .i64 0] 3)).alloc (.cells #[.slice va vl vc] 51)) (Kp:=Below n0) (encs:=fun x:{x:SV // x∈qs.flatten.flatten} => #[x.1.v]) (S:=fun ys=>ys.map Subtype.val=qs.flatten.flatten) (Sp:=fun pre=>pre.map Subtype.val <+: qs.flatten.flatten) (N:=qs.flatten.flatten.length)
   ?seq belowK_t (belowK_b (by simp;omega)) (Below.refl _ _) (fun _=>rfl)
   (fun pre W=>W.cell? ⟨w'.heap.size,0,none⟩=some (.int .i64 (mxN g (pre.map Subtype.val)))∧W.frozen? ⟨w'.heap.size,0,none⟩=false∧Below w'.heap.size w' W)
   (fun _ _ _=>False) ?hI (fun _ _ _ _ _ hs _ _=>hs) ?h0
   (fun x a' W=>∃bb,a' = { tmps := #[.slice va vl vc,undef,.pointer (some ⟨w'.heap.size,0,none⟩),.pointer (some ⟨bb,0,none⟩),.slice va vl vc,.func (.func 97) #[] #[.pointer (some ⟨w'.heap.size+1,0,none⟩)],x.1.v,undef,undef,undef,undef,undef,undef,undef,undef,undef,undef,undef],defers:=[] } ∧ W.cell? ⟨bb,10,none⟩=some x.1.of)
   ?hAx ?assign ?body ?done ?stop
  case seq=>
   intro l Jww Jx W hW hab habx hY h0
   have hq':R1 n0 W (.slice va vl vc) qs:=hq.keep (hb.trans ((((Below.refl _ w').alloc X0o _).alloc (by simp;omega) _).trans (hW.mono (by simp;omega))))
   have hsz:=hW.size
   have hc:W.cell? ⟨w'.heap.size+1,0,none⟩=some (.slice va vl vc):=by
    rw [hW.cell (p:=⟨w'.heap.size+1,0,none⟩) (by simp)]
    have:=World.alloc_heap_new (w'.alloc (.cells #[.int .i64 0] 3)) (.cells #[.slice va vl vc] 51)
    rw [World.size_alloc] at this
    unfold World.cell?
    simp only
    rw [this]
    rfl
   refine (Whe (F:=F) h97 hro _ X0o l (w'.heap.size+1) n0 W (.slice va vl vc) qs (fun pre W=>∃pre':List {x:SV // x∈qs.flatten.flatten},pre'.map Subtype.val=pre∧Jww pre' W) (fun pre W=>∃pre':List {x:SV // x∈qs.flatten.flatten},pre'.map Subtype.val=pre∧Jx pre' W) ?_ hq' (by simp at hsz;omega) hc ?_ ⟨[],rfl,h0⟩).mono ?_
   ·rintro s A Bww row ⟨p',e,hs⟩ hg' hr
    exact ⟨p',e,hab p' A Bww row hs hg' hr⟩
   ·rintro pre x W1 hx ⟨p',rfl,hJ⟩ hlen
    obtain ⟨fn,tmps,assign,body,hy,hR⟩:=hY p' ⟨x,hx⟩ W1 hJ (by simpa using hlen)
    refine ⟨fn,tmps,assign,body,hy,hR.mono ?_⟩
    rintro e W' (⟨he,hJ',hk⟩|⟨he,hJ'⟩)
    ·exact .inl ⟨he,⟨p'++[⟨x,hx⟩],by simp,hJ'⟩,hk⟩
    ·exact .inr ⟨he,p'++[⟨x,hx⟩],by simp,hJ'⟩
   ·rintro e W' ⟨he,⟨ys,rfl,p',hp,hJ⟩|⟨pre,hpre,p',hp,hJ⟩⟩
    ·exact ⟨he,.inl ⟨p',hp,hJ⟩⟩
    ·exact ⟨he,.inr ⟨p',by show List.map Subtype.val p' <+: _;rw [hp];exact hpre,hJ⟩⟩
  case hI=>
   rintro s A Bww row ⟨h1,h2,h3⟩ hgr hrow
   have hr2:∀r,row=some r→∃o:Obj,A.heap[r]? = some o∧o.isCells=false:=fun r e=>(hrow r e).2
   refine ⟨cell_kept h1 hgr hr2,(frozen_kept h1 hgr hr2).trans h2,h3.grown hgr h3.size fun k e => ?_⟩
   have:=(hrow k e).1
   simp at this
   omega
  case h0=>
   have e1:=World.alloc_heap_new w' (.cells #[.int .i64 0] 3)
   have e2:((w'.alloc (.cells #[.int .i64 0] 3)).alloc (.cells #[.slice va vl vc] 51)).heap[w'.heap.size]? = some (.cells #[.int .i64 0] 3):=(Below.heap_alloc _ _ _ (by simp)).trans e1
   refine ⟨?_,?_,((Below.refl _ w').alloc (Xai _) _).alloc (by simp) _⟩
   ·unfold World.cell?
    simp only
    rw [e2]
    rfl
   ·unfold World.frozen?
    simp only
    rw [e2]
    rfl
  case hAx=>
   rintro x a' _ A Bww row ⟨bb,rfl,h4⟩ hgr hrow
   exact ⟨bb,rfl,cell_kept h4 hgr fun r e=>(hrow r e).2⟩
  case assign=>
   rintro l pre ⟨x,hx⟩ W K ⟨h1,h2,h3⟩ hK
   obtain ⟨x0,x1,x2,x3,x4,x5,x6,x7,x8,x9,a10,l10,c10,xh⟩:=x
   have hsz:=h3.size
   gi_wp2
   refine hK _ _ ((KeepsOthers.alloc _ _).from _) ((Below.refl _ _).alloc X0o _) ⟨?_,?_,h3.alloc hsz _⟩ ⟨W.heap.size,rfl,?_⟩
   ·exact cell_kept h1 (World.grownBy_alloc W _ none) (fun r e=>by cases e)
   ·exact (frozen_kept h1 (World.grownBy_alloc W _ none) (fun r e=>by cases e)).trans h2
   ·have e:=World.alloc_heap_new W (.cells #[.int .i64 x0,.int .i64 x1,.string x2,.string x3,.int .i64 x4,.string x5,.bool x6,.int .i64 x7,.int .i64 x8,.int .i64 x9,.slice a10 l10 c10] 96)
    unfold World.cell?
    simp only
    rw [e]
    rfl
  case body=>
   rintro l pre ⟨x,hx⟩ a' W hl hr ⟨h1,h2,h3⟩ ⟨bb,rfl,h4⟩ hlen
   have hd:1≤10 - 1 - 1:=by omega
   have hmx:prog.follows .mixedOrders=true:=by kernel_rfl
   have hsz:=h3.size
   simp only at h4
   gi_wp2
   ·have hxl:0<x.len:=by assumption
    have hgx:=Wku g hx hxl
    have IH:=Lib.hid (fun W' (hB:Below n0 w W') hW=>hcw 7 _ _ _ _ (ih x hx hxl X0o W' hB hW))
    have HB:=Lib.hid (hb.trans (h3.mono hn))
    have hlt:w'.heap.size<W.heap.size:=by
     rcases Xby w'.heap.size W.heap.size with h|h
     ·exact h
     ·simp [World.cell?,Xb2 h] at h1
    have Hww1:=Lib.hid h1
    have Hww2:=Lib.hid h2
    have Hww3:=Lib.hid (⟨hsz,hn,hlt⟩:_∧_∧_)
    have eN:mxN g ((pre++[(⟨x,hx⟩:{x:SV // x∈qs.flatten.flatten})]).unattach)=max (mxN g pre.unattach) (g x):=by
     show mxN g ((pre++[(⟨x,hx⟩:{x:SV // x∈qs.flatten.flatten})]).map Subtype.val)=_
     rw [Xbj,Xak,Xa8,Qkh,if_pos hxl]
     rfl
    have HE:=Lib.hid (⟨fun h=>by rw [eN];omega,fun h=>by rw [eN];omega⟩:(mxN g pre.unattach<g x→g x=mxN g ((pre++[(⟨x,hx⟩:{x:SV // x∈qs.flatten.flatten})]).unattach))∧(¬mxN g pre.unattach<g x→mxN g pre.unattach=mxN g ((pre++[(⟨x,hx⟩:{x:SV // x∈qs.flatten.flatten})]).unattach)))
    clear ih hq hg eN
    gi_region_with_o (gi_at_call 53;go_loud (refine (CallsIn.inRound l (IH.out _ (by exact HB.out.drew) (by show n0≤W.heap.size;have:=Hww3.out;omega))).mono ?_;rintro e w2 ⟨rfl,hb2⟩;have c1:w2.cell? ⟨w'.heap.size,0,none⟩=some (.int .i64 (mxN g (pre.map Subtype.val))):=(hb2.cell (p:=⟨w'.heap.size,0,none⟩) Hww3.out.2.2).trans Hww1.out;have c2:w2.frozen? ⟨w'.heap.size,0,none⟩=false:=(hb2.frozen (p:=⟨w'.heap.size,0,none⟩) Hww3.out.2.2).trans Hww2.out))
    all_goals gi_wp2
    all_goals exact ⟨(⟨hb2.size,fun k o _ hk _=>(hb2.block k (Xa7.1 hk).1).trans hk⟩:KeepsFrom _ W w2).trans ((KeepsOthers.setCell _ _ _).from _),(((Below.refl n0 W).drew).trans (hb2.mono (by show n0≤W.heap.size;omega))).setCell (by show n0≤w'.heap.size;omega) _,(World.cell?_setCell_same' _ _ _ (by rw [c1];rfl)).trans (by first|rw [HE.out.1 (by assumption)];done|rw [HE.out.2 (by assumption)];done|(rw [←HE.out.1 (by assumption)];done)|(rw [←HE.out.2 (by assumption)];done)),by rw [World.frozen?_setCell];exact c2,((h3.drew).trans (hb2.mono (by show w'.heap.size≤W.heap.size;omega))).setCell (Xai _) _⟩
   ·have e:mxN g ((pre++[(⟨x,hx⟩:{x:SV // x∈qs.flatten.flatten})]).map Subtype.val)=mxN g (pre.map Subtype.val):=by
     rw [Xbj,Xak,Xa8,Qkh,if_neg (by assumption)]
    exact ⟨KeepsFrom.refl _ _,Below.refl _ _,by rw [e];exact h1,h2,h3⟩
  case done=>
   rintro Dww ys W hD hys ⟨h1,h2,h3⟩ hK
   rw [show ys.map Subtype.val=_ from hys] at h1
   have hlt:w'.heap.size<W.heap.size:=by
    rcases Xby w'.heap.size W.heap.size with h|h
    ·exact h
    ·simp [World.cell?,Xb2 h] at h1
   have hD':w'.heap.size+2≤Dww:=by simpa using hD
   have hw64:wrap64 ((mxN g qs.flatten.flatten:Nat)+1)=((mxN g qs.flatten.flatten+1:Nat):Int):=by simp only [wrap64];omega
   clear ih hg hq hcw hys
   gi_wp2
   have hK':=(KeepsOthers.setCell W ⟨w'.heap.size,0,none⟩ (.int .i64 (((mxN g qs.flatten.flatten:Nat):Int)+1))).same Dww _ hK rfl
   refine ⟨by simp,.inl ⟨_,_,rfl,run_takeDeferred hK',?_⟩⟩
   have hc5:=cell_kept (World.cell?_setCell_same' W ⟨w'.heap.size,0,none⟩ (.int .i64 (((mxN g qs.flatten.flatten:Nat):Int)+1)) (by rw [h1];rfl)) (grownBy_putObj' _ Dww (.deferred none)) (fun r e=>by cases e;exact ⟨_,hK',rfl⟩)
   refine ⟨.int .i64 (((mxN g qs.flatten.flatten:Nat):Int)+1),?_,?_,?_⟩
   ·simp [results,Tryz.f53,go_sem,hc5]
   ·rw [show ((mxN g qs.flatten.flatten+1:Nat):Int)=((mxN g qs.flatten.flatten:Nat):Int)+1 by omega]
   ·exact (h3.setCell (p:=⟨w'.heap.size,0,none⟩) (Xai _) _).grown (grownBy_putObj' _ Dww (.deferred none)) (by simp [World.setCell];omega) (fun k e=>by cases e;omega)
  case stop=>
   rintro Dww c pre W _ _ h _
   exact h.elim
end Go.Proofs.YtapnplljnpconaaGreatDoor
namespace Go.Proofs.YtapnplljnpconaaGreatDoor
open Go.RowKit Go.Ev
def hm (L:List SV):Nat:=(L.map SV.h).foldr max 0
def h3 (L:List SV):Nat:=if L=[] then 0 else hm L+1
def m3 (ps:List (List SV)):Nat:=(ps.map h3).foldr max 0
def h2 (ps:List (List SV)):Nat:=if ps=[] then 0 else m3 ps+1
def m2 (qs:List (List (List SV))):Nat:=(qs.map h2).foldr max 0
def h1 (qs:List (List (List SV))):Nat:=if qs=[] then 0 else m2 qs+1
theorem Wep:∀(a b:List Nat),(a++b).foldr max 0=max (a.foldr max 0) (b.foldr max 0)
 |[],b=>by simp
 |x::a,b=>by simp only [Xcs,List.foldr_cons,Wep a b];omega
theorem Weq (a b:List SV):hm (a++b)=max (hm a) (hm b):=by simp only [hm,Xbj,Wep]
theorem Wkv:∀(ps:List (List SV)),(ps.flatten=[]→m3 ps=0)∧(ps.flatten≠[]→m3 ps=hm ps.flatten+1)
 |[]=>⟨fun _=>rfl,fun h=>absurd rfl h⟩
 |L::ps=>by
  obtain ⟨i1,i2⟩:=Wkv ps
  have e:m3 (L::ps)=max (h3 L) (m3 ps):=rfl
  rw [e,Xdi,Weq]
  by_cases hL:L=[]
  ·subst hL
   have e3:h3 []=0:=rfl
   have eh:hm []=0:=rfl
   rw [Xcn,e3,eh]
   exact ⟨fun h=>by rw [i1 h];rfl,fun h=>by rw [i2 h];omega⟩
  ·have e3:h3 L=hm L+1:=if_neg hL
   rw [e3]
   refine ⟨fun h=>absurd (List.append_eq_nil_iff.1 h).1 hL,fun _ => ?_⟩
   by_cases hp:ps.flatten=[]
   ·rw [i1 hp,hp];show max (hm L+1) 0=max (hm L) (hm [])+1;have:hm []=0:=rfl;omega
   ·rw [i2 hp];omega
theorem Wkw:∀(qs:List (List (List SV))),(qs.flatten.flatten=[]→m2 qs≤1)∧(qs.flatten.flatten≠[]→m2 qs=hm qs.flatten.flatten+2)
 |[]=>⟨fun _=>Xa1 _,fun h=>absurd rfl h⟩
 |ps::qs=>by
  obtain ⟨i1,i2⟩:=Wkw qs
  obtain ⟨k1,k2⟩:=Wkv ps
  have e:m2 (ps::qs)=max (h2 ps) (m2 qs):=rfl
  rw [e,Xdi,Xb3,Weq]
  have hz:hm []=0:=rfl
  by_cases hL:ps.flatten=[]
  ·have e3:h2 ps≤1:=by
    unfold h2
    split
    ·omega
    ·rw [k1 hL];omega
   rw [hL,Xcn,hz]
   exact ⟨fun h=>by have:=i1 h;omega,fun h=>by rw [i2 h];omega⟩
  ·have hne:ps≠[]:=by rintro rfl;exact hL rfl
   have e3:h2 ps=hm ps.flatten+2:=by unfold h2;rw [if_neg hne,k2 hL]
   rw [e3]
   refine ⟨fun h=>absurd (List.append_eq_nil_iff.1 h).1 hL,fun _ => ?_⟩
   by_cases hp:qs.flatten.flatten=[]
   ·have:=i1 hp;rw [hp,hz];omega
   ·rw [i2 hp];omega
theorem Wer:∀(L:List SV),(∀s∈L,s.len=0→s.h=0)→∀(n:Nat),L.foldl (fun m x=>if 0<x.len then max m ((x.h+2) / 3) else m) ((n+2) / 3)=(max n (hm L)+2) / 3
 |[],_,n=>by
  have:hm []=0:=rfl
  rw [this,Nat.max_zero];rfl
 |x::L,hL,n=>by
  have e:(if 0<x.len then max ((n+2) / 3) ((x.h+2) / 3) else (n+2) / 3)=(max n x.h+2) / 3:=by
   split
   ·omega
   ·have:=hL x (Xaw ..) X0o
    rw [this,Nat.max_zero]
  rw [List.foldl_cons,e,Wer L (fun s hs=>hL s (Xax _ hs))]
  have e2:hm (x::L)=max x.h (hm L):=rfl
  rw [e2]
  congr 2
  omega
theorem Wkx (L:List SV) (hL:∀s∈L,s.len=0→s.h=0):mxN (fun s=>(s.h+2) / 3) L=(hm L+2) / 3:=by
 have:=Wer L hL 0
 rw [Nat.zero_max] at this
 exact this
theorem Wnx (qs:List (List (List SV))):max 1 ((h1 qs+2) / 3)=(hm qs.flatten.flatten+2) / 3+1:=by
 obtain ⟨k1,k2⟩:=Wkw qs
 unfold h1
 split
 ·rename_i h;subst h;rfl
 ·by_cases h:qs.flatten.flatten=[]
  ·have:=k1 h;rw [h];have:hm []=0:=rfl;omega
  ·rw [k2 h];omega
section
variable {M:Mem} {Z:Plc} {n0:Nat} {w:World}
def Held (M:Mem) (n0:Nat) (w:World):Prop:=∀b i u,M b i=some u→b<n0∧w.cell? ⟨b,i,none⟩=some u
theorem Qth:∀(xs:List V),V.hhs xs=(xs.map V.hh).foldr max 0
 |[]=>rfl
 |x::xs=>by simp only [V.hhs,Xak,List.foldr_cons,Qth xs]
theorem Qg1 {k:Nat} : ∀ {xs:List V},V.shpAll k xs=true→∀x∈xs,V.shp k x=true
 |[],_,x,hx=>by cases hx
 |y::xs,h,x,hx=>by
  simp only [V.shpAll,Xac] at h
  rcases Xay.1 hx with rfl|hx
  ·exact h.1
  ·exact Qg1 h.2 x hx
theorem Qnu {α:Type} (P:Nat→α→Prop):∀n,(∀i,i<n→∃x,P i x)→∃xs:List α,xs.length=n∧∀i x,xs[i]? = some x→P i x:=by
 intro n
 induction n with
 |zero=>intro _;exact ⟨[],rfl,fun i x hi=>by cases hi⟩
 |succ n ih=>
  intro h
  obtain ⟨xs,hl,hx⟩:=ih (fun i hi=>h i X0o)
  obtain ⟨y,hy⟩:=h n X0o
  refine ⟨xs++[y],by simp [hl],fun i x hi => ?_⟩
  by_cases e:i<xs.length
  ·rw [Xaz e] at hi;exact hx i x hi
  ·have h1:=(Xaf.1 hi).1
   have e2:i=n:=by simp at h1;omega
   subst e2
   rw [Xbu X0o,hl,Xc9] at hi
   cases hi
   exact hy
theorem Qvt {xs:List V} {sz:Nat} (hs:∀x∈xs,x.cells.length=sz):∀(i:Nat) (x:V) (j:Nat),xs[i]? = some x→j<sz→(xs.flatMap V.cells)[i * sz+j]? = x.cells[j]? := by
 induction xs with
 |nil=>intro i x j h;simp at h
 |cons y xs ih=>
  intro i x j h hj
  have hy:=hs y (Xaw ..)
  rw [Xbp]
  cases i with
  |zero=>
   simp at h
   subst h
   rw [Xaz X0o]
   congr 1;omega
  |succ i=>
   have:(i+1) * sz+j=sz+(i * sz+j):=by rw [Xc8];omega
   rw [Xbu X0o,this,hy,Nat.add_sub_cancel_left]
   exact ih (fun z hz=>hs z (Xax _ hz)) i x j (by simpa using h) hj
theorem Qrl {v:Value} {x:V} (hx:x = .nils∨∃xs c,x = .sl xs c) (h:Rep M Z v x) (hM:Held M n0 w):
  ∃(xs:List V) (a:Option Addr) (cap:Nat),v = .slice a xs.length cap∧(x = .nils∧xs=[]∨∃c,x = .sl xs c)∧
   ∀i e,xs[i]? = some e→∃b off,a=some ⟨b,off,none⟩∧∀j c,e.cells[j]? = some c→∃u,Rep M Z u c∧b<n0∧w.cell? ⟨b,off+(i * e.cells.length+j),none⟩=some u:=by
 rcases hx with rfl|⟨xs,c,rfl⟩
 ·cases h
  exact ⟨[],none,0,rfl,.inl ⟨rfl,rfl⟩,fun i e he=>by cases he⟩
 ·rcases h.inv_sl with ⟨b,off,cap,sz,us,rfl,hs,hr,hm,_,_⟩|⟨a,rfl,rfl,_⟩
  ·refine ⟨xs,_,cap,rfl,.inr ⟨c,rfl⟩,fun i e he=>⟨b,off,rfl,fun j c' hc => ?_⟩⟩
   have hsz:=hs e (Xat he)
   have hj:j<sz:=by rw [←hsz];exact (Xaf.1 hc).1
   have h1:=Qvt hs i e j he hj
   rw [hc] at h1
   obtain ⟨u,hu,hru⟩:=hr.get h1
   have:=hM b _ u (hm _ u hu)
   rw [hsz]
   refine ⟨u,hru,this.1,?_⟩
   rw [←Xcp] at this ⊢
   exact this.2
  ·exact ⟨[],some a,0,rfl,.inr ⟨c,rfl⟩,fun i e he=>by cases he⟩
theorem shp6 {x:V} (h:V.shp 6 x=true):∃n,x = .int .i64 n:=by
 cases x <;> simp [V.shp] at h
 subst h
 exact ⟨_,rfl⟩
theorem shp7 {x:V} (h:V.shp 7 x=true):∃b,x = .bool b:=by
 cases x <;> simp [V.shp] at h
 exact ⟨_,rfl⟩
theorem shp8 {x:V} (h:V.shp 8 x=true):∃s,x = .str s:=by
 cases x <;> simp [V.shp] at h
 exact ⟨_,rfl⟩
theorem shpR {k:Nat} {x:V} (hk:k=0∨k=2∨k=4) (h:V.shp k x=true):x = .nils∨∃xs c,x = .sl xs c∧xs.length≤1000000000∧V.shpAll (k+1) xs=true:=by
 rcases hk with rfl|rfl|rfl <;> cases x <;> simp [V.shp] at h <;> first|exact .inl rfl|exact .inr ⟨_,_,rfl,h.1,h.2⟩
def Pd (M:Mem) (Z:Plc) (n0:Nat) (w:World) (x:V):Prop:=∀v,Rep M Z v x→V.shp 0 x=true→Dp n0 w v (max 1 ((V.hh x+2) / 3))
theorem Wc3 (xs:List V) (c:Cap):V.hh (.sl xs c)=if xs.isEmpty then 0 else V.hhs xs+1:=by simp only [V.hh]
theorem mk_s (hM:Held M n0 w) {e:V} (hs:V.shp 5 e=true) (IH:∀o,SizeOf.sizeOf o<SizeOf.sizeOf e→Pd M Z n0 w o) {b off i:Nat}
  (he:∀j c,e.cells[j]? = some c→∃u,Rep M Z u c∧b<n0∧w.cell? ⟨b,off+(i * e.cells.length+j),none⟩=some u):
  ∃s:SV,b<n0∧(∀j u,s.cs[j]? = some u→w.cell? ⟨b,off+i * 11+j,none⟩=some u)∧(0<s.len→Dp n0 w s.of ((s.h+2) / 3))∧(s.len=0→s.h=0)∧s.h=V.hh e:=by
 cases e <;> simp [V.shp] at hs
 rename_i cs
 match cs,hs with
 |[],hs=>simp [V.shpEach] at hs
 |[_],hs=>simp [V.shpEach] at hs
 |[_,_],hs=>simp [V.shpEach] at hs
 |[_,_,_],hs=>simp [V.shpEach] at hs
 |[_,_,_,_],hs=>simp [V.shpEach] at hs
 |[_,_,_,_,_],hs=>simp [V.shpEach] at hs
 |[_,_,_,_,_,_],hs=>simp [V.shpEach] at hs
 |[_,_,_,_,_,_,_],hs=>simp [V.shpEach] at hs
 |[_,_,_,_,_,_,_,_],hs=>simp [V.shpEach] at hs
 |[_,_,_,_,_,_,_,_,_],hs=>simp [V.shpEach] at hs
 |[_,_,_,_,_,_,_,_,_,_],hs=>simp [V.shpEach] at hs
 |_::_::_::_::_::_::_::_::_::_::_::_::_,hs=>simp [V.shpEach] at hs
 |[y0,y1,y2,y3,y4,y5,y6,y7,y8,y9,o],hs=>
  simp only [V.shpEach,Xac,and_true,List.isEmpty_nil] at hs
  obtain ⟨p0,p1,p2,p3,p4,p5,p6,p7,p8,p9,po⟩:=hs
  obtain ⟨v0,rfl⟩:=shp6 p0
  obtain ⟨v1,rfl⟩:=shp6 p1
  obtain ⟨v2,rfl⟩:=shp8 p2
  obtain ⟨v3,rfl⟩:=shp8 p3
  obtain ⟨v4,rfl⟩:=shp6 p4
  obtain ⟨v5,rfl⟩:=shp8 p5
  obtain ⟨v6,rfl⟩:=shp7 p6
  obtain ⟨v7,rfl⟩:=shp6 p7
  obtain ⟨v8,rfl⟩:=shp6 p8
  obtain ⟨v9,rfl⟩:=shp6 p9
  obtain ⟨u0,r0,hb,g0⟩:=he 0 _ rfl
  obtain ⟨u1,r1,_,g1⟩:=he 1 _ rfl
  obtain ⟨u2,r2,_,g2⟩:=he 2 _ rfl
  obtain ⟨u3,r3,_,g3⟩:=he 3 _ rfl
  obtain ⟨u4,r4,_,g4⟩:=he 4 _ rfl
  obtain ⟨u5,r5,_,g5⟩:=he 5 _ rfl
  obtain ⟨u6,r6,_,g6⟩:=he 6 _ rfl
  obtain ⟨u7,r7,_,g7⟩:=he 7 _ rfl
  obtain ⟨u8,r8,_,g8⟩:=he 8 _ rfl
  obtain ⟨u9,r9,_,g9⟩:=he 9 _ rfl
  obtain ⟨u10,r10,_,g10⟩:=he 10 _ rfl
  cases r0.inv_int;cases r1.inv_int;cases r4.inv_int;cases r7.inv_int;cases r8.inv_int;cases r9.inv_int;cases r6.inv_bool
  obtain ⟨s2,rfl,_⟩:=r2.inv_str
  obtain ⟨s3,rfl,_⟩:=r3.inv_str
  obtain ⟨s5,rfl,_⟩:=r5.inv_str
  have hd:=IH o (by simp;omega) u10 r10 po
  have hz:(∃a l c,u10 = .slice a l c∧(0<l→1≤V.hh o)∧(l=0→V.hh o=0)):=by
   rcases shpR (.inl rfl) po with rfl|⟨xs,c,rfl,_,_⟩
   ·cases r10;exact ⟨_,_,_,rfl,fun h=>absurd h X0o,fun _=>rfl⟩
   ·rw [Wc3]
    rcases r10.inv_sl with ⟨b,off,cap,sz,us,rfl,_⟩|⟨a,rfl,rfl,_⟩
    ·refine ⟨_,_,_,rfl,fun h => ?_,fun h => ?_⟩
     ·rw [if_neg (by cases xs with|nil=>simp at h|cons _ _=>simp)];omega
     ·rw [if_pos (by rw [Xap.1 h];rfl)]
    ·exact ⟨_,_,_,rfl,fun h=>absurd h X0o,fun _=>rfl⟩
  obtain ⟨a,l,c,rfl,z1,z2⟩:=hz
  have hhe:∀a b c d e f g h i j,V.hh (.agg [.int .i64 a,.int .i64 b,.str c,.str d,.int .i64 e,.str f,.bool g,.int .i64 h,.int .i64 i,.int .i64 j,o])=V.hh o:=fun a b c d e f g h i j=>by simp [V.hh,V.hhs]
  refine ⟨⟨v0,v1,s2,s3,v4,s5,v6,v7,v8,v9,a,l,c,V.hh o⟩,hb,?_,?_,z2,(hhe _ _ _ _ _ _ _ _ _ _).symm⟩
  ·intro j u hu
   match j,hu with
   |0,hu=>cases hu;exact g0
   |1,hu=>cases hu;exact g1
   |2,hu=>cases hu;exact g2
   |3,hu=>cases hu;exact g3
   |4,hu=>cases hu;exact g4
   |5,hu=>cases hu;exact g5
   |6,hu=>cases hu;exact g6
   |7,hu=>cases hu;exact g7
   |8,hu=>cases hu;exact g8
   |9,hu=>cases hu;exact g9
   |10,hu=>cases hu;exact g10
   |j+11,hu=>simp [SV.cs] at hu
  ·intro hl
   have:=z1 hl
   rw [show max 1 ((V.hh o+2) / 3)=(V.hh o+2) / 3 by omega] at hd
   exact hd
theorem Qnv {xs:List V} {x:V} {c:Cap} (h:x∈xs):SizeOf.sizeOf x<SizeOf.sizeOf (V.sl xs c):=by
 have:=List.sizeOf_lt_of_mem h
 simp;omega
theorem mk3 (hM:Held M n0 w) {v:Value} {x:V} (hr:Rep M Z v x) (hs:V.shp 4 x=true) (IH:∀o,SizeOf.sizeOf o<SizeOf.sizeOf x→Pd M Z n0 w o):
  ∃L:List SV,R3 n0 w v L∧(∀s∈L,0<s.len→Dp n0 w s.of ((s.h+2) / 3))∧(∀s∈L,s.len=0→s.h=0)∧V.hh x=h3 L:=by
 have hx:=shpR (.inr (.inr rfl)) hs
 obtain ⟨xs,a,cap,rfl,hxx,hel⟩:=Qrl (by rcases hx with h|⟨xs,c,h,_⟩;exact .inl h;exact .inr ⟨xs,c,h⟩) hr hM
 have hxs:(∀e∈xs,V.shp 5 e=true∧SizeOf.sizeOf e<SizeOf.sizeOf x)∧xs.length≤1000000000∧V.hh x=if xs=[] then 0 else V.hhs xs+1:=by
  rcases hxx with ⟨rfl,rfl⟩|⟨c,rfl⟩
  ·exact ⟨fun e he=>(by cases he),by simp,rfl⟩
  ·rcases hx with h|⟨ys,c',h,h1,h2⟩
   ·cases h
   ·cases h
    refine ⟨fun e he=>⟨Qg1 h2 e he,Qnv he⟩,h1,?_⟩
    rw [Wc3];cases xs <;> rfl
 obtain ⟨h1,h2,h3'⟩:=hxs
 obtain ⟨L,hL,hLe⟩:=Qnu (fun i (s:SV)=>∃b off,a=some ⟨b,off,none⟩∧b<n0∧(∀j u,s.cs[j]? = some u→w.cell? ⟨b,off+i * 11+j,none⟩=some u)∧(0<s.len→Dp n0 w s.of ((s.h+2) / 3))∧(s.len=0→s.h=0)∧(xs[i]?).map V.hh=some s.h) xs.length (fun i hi=>by
  obtain ⟨e,he⟩:∃e,xs[i]? = some e:=⟨_,Xae hi⟩
  obtain ⟨g1,g2⟩:=h1 e (Xat he)
  obtain ⟨b,off,ha,hc⟩:=hel i e he
  obtain ⟨s,k1,k2,k3,k4,k5⟩:=mk_s hM g1 (fun o ho=>IH o X0o) hc
  exact ⟨s,b,off,ha,k1,k2,k3,k4,by rw [he,k5];rfl⟩)
 refine ⟨L,⟨a,cap,by rw [hL],by omega,fun i s hs => ?_⟩,fun s hs => ?_,fun s hs => ?_,?_⟩
 ·obtain ⟨b,off,k1,k2,k3,_⟩:=hLe i s hs
  exact ⟨b,off,k1,k2,k3⟩
 ·obtain ⟨i,hi⟩:=Xc3 hs
  obtain ⟨b,off,k1,k2,k3,k4,_⟩:=hLe i s hi
  exact k4
 ·obtain ⟨i,hi⟩:=Xc3 hs
  obtain ⟨b,off,k1,k2,k3,k4,k5,_⟩:=hLe i s hi
  exact k5
 ·have e:xs.map V.hh=L.map SV.h:=by
   apply Xbz
   intro i
   rw [Xan,Xan]
   cases hi:L[i]? with
   |none=>
    have:xs[i]? = none:=by rw [Xc5] at hi ⊢; omega
    rw [this];rfl
   |some s=>
    obtain ⟨b,off,k1,k2,k3,k4,k5,k6⟩:=hLe i s hi
    rw [k6];rfl
  rw [h3',Qth,e]
  unfold h3 hm
  have:xs=[]↔L=[]:=by rw [←Xap,←Xap,hL]
  by_cases hz:L=[]
  ·rw [if_pos (this.2 hz),if_pos hz]
  ·rw [if_neg (fun h=>hz (this.1 h)),if_neg hz]
theorem Wky {e:V} (h:V.shp 1 e=true):∃l,e = .agg [l]∧V.shp 2 l=true:=by
 cases e <;> simp [V.shp] at h
 rename_i cs
 match cs,h with
 |[],h=>simp [V.shpEach] at h
 |[l],h=>simp only [V.shpEach,Xac] at h;exact ⟨l,rfl,h.1⟩
 |_::_::_,h=>simp [V.shpEach] at h
theorem Wkz {e:V} (h:V.shp 3 e=true):∃n l,e = .agg [.int .i64 n,l]∧V.shp 4 l=true:=by
 cases e <;> simp [V.shp] at h
 rename_i cs
 match cs,h with
 |[],h=>simp [V.shpEach] at h
 |[_],h=>simp [V.shpEach] at h
 |[x,l],h=>
  simp only [V.shpEach,Xac] at h
  obtain ⟨n,rfl⟩:=shp6 h.1
  exact ⟨n,l,rfl,h.2.1⟩
 |_::_::_::_,h=>simp [V.shpEach] at h
theorem mk2 (hM:Held M n0 w) {v:Value} {x:V} (hr:Rep M Z v x) (hs:V.shp 2 x=true) (IH:∀o,SizeOf.sizeOf o<SizeOf.sizeOf x→Pd M Z n0 w o):
  ∃ps:List (List SV),R2 n0 w v ps∧(∀L∈ps,(∀s∈L,0<s.len→Dp n0 w s.of ((s.h+2) / 3))∧(∀s∈L,s.len=0→s.h=0))∧V.hh x=h2 ps:=by
 have hx:=shpR (.inr (.inl rfl)) hs
 obtain ⟨xs,a,cap,rfl,hxx,hel⟩:=Qrl (by rcases hx with h|⟨xs,c,h,_⟩;exact .inl h;exact .inr ⟨xs,c,h⟩) hr hM
 have hxs:(∀e∈xs,V.shp 3 e=true∧SizeOf.sizeOf e<SizeOf.sizeOf x)∧xs.length≤1000000000∧V.hh x=if xs=[] then 0 else V.hhs xs+1:=by
  rcases hxx with ⟨rfl,rfl⟩|⟨c,rfl⟩
  ·exact ⟨fun e he=>(by cases he),by simp,rfl⟩
  ·rcases hx with h|⟨ys,c',h,h1,h2⟩
   ·cases h
   ·cases h
    refine ⟨fun e he=>⟨Qg1 h2 e he,Qnv he⟩,h1,?_⟩
    rw [Wc3];cases xs <;> rfl
 obtain ⟨g1,g2,g3⟩:=hxs
 obtain ⟨ps,hL,hLe⟩:=Qnu (fun i (L:List SV)=>∃b off c u,a=some ⟨b,off,none⟩∧b<n0∧w.cell? ⟨b,off+i * 2,none⟩=some (.int .i64 c)∧w.cell? ⟨b,off+i * 2+1,none⟩=some u∧R3 n0 w u L∧(∀s∈L,0<s.len→Dp n0 w s.of ((s.h+2) / 3))∧(∀s∈L,s.len=0→s.h=0)∧(xs[i]?).map V.hh=some (h3 L)) xs.length (fun i hi=>by
  obtain ⟨e,he⟩:∃e,xs[i]? = some e:=⟨_,Xae hi⟩
  obtain ⟨q1,q2⟩:=g1 e (Xat he)
  obtain ⟨n,l,rfl,hl⟩:=Wkz q1
  obtain ⟨b,off,ha,hc⟩:=hel i _ he
  obtain ⟨u0,r0,hb,c0⟩:=hc 0 _ rfl
  obtain ⟨u1,r1,_,c1⟩:=hc 1 _ rfl
  cases r0.inv_int
  obtain ⟨L,k1,k2,k3,k4⟩:=mk3 hM r1 hl (fun o ho=>IH o (by simp at q2;omega))
  refine ⟨L,b,off,n,u1,ha,hb,c0,c1,k1,k2,k3,?_⟩
  rw [he,←k4]
  simp [V.hh,V.hhs])
 refine ⟨ps,⟨a,cap,by rw [hL],by omega,fun i s hs => ?_⟩,fun L hs => ?_,?_⟩
 ·obtain ⟨b,off,c,u,k1,k2,k3,k4,k5,_⟩:=hLe i s hs
  exact ⟨b,off,c,u,k1,k2,k3,k4,k5⟩
 ·obtain ⟨i,hi⟩:=Xc3 hs
  obtain ⟨b,off,c,u,k1,k2,k3,k4,k5,k6,k7,_⟩:=hLe i L hi
  exact ⟨k6,k7⟩
 ·have e:xs.map V.hh=ps.map h3:=by
   apply Xbz
   intro i
   rw [Xan,Xan]
   cases hi:ps[i]? with
   |none=>
    have:xs[i]? = none:=by rw [Xc5] at hi ⊢; omega
    rw [this];rfl
   |some s=>
    obtain ⟨b,off,c,u,k1,k2,k3,k4,k5,k6,k7,k8⟩:=hLe i s hi
    rw [k8];rfl
  rw [g3,Qth,e]
  unfold h2 m3
  have:xs=[]↔ps=[]:=by rw [←Xap,←Xap,hL]
  by_cases hz:ps=[]
  ·rw [if_pos (this.2 hz),if_pos hz]
  ·rw [if_neg (fun h=>hz (this.1 h)),if_neg hz]
theorem mk1 (hM:Held M n0 w) {v:Value} {x:V} (hr:Rep M Z v x) (hs:V.shp 0 x=true) (IH:∀o,SizeOf.sizeOf o<SizeOf.sizeOf x→Pd M Z n0 w o):
  ∃qs:List (List (List SV)),R1 n0 w v qs∧(∀ps∈qs,∀L∈ps,(∀s∈L,0<s.len→Dp n0 w s.of ((s.h+2) / 3))∧(∀s∈L,s.len=0→s.h=0))∧V.hh x=h1 qs:=by
 have hx:=shpR (.inl rfl) hs
 obtain ⟨xs,a,cap,rfl,hxx,hel⟩:=Qrl (by rcases hx with h|⟨xs,c,h,_⟩;exact .inl h;exact .inr ⟨xs,c,h⟩) hr hM
 have hxs:(∀e∈xs,V.shp 1 e=true∧SizeOf.sizeOf e<SizeOf.sizeOf x)∧xs.length≤1000000000∧V.hh x=if xs=[] then 0 else V.hhs xs+1:=by
  rcases hxx with ⟨rfl,rfl⟩|⟨c,rfl⟩
  ·exact ⟨fun e he=>(by cases he),by simp,rfl⟩
  ·rcases hx with h|⟨ys,c',h,h1,h2⟩
   ·cases h
   ·cases h
    refine ⟨fun e he=>⟨Qg1 h2 e he,Qnv he⟩,h1,?_⟩
    rw [Wc3];cases xs <;> rfl
 obtain ⟨g1,g2,g3⟩:=hxs
 obtain ⟨qs,hL,hLe⟩:=Qnu (fun i (ps:List (List SV))=>∃b off u,a=some ⟨b,off,none⟩∧b<n0∧w.cell? ⟨b,off+i,none⟩=some u∧R2 n0 w u ps∧(∀L∈ps,(∀s∈L,0<s.len→Dp n0 w s.of ((s.h+2) / 3))∧(∀s∈L,s.len=0→s.h=0))∧(xs[i]?).map V.hh=some (h2 ps)) xs.length (fun i hi=>by
  obtain ⟨e,he⟩:∃e,xs[i]? = some e:=⟨_,Xae hi⟩
  obtain ⟨q1,q2⟩:=g1 e (Xat he)
  obtain ⟨l,rfl,hl⟩:=Wky q1
  obtain ⟨b,off,ha,hc⟩:=hel i _ he
  obtain ⟨u0,r0,hb,c0⟩:=hc 0 _ rfl
  obtain ⟨ps,k1,k2,k3⟩:=mk2 hM r0 hl (fun o ho=>IH o (by simp at q2;omega))
  refine ⟨ps,b,off,u0,ha,hb,by simpa [V.cells] using c0,k1,k2,?_⟩
  rw [he,←k3]
  simp [V.hh,V.hhs])
 refine ⟨qs,⟨a,cap,by rw [hL],by omega,fun i s hs => ?_⟩,fun ps hs => ?_,?_⟩
 ·obtain ⟨b,off,u,k1,k2,k3,k4,_⟩:=hLe i s hs
  exact ⟨b,off,u,k1,k2,k3,k4⟩
 ·obtain ⟨i,hi⟩:=Xc3 hs
  obtain ⟨b,off,u,k1,k2,k3,k4,k5,_⟩:=hLe i ps hi
  exact k5
 ·have e:xs.map V.hh=qs.map h2:=by
   apply Xbz
   intro i
   rw [Xan,Xan]
   cases hi:qs[i]? with
   |none=>
    have:xs[i]? = none:=by rw [Xc5] at hi ⊢; omega
    rw [this];rfl
   |some s=>
    obtain ⟨b,off,u,k1,k2,k3,k4,k5,k6⟩:=hLe i s hi
    rw [k6];rfl
  rw [g3,Qth,e]
  unfold h1 m2
  have:xs=[]↔qs=[]:=by rw [←Xap,←Xap,hL]
  by_cases hz:qs=[]
  ·rw [if_pos (this.2 hz),if_pos hz]
  ·rw [if_neg (fun h=>hz (this.1 h)),if_neg hz]
theorem Wes (hM:Held M n0 w):∀(n:Nat) (x:V),SizeOf.sizeOf x<n→Pd M Z n0 w x
 |0,x,h=>by omega
 |n+1,x,h=>fun v hr hs=>by
  obtain ⟨qs,k1,k2,k3⟩:=mk1 hM hr hs (fun o ho=>Wes hM n o X0o)
  have hz:∀s∈qs.flatten.flatten,s.len=0→s.h=0:=fun s hs=>by
   obtain ⟨L,hL,hs⟩:=Xdr.1 hs
   obtain ⟨ps,hps,hL⟩:=Xdr.1 hL
   exact (k2 ps hps L hL).2 s hs
  rw [k3,Wnx,←Wkx _ hz]
  refine .mk v qs _ k1 fun s hs hl => ?_
  obtain ⟨L,hL,hs⟩:=Xdr.1 hs
  obtain ⟨ps,hps,hL⟩:=Xdr.1 hL
  exact (k2 ps hps L hL).1 s hs hl
end
theorem Qrm (G:GV):Sound prog G 53 Qrk:=by
 refine Sound.of_below fun args U r U' he => ?_
 have hrun:∀vs w,(callFunc 53 vs).run prog w = .ok (.enter 53 vs) w:=fun vs w=>Qdz func53 rfl (by kernel_rfl) vs
 unfold Qrk at he
 rw [Xam] at he
 obtain ⟨v0,hv0,he⟩:=he
 cases he
 unfold Qrj at hv0
 split at hv0
 ·rename_i x
  split at hv0
  ·rename_i hc
   cases hv0
   simp only [Xac,decide_eq_true_eq] at hc
   refine ⟨rfl,rfl,fun M Z X D w vs h hG=>⟨hrun _ _,_,.int _ _,?_⟩⟩
   have hl:=h.rep.1
   obtain ⟨v,hv⟩:∃v,vs.toList=[v]:=Xcv.1 (by simpa using hl)
   have hvs:vs = #[v]:=by apply Xc1;simpa using hv
   have hr:Rep M Z v x:=by have:=h.rep;rw [hv] at this;exact this.head
   subst hvs
   have hM:Held M w.heap.size w:=fun b i u hb=>⟨h.wd.lt hb,h.wd.mem b i u hb⟩
   exact Qvs (Wes hM _ x (Nat.lt_succ_self _) v hr hc.1) X0o w (.refl _ _) (Xai _)
  ·cases hv0
 ·cases hv0
end Go.Proofs.YtapnplljnpconaaGreatDoor
namespace Go.Proofs.YtapnplljnpconaaGreatDoor
open Go.RowKit
def RowA {α:Type} (f:α→Value) (d:α) (base:Nat) (w:World) (a:Option Addr) (n c:Nat) (xs:List α):Prop:=
 xs.length=n∧n≤c∧c≤maxLen∧(0<n→∃b off,a=some ⟨b,off,none⟩∧base≤b∧b<w.heap.size∧∀j,j<n→w.cell? ⟨b,off+j,none⟩=some (f (xs.getD j d)))
section
variable {α:Type} {f:α→Value} {d:α} {base:Nat} {w w':World} {a:Option Addr} {n c:Nat} {xs:List α} {v:Value}
theorem RowA.len (h:RowA f d base w a n c xs):xs.length=n:=h.1
theorem RowA.le_cap (h:RowA f d base w a n c xs):n≤c:=h.2.1
theorem RowA.le (h:RowA f d base w a n c xs):n≤9223372036854775807:=by
 have h1:=h.2.1;have h2:=h.2.2.1;simp only [maxLen] at h2;omega
theorem RowA.at (h:RowA f d base w a n c xs) (hn:0<n):
  ∃b off,a=some ⟨b,off,none⟩∧base≤b∧b<w.heap.size∧∀j,j<n→w.cell? ⟨b,off+j,none⟩=some (f (xs.getD j d)):=h.2.2.2 hn
theorem RowA.mono {base':Nat} (h:RowA f d base w a n c xs) (hb:base'≤base):RowA f d base' w a n c xs:=by
 obtain ⟨h1,h2,h3,h4⟩:=h
 refine ⟨h1,h2,h3,fun hn => ?_⟩
 obtain ⟨b,off,e,hbb,hlt,hc⟩:=h4 hn
 exact ⟨b,off,e,by omega,hlt,hc⟩
theorem RowA.keepB {Bww:Nat} (h:RowA f d base w a n c xs) (hb:Below Bww w w') (hB:w.heap.size≤Bww):RowA f d base w' a n c xs:=by
 obtain ⟨h1,h2,h3,h4⟩:=h
 refine ⟨h1,h2,h3,fun hn => ?_⟩
 obtain ⟨b,off,e,hbb,hlt,hc⟩:=h4 hn
 refine ⟨b,off,e,hbb,Xbw hlt hb.size,fun j hj => ?_⟩
 rw [hb.cell (p:=⟨b,off+j,none⟩) (Xbw hlt hB)]
 exact hc j hj
theorem RowA.keep (h:RowA f d base w a n c xs) (hb:Below w.heap.size w w'):RowA f d base w' a n c xs:=h.keepB hb (Xai _)
theorem RowA.drew (h:RowA f d base w a n c xs):RowA f d base w.drew a n c xs:=h.keep (Below.refl _ _).drew
theorem RowA.setCell (h:RowA f d base w a n c xs) {p:Addr} (hp:p.block<base) (u:Value):RowA f d base (w.setCell p u) a n c xs:=by
 obtain ⟨h1,h2,h3,h4⟩:=h
 refine ⟨h1,h2,h3,fun hn => ?_⟩
 obtain ⟨b,off,e,hbb,hlt,hc⟩:=h4 hn
 refine ⟨b,off,e,hbb,by simpa [World.setCell] using hlt,fun j hj => ?_⟩
 rw [World.cell?_of_block (w:=w) (Below.heap_setCell w p u b X0o)]
 exact hc j hj
theorem RowA.nil (f:α→Value) (d:α) (base:Nat) (w:World):RowA f d base w none 0 0 []:=⟨rfl,Xai _,by simp [maxLen],fun h=>absurd h (Nat.lt_irrefl _)⟩
theorem RowA.take (h:RowA f d base w a n c xs) (m c':Nat) (hm:m≤n) (hc:m≤c') (hc':c'≤c):RowA f d base w a m c' (xs.take m):=by
 obtain ⟨h1,h2,h3,h4⟩:=h
 refine ⟨by simp;omega,hc,Xca hc' h3,fun hn => ?_⟩
 obtain ⟨b,off,e,hbb,hlt,hx⟩:=h4 X0o
 refine ⟨b,off,e,hbb,hlt,fun j hj => ?_⟩
 rw [hx j X0o]
 simp [Xav,hj]
end
def RowV {α:Type} (f:α→Value) (d:α) (base:Nat) (w:World) (v:Value) (xs:List α):Prop:=∃a n c,v = .slice a n c∧RowA f d base w a n c xs
theorem RowV.keep {α} {f:α→Value} {d base w w' v} {xs:List α} (h:RowV f d base w v xs) (hb:Below w.heap.size w w'):RowV f d base w' v xs:=
 let ⟨a,n,c,e,hr⟩:=h;⟨a,n,c,e,hr.keep hb⟩
theorem RowV.mono {α} {f:α→Value} {d base base' w v} {xs:List α} (h:RowV f d base w v xs) (hb:base'≤base):RowV f d base' w v xs:=
 let ⟨a,n,c,e,hr⟩:=h;⟨a,n,c,e,hr.mono hb⟩
theorem RowV.setCell {α} {f:α→Value} {d base w v} {xs:List α} (h:RowV f d base w v xs) {p:Addr} (hp:p.block<base) (u:Value):RowV f d base (w.setCell p u) v xs:=
 let ⟨a,n,c,e,hr⟩:=h;⟨a,n,c,e,hr.setCell hp u⟩
theorem Qnw {w:World} {b:Nat} {cs:Array Value} {e:TypeId} (h:w.heap[b]? = some (.cells cs e (0,0))) (i:Nat) (v:Value):
  (w.setCell ⟨b,i,none⟩ v).heap[b]? = some (.cells (cs.setIfInBounds i v) e (0,0)):=by
 simp [World.setCell,Array.getElem?_modify,h]
theorem Qrn {w w':World} {Bww b:Nat} {o:Obj} (h:w.heap[b]? = some o) (hb:Below Bww w w') (hB:b<Bww):w'.heap[b]? = some o:=by
 rw [hb.block b hB];exact h
theorem Qro {w:World} {b:Nat} {o:Obj} (h:w.heap[b]? = some o):b<w.heap.size:=(Xa7.1 h).1
theorem Qik {w:World} {b:Nat} {cs:Array Value} {e:TypeId} (h:w.heap[b]? = some (.cells cs e (0,0))) (i:Nat):w.cell? ⟨b,i,none⟩=cs[i]? := by
 unfold World.cell?; simp [h]
theorem Qnx {w:World} {b:Nat} {cs:Array Value} {e:TypeId} (h:w.heap[b]? = some (.cells cs e (0,0))) (i:Nat):w.frozen? ⟨b,i,none⟩=false:=by
 unfold World.frozen?; simp [h]
abbrev VB:Bool→Value:=Value.bool
abbrev VI:Int→Value:=Value.int .i64
theorem Qdx (w:World) (o:Obj):Below w.heap.size w (w.alloc o):=(Below.refl _ _).alloc (Xai _) o
theorem Wc4 (b off j:Nat):(⟨b,off,none⟩:Addr).add j=⟨b,off+j,none⟩:=by
 unfold Addr.add;split <;> simp_all
theorem RowA.news {α} {f:α→Value} {d base w a n c} {xs:List α} (h:RowA f d base w (some a) n c xs):∀j u,(xs.map f)[j]? = some u→w.cell? (a.add j)=some u:=by
 intro j u hu
 have hl:=h.len
 have hj:j<n:=by
  rcases Xby j n with h|h
  ·exact h
  ·rw [Xa3 (by simp;omega)] at hu;cases hu
 obtain ⟨b,off,e,_,_,hc⟩:=h.at X0o
 simp only [Xah] at e
 subst e
 rw [Wc4,hc j hj]
 rw [Xan,Xae X0o] at hu
 simp only [Xag,Xah] at hu
 rw [←hu]
 simp [List.getD,show j<xs.length by omega]
def RowG {α:Type} (g:α→List Value) (sz:Nat) (d:α) (w:World) (a:Option Addr) (n c:Nat) (xs:List α):Prop:=
 xs.length=n∧n≤c∧c≤maxLen∧(0<n→∃b off,a=some ⟨b,off,none⟩∧b<w.heap.size∧∀j,j<n→∀i v,(g (xs.getD j d))[i]? = some v→w.cell? ⟨b,off+j * sz+i,none⟩=some v)
theorem RowG.len {α} {g:α→List Value} {sz d w a n c} {xs:List α} (h:RowG g sz d w a n c xs):xs.length=n:=h.1
theorem RowG.le_cap {α} {g:α→List Value} {sz d w a n c} {xs:List α} (h:RowG g sz d w a n c xs):n≤c:=h.2.1
theorem RowG.le {α} {g:α→List Value} {sz d w a n c} {xs:List α} (h:RowG g sz d w a n c xs):n≤9223372036854775807:=by
 have h1:=h.2.1;have h2:=h.2.2.1;simp only [maxLen] at h2;omega
theorem RowG.keep {α} {g:α→List Value} {sz d w w' a n c} {xs:List α} (h:RowG g sz d w a n c xs) (hb:Below w.heap.size w w'):RowG g sz d w' a n c xs:=by
 obtain ⟨h1,h2,h3,h4⟩:=h
 refine ⟨h1,h2,h3,fun hn => ?_⟩
 obtain ⟨b,off,e,hlt,hc⟩:=h4 hn
 refine ⟨b,off,e,Xbw hlt hb.size,fun j hj i v hv => ?_⟩
 rw [hb.cell (p:=⟨b,off+j * sz+i,none⟩) hlt]
 exact hc j hj i v hv
theorem RowG.at {α} {g:α→List Value} {sz d w a n c} {xs:List α} (h:RowG g sz d w a n c xs) (hn:0<n):
  ∃b off,a=some ⟨b,off,none⟩∧b<w.heap.size∧∀j,j<n→∀i v,(g (xs.getD j d))[i]? = some v→w.cell? ⟨b,off+j * sz+i,none⟩=some v:=h.2.2.2 hn
theorem Qki {w w':World} {b:Nat} {o:Obj} (h:w.heap[b]? = some o) (hb:Below w.heap.size w w'):w'.heap[b]? = some o:=Qrn h hb (Qro h)
end Go.Proofs.YtapnplljnpconaaGreatDoor
namespace Go.Proofs.YtapnplljnpconaaGreatDoor
open Go.RowKit Go.Extern.Stop Go.Stop Go.Extern
theorem Tryz.as_valueOf27 (t:Addr) (w:World):(ReflectliteValue.unpack (.iface 100 (.pointer (some t)))).run prog w
  = .ok (.agg #[.pointer (some ⟨5,100,none⟩),.pointer (some ⟨w.heap.size,0,none⟩),.int .u64 150]) (w.alloc (.cells #[.pointer (some t)] 100)):=by kernel_rfl
theorem Tryz.as_type27 (a:Addr) (w:World):(ReflectliteValue.methodAny (ReflectliteValue.valueError "reflectlite.Value.Type" 0) (fun t _ _ _=>ReflectliteType.toType t) #[.agg #[.pointer (some ⟨5,100,none⟩),.pointer (some a),.int .u64 150]]).run prog w
  = .ok (.iface 157 (.agg #[.pointer (some ⟨5,100,none⟩)])) w:=by kernel_rfl
theorem Tryz.as_methodKind (h:Value) (w:World):(Go.method 371 157 (.agg #[h]) "Kind").run prog w = .ok (200,h) w:=by kernel_rfl
theorem Tryz.as_kind27 (w:World):((ReflectliteType.abiMethod fun t=>(fun a:Nat=>Value.int IntKind.u8 (a:Int)) <$> Rtype.kind t) #[.pointer (some ⟨5,100,none⟩)]).run prog w = .ok (.int .u8 22) w:=by kernel_rfl
theorem Tryz.as_kind25 (w:World):((ReflectliteType.abiMethod fun t=>(fun a:Nat=>Value.int IntKind.u8 (a:Int)) <$> Rtype.kind t) #[.pointer (some ⟨5,98,none⟩)]).run prog w = .ok (.int .u8 22) w:=by kernel_rfl
theorem rlm (z:Sem Value) (f:TypeId→Addr→Nat→Nat→Sem Value) (v:Value):
  ReflectliteValue.method z f #[v]=(do match ←ReflectliteValue.parts v with|none=>z|some (t,a,fl)=>f t a fl (fl % 32)):=rfl
theorem Tryz.as_parts27 (a:Addr) (w:World):(ReflectliteValue.parts (.agg #[.pointer (some ⟨5,100,none⟩),.pointer (some a),.int .u64 150])).run prog w = .ok (some (100,a,150)) w:=by kernel_rfl
theorem Tryz.as_isNil27 (a p:Addr) (W:World) (ha:W.cell? a=some (.pointer (some p))):
  (ReflectliteValue.method (ReflectliteValue.valueError "reflectlite.Value.IsNil" 0) ReflectliteValue.isNil #[.agg #[.pointer (some ⟨5,100,none⟩),.pointer (some a),.int .u64 150]]).run prog W = .ok (.bool false) W:=by
 rw [rlm]
 simp only [Sem.run_bind,Tryz.as_parts27,Result.andThen]
 simp [ReflectliteValue.isNil,loadVar,isAgg,underlying,Tryz.underlying100,ha,Result.andThen]
theorem Tryz.as_methodElem (h:Value) (w:World):(Go.method 371 157 (.agg #[h]) "Elem").run prog w = .ok (212,.agg #[h]) w:=by kernel_rfl
theorem Tryz.as_methodImplements (h:Value) (w:World):(Go.method 371 157 (.agg #[h]) "Implements").run prog w = .ok (213,.agg #[h]) w:=by kernel_rfl
theorem Tryz.as_methodAssignableTo (h:Value) (w:World):(Go.method 371 157 (.agg #[h]) "AssignableTo").run prog w = .ok (210,.agg #[h]) w:=by kernel_rfl
theorem Tryz.as_elem27 (w:World):(ReflectliteType.method ReflectliteType.elem #[.agg #[.pointer (some ⟨5,100,none⟩)]]).run prog w = .ok (.iface 157 (.agg #[.pointer (some ⟨5,98,none⟩)])) w:=by kernel_rfl
theorem Tryz.as_implements25 (w:World):(ReflectliteType.relation "Implements" ReflectliteType.implements_ #[.agg #[.pointer (some ⟨5,98,none⟩)],.iface 157 (.agg #[.pointer (some ⟨5,35,none⟩)])]).run prog w = .ok (.bool true) w:=by kernel_rfl
theorem Tryz.as_typeOf25 (v:Value) (w:World):(ReflectliteType.typeOf #[.iface 98 v]).run prog w = .ok (.iface 157 (.agg #[.pointer (some ⟨5,98,none⟩)])) w:=by kernel_rfl
theorem Tryz.as_assignable25 (w:World):(ReflectliteType.relation "AssignableTo" ReflectliteType.assignableTo #[.agg #[.pointer (some ⟨5,98,none⟩)],.iface 157 (.agg #[.pointer (some ⟨5,98,none⟩)])]).run prog w = .ok (.bool true) w:=by kernel_rfl
theorem Tryz.as_valueOf25 (e:Addr) (w:World):(ReflectliteValue.unpack (.iface 98 (.pointer (some e)))).run prog w
  = .ok (.agg #[.pointer (some ⟨5,98,none⟩),.pointer (some ⟨w.heap.size,0,none⟩),.int .u64 150]) (w.alloc (.cells #[.pointer (some e)] 98)):=by kernel_rfl
theorem Tryz.as_elemOf27 (w:World):(Rtype.elem? 100).run prog w = .ok (some 98) w:=by kernel_rfl
theorem Tryz.as_mk25 (p:Addr) (w:World):(ReflectliteValue.mk 98 p ReflectliteValue.flagAddr).run prog w = .ok (.agg #[.pointer (some ⟨5,98,none⟩),.pointer (some p),.int .u64 406]) w:=by kernel_rfl
theorem Tryz.as_elemV27 (a p:Addr) (W:World) (ha:W.cell? a=some (.pointer (some p))):
  (ReflectliteValue.method (ReflectliteValue.valueError "reflectlite.Value.Elem" 0) ReflectliteValue.elem #[.agg #[.pointer (some ⟨5,100,none⟩),.pointer (some a),.int .u64 150]]).run prog W
   = .ok (.agg #[.pointer (some ⟨5,98,none⟩),.pointer (some p),.int .u64 406]) W:=by
 rw [rlm]
 simp only [Sem.run_bind,Tryz.as_parts27,Result.andThen]
 simp [ReflectliteValue.elem,loadVar,isAgg,underlying,Tryz.underlying100,ha,Result.andThen,Tryz.as_elemOf27,Tryz.as_mk25]
theorem rls (v x:Value):ReflectliteValue.set #[v,x]=(do
  let (some (dst,a,fl),some (src,b,_)):=(←ReflectliteValue.parts v,←ReflectliteValue.parts x)
   |unsupported (.noEntry "extern/(internal/reflectlite.Value).Set.zeroValue")
  if fl / ReflectliteValue.flagAddr % 2 == 0 then unsupported (.noEntry "extern/(internal/reflectlite.Value).Set.unaddressable")
  let val ←loadVar src b
  if ←Rtype.directlyAssignable dst src then storeVar dst a val
  else if ←Rtype.implements dst src then
   if (←Rtype.kind src) == 20 then
    match val with
    | .nilIface=>unsupported (.noEntry "extern/reflectlite: a nil value of one interface type handed on as a value of another")
    |_=>storeVar dst a val
   else storeVar dst a (.iface src val)
  else panicString ("reflectlite.Set: value of type " ++ (←Rtype.spelt src) ++ " is not assignable to type " ++ (←Rtype.spelt dst))
  pure (.tuple #[])):=rfl
theorem Tryz.as_parts25a (a:Addr) (w:World):(ReflectliteValue.parts (.agg #[.pointer (some ⟨5,98,none⟩),.pointer (some a),.int .u64 406])).run prog w = .ok (some (98,a,406)) w:=by kernel_rfl
theorem Tryz.as_parts25 (a:Addr) (w:World):(ReflectliteValue.parts (.agg #[.pointer (some ⟨5,98,none⟩),.pointer (some a),.int .u64 150])).run prog w = .ok (some (98,a,150)) w:=by kernel_rfl
theorem Tryz.as_direct25 (w:World):(Rtype.directlyAssignable 98 98).run prog w = .ok true w:=by kernel_rfl
theorem Tryz.as_set25 (ta b e:Addr) (old:Value) (W:World) (hb:W.cell? b=some (.pointer (some e))) (ht:W.cell? ta=some old) (hf:W.frozen? ta=false):
  (ReflectliteValue.set #[.agg #[.pointer (some ⟨5,98,none⟩),.pointer (some ta),.int .u64 406],.agg #[.pointer (some ⟨5,98,none⟩),.pointer (some b),.int .u64 150]]).run prog W
   = .ok (.tuple #[]) (W.setCell ta (.pointer (some e))):=by
 rw [rls]
 simp only [Sem.run_bind,Tryz.as_parts25a,Tryz.as_parts25,Result.andThen]
 simp [ReflectliteValue.flagAddr,loadVar,isAgg,underlying,Tryz.underlying98,hb,Result.andThen,Tryz.as_direct25,storeVar,Value.cells,storeCells,Addr.add]
 rw [run_store prog W ta _ _ (by rfl)]
 simp [ht,hf]
set_option maxHeartbeats 4000000 in
theorem Wk0 (e t:Addr) (old:Value) (w:World) (hg:w.cell? ⟨0,0,none⟩=some (.iface 157 (.agg #[.pointer (some ⟨5,35,none⟩)]))) (ht0:w.cell? t=some old) (hf0:w.frozen? t=false):
  Calls prog 40 #[.iface 98 (.pointer (some e)),.iface 100 (.pointer (some t))] w fun ev w'=>ev = .returned (.bool true)∧w'=((((w.alloc (.cells #[.pointer (some t)] 100)).alloc (.cells #[.pointer (some ⟨5,100,none⟩),.pointer (some ⟨w.heap.size,0,none⟩),.int .u64 150] 123)).alloc (.cells #[.pointer (some ⟨5,100,none⟩),.pointer (some ⟨w.heap.size,0,none⟩),.int .u64 150] 123)).alloc (.cells #[.pointer (some e)] 98)).setCell t (.pointer (some e)):=by
 have h6:=@run_callFunc_extern prog 58 _ (fun args=>ReflectliteValue.unpack (args.getD 0 (.tuple #[]))) func58 (by kernel_rfl) (by kernel_rfl) (by kernel_rfl) (by kernel_rfl)
 have h7:=@run_callFunc_extern prog 59 _ (ReflectliteValue.methodAny (ReflectliteValue.valueError "reflectlite.Value.Type" 0) (fun t _ _ _=>ReflectliteType.toType t)) func59 (by kernel_rfl) (by kernel_rfl) (by kernel_rfl) (by kernel_rfl)
 have h8:=@run_callFunc_extern prog 60 _ (ReflectliteValue.method (ReflectliteValue.valueError "reflectlite.Value.IsNil" 0) ReflectliteValue.isNil) func60 (by kernel_rfl) (by kernel_rfl) (by kernel_rfl) (by kernel_rfl)
 have h27:=@run_callFunc_extern prog 200 _ (ReflectliteType.abiMethod fun t=>do pure (.int .u8 (←Rtype.kind t))) func200 (by kernel_rfl) (by kernel_rfl) (by kernel_rfl) (by kernel_rfl)
 have h37:=@run_callFunc_extern prog 212 _ (ReflectliteType.method ReflectliteType.elem) func212 (by kernel_rfl) (by kernel_rfl) (by kernel_rfl) (by kernel_rfl)
 have h38:=@run_callFunc_extern prog 213 _ (ReflectliteType.relation "Implements" ReflectliteType.implements_) func213 (by kernel_rfl) (by kernel_rfl) (by kernel_rfl) (by kernel_rfl)
 have h10:=@run_callFunc_extern prog 84 _ ReflectliteType.typeOf func84 (by kernel_rfl) (by kernel_rfl) (by kernel_rfl) (by kernel_rfl)
 have h35:=@run_callFunc_extern prog 210 _ (ReflectliteType.relation "AssignableTo" ReflectliteType.assignableTo) func210 (by kernel_rfl) (by kernel_rfl) (by kernel_rfl) (by kernel_rfl)
 have h11:=@run_callFunc_extern prog 85 _ (ReflectliteValue.method (ReflectliteValue.valueError "reflectlite.Value.Elem" 0) ReflectliteValue.elem) func85 (by kernel_rfl) (by kernel_rfl) (by kernel_rfl) (by kernel_rfl)
 have h12:=@run_callFunc_extern prog 86 _ ReflectliteValue.set func86 (by kernel_rfl) (by kernel_rfl) (by kernel_rfl) (by kernel_rfl)
 have tO:=Tryz.as_typeOf25
 have mA:=Tryz.as_methodAssignableTo
 have a25:=Tryz.as_assignable25
 have v25:=Tryz.as_valueOf25
 have f6:=Tryz.as_valueOf27
 have f7:=Tryz.as_type27
 have mK:=Tryz.as_methodKind
 have mE:=Tryz.as_methodElem
 have mI:=Tryz.as_methodImplements
 have k27:=Tryz.as_kind27
 have k25:=Tryz.as_kind25
 have e27:=Tryz.as_elem27
 have i25:=Tryz.as_implements25
 have n8:=Tryz.as_isNil27 ⟨w.heap.size,0,none⟩ t ((w.alloc (.cells #[.pointer (some t)] 100)).alloc (.cells #[.pointer (some ⟨5,100,none⟩),.pointer (some ⟨w.heap.size,0,none⟩),.int .u64 150] 123)) (by simp)
 have hlt:0<w.heap.size:=World.block_lt_of_cell? w _ hg
 have hg2:((w.alloc (.cells #[.pointer (some t)] 100)).alloc (.cells #[.pointer (some ⟨5,100,none⟩),.pointer (some ⟨w.heap.size,0,none⟩),.int .u64 150] 123)).cell? ⟨0,0,none⟩=some (.iface 157 (.agg #[.pointer (some ⟨5,35,none⟩)])):=by
  rw [World.cell?_alloc_lt _ _ ⟨0,0,none⟩ (by simp),World.cell?_alloc_lt _ _ ⟨0,0,none⟩ hlt];exact hg
 have htl:t.block<w.heap.size:=by
  rcases Xby t.block w.heap.size with h|h
  ·exact h
  ·simp [World.cell?,Xb2 h] at ht0
 have el:=Tryz.as_elemV27 ⟨w.heap.size,0,none⟩ t (((w.alloc (.cells #[.pointer (some t)] 100)).alloc (.cells #[.pointer (some ⟨5,100,none⟩),.pointer (some ⟨w.heap.size,0,none⟩),.int .u64 150] 123)).alloc (.cells #[.pointer (some ⟨5,100,none⟩),.pointer (some ⟨w.heap.size,0,none⟩),.int .u64 150] 123)) (by rw [World.cell?_alloc_lt _ _ ⟨w.heap.size,0,none⟩ (by simp;omega)];simp)
 have st:=Tryz.as_set25 t ⟨w.heap.size+1+1+1,0,none⟩ e old ((((w.alloc (.cells #[.pointer (some t)] 100)).alloc (.cells #[.pointer (some ⟨5,100,none⟩),.pointer (some ⟨w.heap.size,0,none⟩),.int .u64 150] 123)).alloc (.cells #[.pointer (some ⟨5,100,none⟩),.pointer (some ⟨w.heap.size,0,none⟩),.int .u64 150] 123)).alloc (.cells #[.pointer (some e)] 98))
  (by rw [World.cell?_alloc_at _ _ _ _ (by simp)];rfl)
  (by rw [World.cell?_alloc_lt _ _ t (by simp;omega),World.cell?_alloc_lt _ _ t (by simp;omega),World.cell?_alloc_lt _ _ t (by simp;omega),World.cell?_alloc_lt _ _ t htl];exact ht0)
  (by rw [World.frozen?_alloc_old _ _ t (by simp;omega),World.frozen?_alloc_old _ _ t (by simp;omega),World.frozen?_alloc_old _ _ t (by simp;omega),World.frozen?_alloc_old _ _ t (Nat.ne_of_lt htl)];exact hf0)
 go_enter func40,Tryz.ntmps40
 go_wp2
 refine wp_loop_rounds 1 ?_
 rw [rounds_succ]
 go_wp2
 go_ret
 exact ⟨rfl,rfl⟩
end Go.Proofs.YtapnplljnpconaaGreatDoor
namespace Go.Proofs.YtapnplljnpconaaGreatDoor
open Go.RowKit
def Qgj (w:World):Prop:=w.cell? ⟨0,0,none⟩=some (.iface 157 (.agg #[.pointer (some ⟨5,35,none⟩)]))
theorem Qgj.keep {w w':World} (h:Qgj w) (hb:Below w.heap.size w w'):Qgj w':=by
 unfold Qgj at *
 rw [hb.cell (p:=⟨0,0,none⟩) (World.block_lt_of_cell? w _ h)];exact h
theorem Wc5 (w:World):Calls prog 15 #[.nilIface] w fun e w'=>e = .returned (.int .i64 0)∧w=w':=by
 go_enter func15,Tryz.ntmps15
 go_wp2
 go_ret
 exact ⟨rfl,rfl⟩
theorem Qzd (b o:Nat) (w:World) (hg:Qgj w):
  Calls prog 40 #[.iface 98 (.pointer (some ⟨b,o,none⟩)),.iface 100 (.pointer (some ⟨w.heap.size,0,none⟩))] (w.alloc (.cells #[.pointer none] 98)) fun e w'=>
   e = .returned (.bool true)∧w'.cell? ⟨w.heap.size,0,none⟩=some (.pointer (some ⟨b,o,none⟩))∧Below w.heap.size w w':=by
 refine (Wk0 ⟨b,o,none⟩ ⟨w.heap.size,0,none⟩ (.pointer none) _ ?_ ?_ ?_).mono ?_
 ·exact Qgj.keep hg (Qdx _ _)
 ·rw [Qik (heap_alloc_new w _)];rfl
 ·exact Qnx (heap_alloc_new w _) 0
 ·rintro e w' ⟨rfl,rfl⟩
  have hb:Below w.heap.size w (((((w.alloc (.cells #[.pointer none] 98)).alloc (.cells #[.pointer (some ⟨w.heap.size,0,none⟩)] 100)).alloc (.cells #[.pointer (some ⟨5,100,none⟩),.pointer (some ⟨(w.alloc (.cells #[.pointer none] 98)).heap.size,0,none⟩),.int .u64 150] 123)).alloc (.cells #[.pointer (some ⟨5,100,none⟩),.pointer (some ⟨(w.alloc (.cells #[.pointer none] 98)).heap.size,0,none⟩),.int .u64 150] 123)).alloc (.cells #[.pointer (some ⟨b,o,none⟩)] 98)):=by
   refine ((((Qdx _ _).trans ((Qdx _ _).mono ?_)).trans ((Qdx _ _).mono ?_)).trans ((Qdx _ _).mono ?_)).trans ((Qdx _ _).mono ?_) <;> simp <;> omega
  refine ⟨rfl,?_,hb.setCell (Xai _) _⟩
  generalize hW:(((((w.alloc (.cells #[.pointer none] 98)).alloc (.cells #[.pointer (some ⟨w.heap.size,0,none⟩)] 100)).alloc (.cells #[.pointer (some ⟨5,100,none⟩),.pointer (some ⟨(w.alloc (.cells #[.pointer none] 98)).heap.size,0,none⟩),.int .u64 150] 123)).alloc (.cells #[.pointer (some ⟨5,100,none⟩),.pointer (some ⟨(w.alloc (.cells #[.pointer none] 98)).heap.size,0,none⟩),.int .u64 150] 123)).alloc (.cells #[.pointer (some ⟨b,o,none⟩)] 98))=W
  have hblk:W.heap[w.heap.size]? = some (.cells #[.pointer none] 98 (0,0)):=by
   rw [←hW]
   refine Qki (Qki (Qki (Qki (heap_alloc_new _ _) (Qdx _ _)) (Qdx _ _)) (Qdx _ _)) (Qdx _ _)
  rw [Qik (Qnw hblk 0 _)];rfl
theorem Qpn {w w':World} {b i:Nat} {v:Value} (h:w.cell? ⟨b,i,none⟩=some v) (hb:Below w.heap.size w w'):w'.cell? ⟨b,i,none⟩=some v:=by
 rw [hb.cell (p:=⟨b,i,none⟩) (World.block_lt_of_cell? w _ h)];exact h
set_option maxHeartbeats 400000 in
theorem Wk1 (b o:Nat) (k:Int) (w:World) (hg:Qgj w) (hb:w.cell? ⟨b,o,none⟩=some (.int .i64 k)):
  Calls prog 15 #[.iface 98 (.pointer (some ⟨b,o,none⟩))] w fun e w'=>e = .returned (.int .i64 k)∧Below w.heap.size w w':=by
 have HA:=Lib.hid (Qzd b o w hg)
 have HB:=Lib.hid hb
 clear hg hb
 go_enter func15,Tryz.ntmps15
 go_wp2_with fail
 refine HA.out.mono ?_
 rintro e w1 ⟨rfl,hc,hb1⟩
 have c0:w1.cell? ⟨b,o,none⟩=some (.int .i64 k):=Qpn HB.out hb1
 go_wp2
 go_ret
 exact ⟨rfl,hb1⟩
set_option maxHeartbeats 400000 in
theorem at_O (b o:Nat) (a:Int) (w:World) (hg:Qgj w) (hb:w.cell? ⟨b,o+1,none⟩=some (.int .i64 a)):
  Calls prog 16 #[.iface 98 (.pointer (some ⟨b,o,none⟩))] w fun e w'=>e = .returned (.int .i64 a)∧Below w.heap.size w w':=by
 have HA:=Lib.hid (Qzd b o w hg)
 have HB:=Lib.hid hb
 clear hg hb
 go_enter func16,Tryz.ntmps16
 go_wp2_with fail
 refine HA.out.mono ?_
 rintro e w1 ⟨rfl,hc,hb1⟩
 have c0:w1.cell? ⟨b,o+1,none⟩=some (.int .i64 a):=Qpn HB.out hb1
 go_wp2
 go_ret
 exact ⟨rfl,hb1⟩
open Go.Ev
def errG (g:Nat→V):GV:=⟨g,[(0,0,.iface 157 (.agg #[.pointer (some ⟨5,35,none⟩)]))]⟩
def Qny:List V→Objs→Option (V×Objs)
 |[.nili],U=>some (.int .i64 0,U)
 |[.ifc t (.eptr (.int .i64 k::_) 0)],U=>if t=98 then some (.int .i64 k,U) else none
 |_,_=>none
def atP:List V→Objs→Option (V×Objs)
 |[.ifc t (.eptr (_ :: .int .i64 a::_) 0)],U=>if t=98 then some (.int .i64 a,U) else none
 |_,_=>none
theorem Qpo {g:Nat→V} {M:Mem} {Z:Plc} {X:Nat→Prop} {D:Ev.Own} {w:World} {us:List Value} {J:List V} {U:Objs} (h:St M Z X D w us J U) (hG:GOK (errG g) M Z):Qgj w:=
 h.wd.mem _ _ _ (hG.ex _ (Xaw ..))
theorem Qpp {M:Mem} {Z:Plc} {X:Nat→Prop} {D:Ev.Own} {w:World} {us:List Value} {J:List V} {U:Objs} (h:St M Z X D w us J U) {v:Value} {t:TypeId} {cs:List V} (hr:Rep M Z v (.ifc t (.eptr cs 0))):
  ∃b o,v = .iface t (.pointer (some ⟨b,o,none⟩))∧∀(i:Nat) k n,cs[i]? = some (.int k n)→w.cell? ⟨b,o+i,none⟩=some (.int k n):=by
 cases hr with
 |ifc _ u _ hu=>
  obtain ⟨b,base,us',rfl,hrs,hm⟩:=hu.inv_eptr
  refine ⟨b,base,rfl,fun i k n hi => ?_⟩
  obtain ⟨u,hu1,hu2⟩:=hrs.get hi
  rw [hu2.inv_int] at hu1
  exact h.wd.mem _ _ _ (hm i _ hu1)
theorem Qrp {M:Mem} {Z:Plc} {vs:Array Value} {x:V} (h:Reps M Z vs.toList [x]):∃v,vs = #[v]∧Rep M Z v x:=by
 have hl:=h.1
 obtain ⟨v,hv⟩:∃v,vs.toList=[v]:=Xcv.1 (by simpa using hl)
 refine ⟨v,by apply Xc1;simpa using hv,?_⟩
 rw [hv] at h
 exact h.head
theorem Qrq (g:Nat→V):Sound prog (errG g) 15 Qny:=by
 refine Sound.of_below fun args U r U' he => ?_
 have hrun:∀vs w,(callFunc 15 vs).run prog w = .ok (.enter 15 vs) w:=fun vs w=>Qdz func15 rfl (by kernel_rfl) vs
 unfold Qny at he
 split at he
 ·cases he
  refine ⟨rfl,rfl,fun M Z X D w vs h hG=>⟨hrun _ _,_,.int _ _,?_⟩⟩
  obtain ⟨v,rfl,hv⟩:=Qrp h.rep
  cases hv
  exact (Wc5 w).mono fun e w' ⟨he,hw⟩=>⟨he,by subst hw;exact Below.refl _ _⟩
 ·split at he
  ·rename_i t k cs _ ht
   cases he
   subst ht
   refine ⟨rfl,rfl,fun M Z X D w vs h hG=>⟨hrun _ _,_,.int _ _,?_⟩⟩
   obtain ⟨v,rfl,hv⟩:=Qrp h.rep
   obtain ⟨b,o,rfl,hc⟩:=Qpp h hv
   exact Wk1 b o _ w (Qpo h hG) (hc 0 _ _ rfl)
  ·cases he
 ·cases he
theorem Qze (g:Nat→V):Sound prog (errG g) 16 atP:=by
 refine Sound.of_below fun args U r U' he => ?_
 have hrun:∀vs w,(callFunc 16 vs).run prog w = .ok (.enter 16 vs) w:=fun vs w=>Qdz func16 rfl (by kernel_rfl) vs
 unfold atP at he
 split at he
 ·split at he
  ·rename_i t c a cs _ ht
   cases he
   subst ht
   refine ⟨rfl,rfl,fun M Z X D w vs h hG=>⟨hrun _ _,_,.int _ _,?_⟩⟩
   obtain ⟨v,rfl,hv⟩:=Qrp h.rep
   obtain ⟨b,o,rfl,hc⟩:=Qpp h hv
   exact at_O b o _ w (Qpo h hG) (hc 1 _ _ rfl)
  ·cases he
 ·cases he
end Go.Proofs.YtapnplljnpconaaGreatDoor
namespace Go.Proofs.YtapnplljnpconaaGreatDoor
open Go.Ev
theorem Wk2 {h:List V→Objs→Option (V×Objs)} {g:List V→Option V} (hg:∀xs U,h xs U=(g xs).map fun v=>(v,U)) (hs:∀b k xs,g (xs.map (V.sh b k))=g xs) (hc:∀xs v,g xs=some v→V.rb 0 v=true):
  ∀(b:Nat) (B:Objs) (xs:List V) (U:Objs),b≤U.length→FrR b B (h (xs.map (V.sh b B.length)) (ins b B U)) (h xs U):=by
 intro b B xs U hb
 rw [hg,hg,hs]
 cases he:g xs with
 |none=>exact FrR.none
 |some v=>
  have:=FrR.some (B:=B) (v:=v) hb
  rw [Qb1 (hc _ _ he)] at this
  exact this
def Qzf:List V→Option V
 |[.nili]=>some (.int .i64 0)
 |[.ifc t (.eptr (.int .i64 k::_) 0)]=>if t=98 then some (.int .i64 k) else none
 |_=>none
theorem Wc6:∀(b:Nat) (B:Objs) (xs:List V) (U:Objs),b≤U.length→FrR b B (Qny (xs.map (V.sh b B.length)) (ins b B U)) (Qny xs U):=by
 refine Wk2 (g:=Qzf) (fun xs U => ?_) (fun b k xs => ?_) (fun xs v h => ?_)
 ·match xs with
  |[]=>rfl
  |[x]=>
   cases x with
   |ifc t y=>
    cases y with
    |eptr cs o=>
     cases cs with
     |nil=>rfl
     |cons c cs=>
      cases c with
      |int j n=>cases j <;> cases o <;> first|rfl|(simp only [Qny,Qzf];split <;> rfl)
      |_=>rfl
    |_=>rfl
   |_=>rfl
  |_::_::_=>simp [Qny,Qzf]
 ·match xs with
  |[]=>rfl
  |[x]=>
   cases x with
   |ifc t y=>
    cases y with
    |eptr cs o=>
     cases cs with
     |nil=>rfl
     |cons c cs=>
      cases c with
      |int j n=>cases j <;> cases o <;> rfl
      |_=>rfl
    |_=>rfl
   |_=>rfl
  |_::_::_=>simp [Qzf]
 ·unfold Qzf at h
  split at h
  ·cases h;rfl
  ·split at h
   ·cases h;rfl
   ·cases h
  ·cases h
def atG:List V→Option V
 |[.ifc t (.eptr (_ :: .int .i64 a::_) 0)]=>if t=98 then some (.int .i64 a) else none
 |_=>none
theorem Wk3:∀(b:Nat) (B:Objs) (xs:List V) (U:Objs),b≤U.length→FrR b B (atP (xs.map (V.sh b B.length)) (ins b B U)) (atP xs U):=by
 refine Wk2 (g:=atG) (fun xs U => ?_) (fun b k xs => ?_) (fun xs v h => ?_)
 ·match xs with
  |[]=>rfl
  |[x]=>
   cases x with
   |ifc t y=>
    cases y with
    |eptr cs o=>
     match cs with
     |[]=>rfl
     |[_]=>rfl
     |c::d::cs=>
      cases d with
      |int j n=>cases j <;> cases o <;> first|rfl|(simp only [atP,atG];split <;> rfl)
      |_=>rfl
    |_=>rfl
   |_=>rfl
  |_::_::_=>simp [atP,atG]
 ·match xs with
  |[]=>rfl
  |[x]=>
   cases x with
   |ifc t y=>
    cases y with
    |eptr cs o=>
     match cs with
     |[]=>rfl
     |[_]=>rfl
     |c::d::cs=>
      cases d with
      |int j n=>cases j <;> cases o <;> rfl
      |_=>rfl
    |_=>rfl
   |_=>rfl
  |_::_::_=>simp [atG]
 ·unfold atG at h
  split at h
  ·split at h
   ·cases h;rfl
   ·cases h
  ·cases h
def Qrr (f:FuncId):Option (List V→Objs→Option (V×Objs)):=
 if f=53 then some Qrk else if f=15 then some Qny else if f=16 then some atP else none
def Qci:List (List UInt8):=[[104,111,118,101,114],[97,99,116,105,118,101],[102,111,99,117,115],[102,111,99,117,115,45,118,105,115,105,98,108,101],[118,105,115,105,116,101,100],[108,105,110,107],[99,104,101,99,107,101,100],[100,105,115,97,98,108,101,100],[101,110,97,98,108,101,100],[116,97,114,103,101,116]]
def Qbs:List (List UInt8):=[[98,101,102,111,114,101],[97,102,116,101,114],[102,105,114,115,116,45,108,105,110,101],[102,105,114,115,116,45,108,101,116,116,101,114],[109,97,114,107,101,114],[115,101,108,101,99,116,105,111,110],[112,108,97,99,101,104,111,108,100,101,114],[98,97,99,107,100,114,111,112]]
def Qfz:List Nat:=List.replicate 128 240++List.replicate 66 241++List.replicate 30 2++[19]++List.replicate 12 3++[35]++List.replicate 2 3++[52]++List.replicate 3 4++[68]++List.replicate 11 241
def accN:List (Nat×Nat):=[(128,191),(160,191),(128,159),(144,191),(128,143)]++List.replicate 11 (0,0)
def Qrs:List V:=Qci.map V.str
def Qlb:List V:=Qbs.map V.str
def Qil:List V:=Qfz.map fun (n:Nat)=>V.int .u8 (n:Int)
def accV:List V:=accN.flatMap fun p=>[V.int .u8 (p.1:Int),V.int .u8 (p.2:Int)]
def gTab (n:Nat):V:=if n=3 then .eptr Qrs 0 else if n=4 then .eptr Qlb 0 else if n=1 then .eptr Qil 0 else if n=2 then .eptr accV 0 else .any
def cx:Ctx:=⟨errG gTab,Qxy,Qrr⟩
theorem Whf:∀f h,cx.prim f=some h→Sound prog cx.G f h:=by
 intro f h hh
 unfold cx Qrr at hh
 simp only at hh
 split at hh
 ·rename_i e;subst e;cases hh;exact Qrm _
 ·split at hh
  ·rename_i e;subst e;cases hh;exact Qrq _
  ·split at hh
   ·rename_i e;subst e;cases hh;exact Qze _
   ·cases hh
theorem Wk4 {l:List (Nat×Ev.Fn)} (h:l.all (fun p=>!p.2.esc)=true):∀f F,Qo8 l f=some F→F.esc=false:=by
 induction l with
 |nil=>intro f F hF;cases hF
 |cons p r ih=>
  intro f F hF
  simp only [Xcg,Xac,Xcl] at h
  unfold Qo8 at hF
  split at hF
  ·cases hF;exact h.1
  ·exact ih h.2 f F hF
theorem Wk5:∀f F,cx.code f=some F→F.esc=false:=Wk4 (l:=Qni) (by kernel_rfl)
theorem Wny {l:List (Nat×Ev.Fn)} (h:l.all (fun p=>p.2.body.cl && !p.2.esc)=true):∀f F,Qo8 l f=some F→F.body.cl=true∧F.esc=false:=by
 induction l with
 |nil=>intro f F hF;cases hF
 |cons p r ih=>
  intro f F hF
  simp only [Xcg,Xac,Xcl] at h
  unfold Qo8 at hF
  split at hF
  ·cases hF;exact h.1
  ·exact ih (by simpa using h.2) f F hF
theorem Qbb:CtxCl cx:=by
 refine ⟨fun n => ?_,Wny (l:=Qni) (by kernel_rfl),?_⟩
 ·show V.rb 0 (gTab n)=true
  unfold gTab
  split
  ·kernel_rfl
  ·split
   ·kernel_rfl
   ·split
    ·kernel_rfl
    ·split
     ·kernel_rfl
     ·rfl
 ·intro f h hh
  unfold cx Qrr at hh
  simp only at hh
  split at hh
  ·cases hh;exact Wc2
  ·split at hh
   ·cases hh;exact Wc6
   ·split at hh
    ·cases hh;exact Wk3
    ·cases hh
theorem X0e {f:FuncId} {F:Ev.Fn} {xs:List V} {U:Objs} {r:Ro} (h:fnK (Mi cx) F xs U=r) (h1:cx.prim f=none:=by kernel_rfl) (h2:cx.code f=some F:=by kernel_rfl):E cx f xs U=r:=(E_fn h1 h2 _ _).trans h
theorem X0u (l:Lp) (n:Nat) (Bww:Rk→Rk) {L:Rk} {vs:List V} {U:Objs} (h1:l.F (Mi cx) n=Bww:=by kernel_rfl) (h2:L=fixL Bww:=by kernel_rfl):L vs U=Bww L vs U:=Qas cx l n h1 h2 vs U
def X0b (n k:Nat):List Bool:=(List.range n).map k.testBit
noncomputable def X0s (n:Nat) (ls:List (Nat×Rk)) (bs:List Bool) (F:Ev.Fn) (n0:Nat):=seek (Mi cx) n ls bs F.body (topK F n0)
section
variable (n0 n1:Nat) (r1:Rk) (n2:Nat) (r2:Rk) (n3:Nat) (r3:Rk) (n4:Nat) (r4:Rk) (n5:Nat) (a0 a1 a2 a3 a4 a5 a6 a7 a8 a9 a10 a11:V) (z0 z1 z2 z3 z4 z5 z6 z7 z8 z9 z10 z11 z12 z13 z14 z15 z16 z17 z18 z19 z20 z21 z22 z23 z24 z25 z26 z27 z28 z29:V) (U:Objs)
theorem e_Z21:E cx 5 [a0,a1] U=s_Z21 (Mi cx) a0 a1 U:=X0e (k_Z21 ..)
theorem e_Z23:E cx 7 [a0,a1,a2] U=s_Z23 (Mi cx) a0 a1 a2 U:=X0e (k_Z23 ..)
theorem u_Z23_0:l_Z23_0 (Mi cx) n0 n1 [z2,z16,z17,z18] U=b_Z23_0 (Mi cx) n0 n1 (l_Z23_0 (Mi cx) n0 n1) z2 z16 z17 z18 U:=X0u (X0s 26 [] (X0b 4 11) c_Z23 n0) n1 (X0Le (b_Z23_0 (Mi cx) n0 n1))
theorem e_Z18:E cx 8 [a0,a1] U=s_Z18 (Mi cx) a0 a1 U:=X0e (k_Z18 ..)
theorem u_Z18_0:l_Z18_0 (Mi cx) n0 n1 [z3,z4,z7,z20,z21,z22] U=b_Z18_0 (Mi cx) n0 n1 (l_Z18_0 (Mi cx) n0 n1) z3 z4 z7 z20 z21 z22 U:=X0u (X0s 55 [] (X0b 5 23) c_Z18 n0) n1 (X0Lg (b_Z18_0 (Mi cx) n0 n1))
theorem e_Z37:E cx 11 [a0,a1] U=s_Z37 (Mi cx) a0 a1 U:=X0e (k_Z37 ..)
theorem e_Z27:E cx 13 [a0,a1] U=s_Z27 (Mi cx) a0 a1 U:=X0e (k_Z27 ..)
theorem u_Z27_0:l_Z27_0 (Mi cx) n0 n1 [z0,z1,z5] U=b_Z27_0 (Mi cx) n0 n1 (l_Z27_0 (Mi cx) n0 n1) z0 z1 z5 U:=X0u (X0s 26 [] (X0b 4 11) c_Z27 n0) n1 (X0Ld (b_Z27_0 (Mi cx) n0 n1))
theorem e_Z3c:E cx 14 [a0] U=s_Z3c (Mi cx) a0 U:=X0e (k_Z3c ..)
theorem u_Z3c_0:l_Z3c_0 (Mi cx) n0 n1 [z1,z3] U=b_Z3c_0 (Mi cx) n0 n1 (l_Z3c_0 (Mi cx) n0 n1) z1 z3 U:=X0u (X0s 52 [] (X0b 4 11) c_Z3c n0) n1 (X0Lc (b_Z3c_0 (Mi cx) n0 n1))
theorem e_Z3v:E cx 17 [a0,a1] U=s_Z3v (Mi cx) a0 a1 U:=X0e (k_Z3v ..)
theorem u_Z3v_0:l_Z3v_0 (Mi cx) n0 n1 [z0,z3,z4,z6,z7] U=b_Z3v_0 (Mi cx) n0 n1 (l_Z3v_0 (Mi cx) n0 n1) z0 z3 z4 z6 z7 U:=X0u (X0s 49 [] (X0b 4 11) c_Z3v n0) n1 (X0Lf (b_Z3v_0 (Mi cx) n0 n1))
theorem e_Z3x:E cx 18 [a0,a1] U=s_Z3x (Mi cx) a0 a1 U:=X0e (k_Z3x ..)
theorem u_Z3x_3:l_Z3x_3 (Mi cx) n0 n1 [z2,z3,z8] U=b_Z3x_3 (Mi cx) n0 n1 (l_Z3x_3 (Mi cx) n0 n1) z2 z3 z8 U:=X0u (X0s 142 [] (X0b 7 95) c_Z3x n0) n1 (X0Ld (b_Z3x_3 (Mi cx) n0 n1))
theorem u_Z3x_2:l_Z3x_2 (Mi cx) n0 n1 [z2,z3,z7] U=b_Z3x_2 (Mi cx) n0 n1 (l_Z3x_2 (Mi cx) n0 n1) z2 z3 z7 U:=X0u (X0s 142 [] (X0b 6 47) c_Z3x n0) n1 (X0Ld (b_Z3x_2 (Mi cx) n0 n1))
theorem u_Z3x_1:l_Z3x_1 (Mi cx) n0 n1 [z2,z3,z6] U=b_Z3x_1 (Mi cx) n0 n1 (l_Z3x_1 (Mi cx) n0 n1) z2 z3 z6 U:=X0u (X0s 142 [] (X0b 5 23) c_Z3x n0) n1 (X0Ld (b_Z3x_1 (Mi cx) n0 n1))
theorem u_Z3x_0:l_Z3x_0 (Mi cx) n0 n1 [z2,z3,z5] U=b_Z3x_0 (Mi cx) n0 n1 (l_Z3x_0 (Mi cx) n0 n1) z2 z3 z5 U:=X0u (X0s 142 [] (X0b 4 11) c_Z3x n0) n1 (X0Ld (b_Z3x_0 (Mi cx) n0 n1))
theorem e_Z1a:E cx 19 [a0] U=s_Z1a (Mi cx) a0 U:=X0e (k_Z1a ..)
theorem u_Z1a_0:l_Z1a_0 (Mi cx) n0 n1 [z2,z3,z9,z10,z11] U=b_Z1a_0 (Mi cx) n0 n1 (l_Z1a_0 (Mi cx) n0 n1) z2 z3 z9 z10 z11 U:=X0u (X0s 33 [] (X0b 3 5) c_Z1a n0) n1 (X0Lf (b_Z1a_0 (Mi cx) n0 n1))
theorem e_Z3y:E cx 20 [a0] U=s_Z3y (Mi cx) a0 U:=X0e (k_Z3y ..)
theorem u_Z3y_0:l_Z3y_0 (Mi cx) n0 n1 [z1,z4,z5,z6] U=b_Z3y_0 (Mi cx) n0 n1 (l_Z3y_0 (Mi cx) n0 n1) z1 z4 z5 z6 U:=X0u (X0s 39 [] (X0b 4 11) c_Z3y n0) n1 (X0Le (b_Z3y_0 (Mi cx) n0 n1))
theorem e_Z17:E cx 21 [a0] U=s_Z17 (Mi cx) a0 U:=X0e (k_Z17 ..)
theorem u_Z17_1:l_Z17_1 (Mi cx) n0 n1 r1 n2 [z2,z4,z7,z8,z9,z15,z16] U=b_Z17_1 (Mi cx) n0 n1 r1 n2 (l_Z17_1 (Mi cx) n0 n1 r1 n2) z2 z4 z7 z8 z9 z15 z16 U:=X0u (X0s 41 [(n1,r1)] (X0b 8 221) c_Z17 n0) n2 (X0Lh (b_Z17_1 (Mi cx) n0 n1 r1 n2))
theorem u_Z17_0:l_Z17_0 (Mi cx) n0 n1 [z2,z7,z8,z9] U=b_Z17_0 (Mi cx) n0 n1 (l_Z17_0 (Mi cx) n0 n1) z2 z7 z8 z9 U:=X0u (X0s 41 [] (X0b 3 5) c_Z17 n0) n1 (X0Le (b_Z17_0 (Mi cx) n0 n1))
theorem e_Z3u:E cx 22 [a0] U=s_Z3u (Mi cx) a0 U:=X0e (k_Z3u ..)
theorem u_Z3u_1:l_Z3u_1 (Mi cx) n0 n1 r1 n2 [z1,z3,z4,z5] U=b_Z3u_1 (Mi cx) n0 n1 r1 n2 (l_Z3u_1 (Mi cx) n0 n1 r1 n2) z1 z3 z4 z5 U:=X0u (X0s 50 [(n1,r1)] (X0b 8 155) c_Z3u n0) n2 (X0Le (b_Z3u_1 (Mi cx) n0 n1 r1 n2))
theorem u_Z3u_0:l_Z3u_0 (Mi cx) n0 n1 [z1,z3,z4] U=b_Z3u_0 (Mi cx) n0 n1 (l_Z3u_0 (Mi cx) n0 n1) z1 z3 z4 U:=X0u (X0s 50 [] (X0b 4 11) c_Z3u n0) n1 (X0Ld (b_Z3u_0 (Mi cx) n0 n1))
theorem e_Z19:E cx 24 [a0] U=s_Z19 (Mi cx) a0 U:=X0e (k_Z19 ..)
theorem u_Z19_1:l_Z19_1 (Mi cx) n0 n1 r1 n2 [z1,z2,z9,z10,z11,z15,z16,z17] U=b_Z19_1 (Mi cx) n0 n1 r1 n2 (l_Z19_1 (Mi cx) n0 n1 r1 n2) z1 z2 z9 z10 z11 z15 z16 z17 U:=X0u (X0s 47 [(n1,r1)] (X0b 8 221) c_Z19 n0) n2 (X0Li (b_Z19_1 (Mi cx) n0 n1 r1 n2))
theorem u_Z19_0:l_Z19_0 (Mi cx) n0 n1 [z1,z2,z9,z10,z11] U=b_Z19_0 (Mi cx) n0 n1 (l_Z19_0 (Mi cx) n0 n1) z1 z2 z9 z10 z11 U:=X0u (X0s 47 [] (X0b 3 5) c_Z19 n0) n1 (X0Lf (b_Z19_0 (Mi cx) n0 n1))
theorem e_Z3w:E cx 25 [a0] U=s_Z3w (Mi cx) a0 U:=X0e (k_Z3w ..)
theorem u_Z3w_1:l_Z3w_1 (Mi cx) n0 n1 r1 n2 [z1,z3,z4,z5] U=b_Z3w_1 (Mi cx) n0 n1 r1 n2 (l_Z3w_1 (Mi cx) n0 n1 r1 n2) z1 z3 z4 z5 U:=X0u (X0s 47 [(n1,r1)] (X0b 7 91) c_Z3w n0) n2 (X0Le (b_Z3w_1 (Mi cx) n0 n1 r1 n2))
theorem u_Z3w_0:l_Z3w_0 (Mi cx) n0 n1 [z1,z3,z4] U=b_Z3w_0 (Mi cx) n0 n1 (l_Z3w_0 (Mi cx) n0 n1) z1 z3 z4 U:=X0u (X0s 47 [] (X0b 4 11) c_Z3w n0) n1 (X0Ld (b_Z3w_0 (Mi cx) n0 n1))
theorem e_Z28:E cx 23 [a0,a1] U=s_Z28 (Mi cx) a0 a1 U:=X0e (k_Z28 ..)
theorem u_Z28_0:l_Z28_0 (Mi cx) n0 n1 [z0,z1,z5] U=b_Z28_0 (Mi cx) n0 n1 (l_Z28_0 (Mi cx) n0 n1) z0 z1 z5 U:=X0u (X0s 26 [] (X0b 4 11) c_Z28 n0) n1 (X0Ld (b_Z28_0 (Mi cx) n0 n1))
theorem e_Z20:E cx 27 [a0] U=s_Z20 (Mi cx) a0 U:=X0e (k_Z20 ..)
theorem u_Z20_0:l_Z20_0 (Mi cx) n0 n1 [z27,z28,z29] U=b_Z20_0 (Mi cx) n0 n1 (l_Z20_0 (Mi cx) n0 n1) z27 z28 z29 U:=X0u (X0s 37 [] (X0b 4 11) c_Z20 n0) n1 (X0Ld (b_Z20_0 (Mi cx) n0 n1))
theorem e_Z3a:E cx 28 [a0,a1] U=s_Z3a (Mi cx) a0 a1 U:=X0e (k_Z3a ..)
theorem e_Z1i:E cx 29 [a0] U=s_Z1i (Mi cx) a0 U:=X0e (k_Z1i ..)
theorem u_Z1i_0:l_Z1i_0 (Mi cx) n0 n1 [z1,z3,z19,z20,z21] U=b_Z1i_0 (Mi cx) n0 n1 (l_Z1i_0 (Mi cx) n0 n1) z1 z3 z19 z20 z21 U:=X0u (X0s 52 [] (X0b 4 11) c_Z1i n0) n1 (X0Lf (b_Z1i_0 (Mi cx) n0 n1))
theorem e_Z1h:E cx 30 [a0,a1] U=s_Z1h (Mi cx) a0 a1 U:=X0e (k_Z1h ..)
theorem e_Z15:E cx 31 [a0,a1,a2] U=s_Z15 (Mi cx) a0 a1 a2 U:=X0e (k_Z15 ..)
theorem e_Z6:E cx 32 [a0,a1] U=s_Z6 (Mi cx) a0 a1 U:=X0e (k_Z6 ..)
theorem u_Z6_0:l_Z6_0 (Mi cx) n0 n1 [z0,z4,z7,z8,z9] U=b_Z6_0 (Mi cx) n0 n1 (l_Z6_0 (Mi cx) n0 n1) z0 z4 z7 z8 z9 U:=X0u (X0s 21 [] (X0b 3 5) c_Z6 n0) n1 (X0Lf (b_Z6_0 (Mi cx) n0 n1))
theorem e_Z3h:E cx 34 [a0] U=s_Z3h (Mi cx) a0 U:=X0e (k_Z3h ..)
theorem e_Z38:E cx 35 [a0] U=s_Z38 (Mi cx) a0 U:=X0e (k_Z38 ..)
theorem u_Z38_2:l_Z38_2 (Mi cx) n0 n1 r1 n2 r2 n3 [z0,z3,z4,z5,z6] U=b_Z38_2 (Mi cx) n0 n1 r1 n2 r2 n3 (l_Z38_2 (Mi cx) n0 n1 r1 n2 r2 n3) z0 z3 z4 z5 z6 U:=X0u (X0s 60 [(n1,r1),(n2,r2)] (X0b 10 731) c_Z38 n0) n3 (X0Lf (b_Z38_2 (Mi cx) n0 n1 r1 n2 r2 n3))
theorem u_Z38_1:l_Z38_1 (Mi cx) n0 n1 r1 n2 [z0,z3,z4,z5] U=b_Z38_1 (Mi cx) n0 n1 r1 n2 (l_Z38_1 (Mi cx) n0 n1 r1 n2) z0 z3 z4 z5 U:=X0u (X0s 60 [(n1,r1)] (X0b 7 91) c_Z38 n0) n2 (X0Le (b_Z38_1 (Mi cx) n0 n1 r1 n2))
theorem u_Z38_0:l_Z38_0 (Mi cx) n0 n1 [z0,z3,z4] U=b_Z38_0 (Mi cx) n0 n1 (l_Z38_0 (Mi cx) n0 n1) z0 z3 z4 U:=X0u (X0s 60 [] (X0b 4 11) c_Z38 n0) n1 (X0Ld (b_Z38_0 (Mi cx) n0 n1))
theorem e_Z3e:E cx 36 [a0,a1,a2] U=s_Z3e (Mi cx) a0 a1 a2 U:=X0e (k_Z3e ..)
theorem u_Z3e_2:l_Z3e_2 (Mi cx) n0 n1 r1 n2 r2 n3 [z0,z2,z4,z7,z8,z9,z10] U=b_Z3e_2 (Mi cx) n0 n1 r1 n2 r2 n3 (l_Z3e_2 (Mi cx) n0 n1 r1 n2 r2 n3) z0 z2 z4 z7 z8 z9 z10 U:=X0u (X0s 135 [(n1,r1),(n2,r2)] (X0b 12 3501) c_Z3e n0) n3 (X0Lh (b_Z3e_2 (Mi cx) n0 n1 r1 n2 r2 n3))
theorem u_Z3e_1:l_Z3e_1 (Mi cx) n0 n1 r1 n2 [z0,z2,z4,z7,z8,z9] U=b_Z3e_1 (Mi cx) n0 n1 r1 n2 (l_Z3e_1 (Mi cx) n0 n1 r1 n2) z0 z2 z4 z7 z8 z9 U:=X0u (X0s 135 [(n1,r1)] (X0b 8 173) c_Z3e n0) n2 (X0Lg (b_Z3e_1 (Mi cx) n0 n1 r1 n2))
theorem u_Z3e_0:l_Z3e_0 (Mi cx) n0 n1 [z0,z2,z4,z7] U=b_Z3e_0 (Mi cx) n0 n1 (l_Z3e_0 (Mi cx) n0 n1) z0 z2 z4 z7 U:=X0u (X0s 135 [] (X0b 3 5) c_Z3e n0) n1 (X0Le (b_Z3e_0 (Mi cx) n0 n1))
theorem e_Z3m:E cx 37 [a0] U=s_Z3m (Mi cx) a0 U:=X0e (k_Z3m ..)
theorem e_Z3k:E cx 38 [a0] U=s_Z3k (Mi cx) a0 U:=X0e (k_Z3k ..)
theorem e_Z3b:E cx 39 [a0,a1] U=s_Z3b (Mi cx) a0 a1 U:=X0e (k_Z3b ..)
theorem u_Z3b_0:l_Z3b_0 (Mi cx) n0 n1 [z0,z1,z5] U=b_Z3b_0 (Mi cx) n0 n1 (l_Z3b_0 (Mi cx) n0 n1) z0 z1 z5 U:=X0u (X0s 18 [] (X0b 3 5) c_Z3b n0) n1 (X0Ld (b_Z3b_0 (Mi cx) n0 n1))
theorem e_Zq:E cx 41 [a0,a1] U=s_Zq (Mi cx) a0 a1 U:=X0e (k_Zq ..)
theorem u_Zq_0:l_Zq_0 (Mi cx) n0 n1 [z0,z1,z5,z6] U=b_Zq_0 (Mi cx) n0 n1 (l_Zq_0 (Mi cx) n0 n1) z0 z1 z5 z6 U:=X0u (X0s 24 [] (X0b 4 11) c_Zq n0) n1 (X0Le (b_Zq_0 (Mi cx) n0 n1))
theorem e_Z41:E cx 42 [a0,a1] U=s_Z41 (Mi cx) a0 a1 U:=X0e (k_Z41 ..)
theorem u_Z41_0:l_Z41_0 (Mi cx) n0 n1 [z2,z3,z5] U=b_Z41_0 (Mi cx) n0 n1 (l_Z41_0 (Mi cx) n0 n1) z2 z3 z5 U:=X0u (X0s 63 [] (X0b 4 11) c_Z41 n0) n1 (X0Ld (b_Z41_0 (Mi cx) n0 n1))
theorem e_Z3z:E cx 43 [a0,a1] U=s_Z3z (Mi cx) a0 a1 U:=X0e (k_Z3z ..)
theorem u_Z3z_0:l_Z3z_0 (Mi cx) n0 n1 [z0,z1,z5] U=b_Z3z_0 (Mi cx) n0 n1 (l_Z3z_0 (Mi cx) n0 n1) z0 z1 z5 U:=X0u (X0s 26 [] (X0b 4 11) c_Z3z n0) n1 (X0Ld (b_Z3z_0 (Mi cx) n0 n1))
theorem e_Z1d:E cx 44 [a0] U=s_Z1d (Mi cx) a0 U:=X0e (k_Z1d ..)
theorem u_Z1d_0:l_Z1d_0 (Mi cx) n0 n1 [z2,z3,z7,z8,z9] U=b_Z1d_0 (Mi cx) n0 n1 (l_Z1d_0 (Mi cx) n0 n1) z2 z3 z7 z8 z9 U:=X0u (X0s 39 [] (X0b 4 11) c_Z1d n0) n1 (X0Lf (b_Z1d_0 (Mi cx) n0 n1))
theorem e_Z35:E cx 45 [a0] U=s_Z35 (Mi cx) a0 U:=X0e (k_Z35 ..)
theorem u_Z35_0:l_Z35_0 (Mi cx) n0 n1 [z0,z4,z5,z6] U=b_Z35_0 (Mi cx) n0 n1 (l_Z35_0 (Mi cx) n0 n1) z0 z4 z5 z6 U:=X0u (X0s 54 [] (X0b 4 11) c_Z35 n0) n1 (X0Le (b_Z35_0 (Mi cx) n0 n1))
theorem e_Z1v:E cx 46 [a0,a1] U=s_Z1v (Mi cx) a0 a1 U:=X0e (k_Z1v ..)
theorem e_Z3j:E cx 49 [a0,a1,a2] U=s_Z3j (Mi cx) a0 a1 a2 U:=X0e (k_Z3j ..)
theorem u_Z3j_2:l_Z3j_2 (Mi cx) n0 n1 r1 n2 r2 n3 [z0,z1,z2,z7,z8,z9,z10,z11] U=b_Z3j_2 (Mi cx) n0 n1 r1 n2 r2 n3 (l_Z3j_2 (Mi cx) n0 n1 r1 n2 r2 n3) z0 z1 z2 z7 z8 z9 z10 z11 U:=X0u (X0s 114 [(n1,r1),(n2,r2)] (X0b 12 3547) c_Z3j n0) n3 (X0Li (b_Z3j_2 (Mi cx) n0 n1 r1 n2 r2 n3))
theorem u_Z3j_1:l_Z3j_1 (Mi cx) n0 n1 r1 n2 [z0,z1,z2,z7,z8,z9] U=b_Z3j_1 (Mi cx) n0 n1 r1 n2 (l_Z3j_1 (Mi cx) n0 n1 r1 n2) z0 z1 z2 z7 z8 z9 U:=X0u (X0s 114 [(n1,r1)] (X0b 8 219) c_Z3j n0) n2 (X0Lg (b_Z3j_1 (Mi cx) n0 n1 r1 n2))
theorem u_Z3j_0:l_Z3j_0 (Mi cx) n0 n1 [z0,z1,z2,z7,z8] U=b_Z3j_0 (Mi cx) n0 n1 (l_Z3j_0 (Mi cx) n0 n1) z0 z1 z2 z7 z8 U:=X0u (X0s 114 [] (X0b 4 11) c_Z3j n0) n1 (X0Lf (b_Z3j_0 (Mi cx) n0 n1))
theorem e_Z1u:E cx 50 [a0] U=s_Z1u (Mi cx) a0 U:=X0e (k_Z1u ..)
theorem e_Z1p:E cx 51 [a0] U=s_Z1p (Mi cx) a0 U:=X0e (k_Z1p ..)
theorem e_Z14:E cx 52 [a0,a1] U=s_Z14 (Mi cx) a0 a1 U:=X0e (k_Z14 ..)
theorem e_Zx:E cx 54 [a0,a1,a2] U=s_Zx (Mi cx) a0 a1 a2 U:=X0e (k_Zx ..)
theorem u_Zx_1:l_Zx_1 (Mi cx) n0 n1 r1 n2 [z1,z2,z3,z8,z12,z13,z14,z23,z24,z25] U=b_Zx_1 (Mi cx) n0 n1 r1 n2 (l_Zx_1 (Mi cx) n0 n1 r1 n2) z1 z2 z3 z8 z12 z13 z14 z23 z24 z25 U:=X0u (X0s 67 [(n1,r1)] (X0b 9 477) c_Zx n0) n2 (X0Lk (b_Zx_1 (Mi cx) n0 n1 r1 n2))
theorem u_Zx_0:l_Zx_0 (Mi cx) n0 n1 [z1,z2,z3,z12,z13,z14] U=b_Zx_0 (Mi cx) n0 n1 (l_Zx_0 (Mi cx) n0 n1) z1 z2 z3 z12 z13 z14 U:=X0u (X0s 67 [] (X0b 3 5) c_Zx n0) n1 (X0Lg (b_Zx_0 (Mi cx) n0 n1))
theorem e_Z5:E cx 55 [a0,a1] U=s_Z5 (Mi cx) a0 a1 U:=X0e (k_Z5 ..)
theorem u_Z5_1:l_Z5_1 (Mi cx) n0 n1 r1 n2 [z0,z5,z8,z15,z16,z17,z25,z26,z27] U=b_Z5_1 (Mi cx) n0 n1 r1 n2 (l_Z5_1 (Mi cx) n0 n1 r1 n2) z0 z5 z8 z15 z16 z17 z25 z26 z27 U:=X0u (X0s 84 [(n1,r1)] (X0b 11 1467) c_Z5 n0) n2 (X0Lj (b_Z5_1 (Mi cx) n0 n1 r1 n2))
theorem u_Z5_0:l_Z5_0 (Mi cx) n0 n1 [z0,z5,z15,z16,z17] U=b_Z5_0 (Mi cx) n0 n1 (l_Z5_0 (Mi cx) n0 n1) z0 z5 z15 z16 z17 U:=X0u (X0s 84 [] (X0b 4 11) c_Z5 n0) n1 (X0Lf (b_Z5_0 (Mi cx) n0 n1))
theorem e_Z2b:E cx 56 [a0] U=s_Z2b (Mi cx) a0 U:=X0e (k_Z2b ..)
theorem u_Z2b_0:l_Z2b_0 (Mi cx) n0 n1 [z0,z3] U=b_Z2b_0 (Mi cx) n0 n1 (l_Z2b_0 (Mi cx) n0 n1) z0 z3 U:=X0u (X0s 38 [] (X0b 3 3) c_Z2b n0) n1 (X0Lc (b_Z2b_0 (Mi cx) n0 n1))
theorem e_Z3f:E cx 57 [a0,a1] U=s_Z3f (Mi cx) a0 a1 U:=X0e (k_Z3f ..)
theorem e_Zs:E cx 62 [a0,a1] U=s_Zs (Mi cx) a0 a1 U:=X0e (k_Zs ..)
theorem u_Zs_1:l_Zs_1 (Mi cx) n0 n1 r1 n2 [z0,z3,z5,z6,z7,z8] U=b_Zs_1 (Mi cx) n0 n1 r1 n2 (l_Zs_1 (Mi cx) n0 n1 r1 n2) z0 z3 z5 z6 z7 z8 U:=X0u (X0s 98 [(n1,r1)] (X0b 9 347) c_Zs n0) n2 (X0Lg (b_Zs_1 (Mi cx) n0 n1 r1 n2))
theorem u_Zs_0:l_Zs_0 (Mi cx) n0 n1 [z0,z3,z5,z6] U=b_Zs_0 (Mi cx) n0 n1 (l_Zs_0 (Mi cx) n0 n1) z0 z3 z5 z6 U:=X0u (X0s 98 [] (X0b 4 11) c_Zs n0) n1 (X0Le (b_Zs_0 (Mi cx) n0 n1))
theorem e_Z42:E cx 63 [a0,a1] U=s_Z42 (Mi cx) a0 a1 U:=X0e (k_Z42 ..)
theorem u_Z42_0:l_Z42_0 (Mi cx) n0 n1 [z0,z1,z5] U=b_Z42_0 (Mi cx) n0 n1 (l_Z42_0 (Mi cx) n0 n1) z0 z1 z5 U:=X0u (X0s 55 [] (X0b 4 11) c_Z42 n0) n1 (X0Ld (b_Z42_0 (Mi cx) n0 n1))
theorem e_Z1g:E cx 65 [a0] U=s_Z1g (Mi cx) a0 U:=X0e (k_Z1g ..)
theorem e_Z1e:E cx 64 [a0,a1] U=s_Z1e (Mi cx) a0 a1 U:=X0e (k_Z1e ..)
theorem e_Z36:E cx 66 [a0,a1] U=s_Z36 (Mi cx) a0 a1 U:=X0e (k_Z36 ..)
theorem u_Z36_0:l_Z36_0 (Mi cx) n0 n1 [z0,z1] U=b_Z36_0 (Mi cx) n0 n1 (l_Z36_0 (Mi cx) n0 n1) z0 z1 U:=X0u (X0s 14 [] (X0b 2 1) c_Z36 n0) n1 (X0Lc (b_Z36_0 (Mi cx) n0 n1))
theorem e_Z1x:E cx 67 [a0,a1] U=s_Z1x (Mi cx) a0 a1 U:=X0e (k_Z1x ..)
theorem u_Z1x_0:l_Z1x_0 (Mi cx) n0 n1 [z0,z1,z7,z8] U=b_Z1x_0 (Mi cx) n0 n1 (l_Z1x_0 (Mi cx) n0 n1) z0 z1 z7 z8 U:=X0u (X0s 19 [] (X0b 3 5) c_Z1x n0) n1 (X0Le (b_Z1x_0 (Mi cx) n0 n1))
theorem e_Z16:E cx 72 [a0] U=s_Z16 (Mi cx) a0 U:=X0e (k_Z16 ..)
theorem u_Z16_0:l_Z16_0 (Mi cx) n0 n1 [z0,z5,z6,z7] U=b_Z16_0 (Mi cx) n0 n1 (l_Z16_0 (Mi cx) n0 n1) z0 z5 z6 z7 U:=X0u (X0s 16 [] (X0b 3 5) c_Z16 n0) n1 (X0Le (b_Z16_0 (Mi cx) n0 n1))
theorem e_Zw:E cx 74 [a0,a1,a2] U=s_Zw (Mi cx) a0 a1 a2 U:=X0e (k_Zw ..)
theorem u_Zw_0:l_Zw_0 (Mi cx) n0 n1 [z2,z3,z4,z10,z11,z12] U=b_Zw_0 (Mi cx) n0 n1 (l_Zw_0 (Mi cx) n0 n1) z2 z3 z4 z10 z11 z12 U:=X0u (X0s 56 [] (X0b 3 5) c_Zw n0) n1 (X0Lg (b_Zw_0 (Mi cx) n0 n1))
theorem e_Z1k:E cx 75 [a0] U=s_Z1k (Mi cx) a0 U:=X0e (k_Z1k ..)
theorem e_Z9:E cx 76 [a0,a1] U=s_Z9 (Mi cx) a0 a1 U:=X0e (k_Z9 ..)
theorem e_Z2a:E cx 77 [a0,a1] U=s_Z2a (Mi cx) a0 a1 U:=X0e (k_Z2a ..)
theorem u_Z2a_1:l_Z2a_1 (Mi cx) n0 n1 [z0,z1,z7] U=b_Z2a_1 (Mi cx) n0 n1 (l_Z2a_1 (Mi cx) n0 n1) z0 z1 z7 U:=X0u (X0s 55 [] (X0b 4 11) c_Z2a n0) n1 (X0Ld (b_Z2a_1 (Mi cx) n0 n1))
theorem u_Z2a_0:l_Z2a_0 (Mi cx) n0 n1 [z0,z1,z6] U=b_Z2a_0 (Mi cx) n0 n1 (l_Z2a_0 (Mi cx) n0 n1) z0 z1 z6 U:=X0u (X0s 55 [] (X0b 3 5) c_Z2a n0) n1 (X0Ld (b_Z2a_0 (Mi cx) n0 n1))
theorem e_Z2j:E cx 78 [a0] U=s_Z2j (Mi cx) a0 U:=X0e (k_Z2j ..)
theorem e_Z3l:E cx 79 [a0] U=s_Z3l (Mi cx) a0 U:=X0e (k_Z3l ..)
theorem e_Z3o:E cx 80 [a0,a1] U=s_Z3o (Mi cx) a0 a1 U:=X0e (k_Z3o ..)
theorem e_Z3i:E cx 81 [a0] U=s_Z3i (Mi cx) a0 U:=X0e (k_Z3i ..)
theorem e_Z39:E cx 82 [a0] U=s_Z39 (Mi cx) a0 U:=X0e (k_Z39 ..)
theorem e_Z3n:E cx 83 [a0] U=s_Z3n (Mi cx) a0 U:=X0e (k_Z3n ..)
theorem e_Z3d:E cx 87 [a0] U=s_Z3d (Mi cx) a0 U:=X0e (k_Z3d ..)
theorem e_Zv:E cx 88 [a0,a1] U=s_Zv (Mi cx) a0 a1 U:=X0e (k_Zv ..)
theorem e_Z1f:E cx 89 [a0,a1] U=s_Z1f (Mi cx) a0 a1 U:=X0e (k_Z1f ..)
theorem u_Z1f_0:l_Z1f_0 (Mi cx) n0 n1 [z0,z1] U=b_Z1f_0 (Mi cx) n0 n1 (l_Z1f_0 (Mi cx) n0 n1) z0 z1 U:=X0u (X0s 12 [] (X0b 2 1) c_Z1f n0) n1 (X0Lc (b_Z1f_0 (Mi cx) n0 n1))
theorem e_Z2e:E cx 95 [a0] U=s_Z2e (Mi cx) a0 U:=X0e (k_Z2e ..)
theorem e_Z1y:E cx 96 [a0] U=s_Z1y (Mi cx) a0 U:=X0e (k_Z1y ..)
theorem u_Z1y_1:l_Z1y_1 (Mi cx) n0 n1 r1 n2 [z0] U=b_Z1y_1 (Mi cx) n0 n1 r1 n2 (l_Z1y_1 (Mi cx) n0 n1 r1 n2) z0 U:=X0u (X0s 188 [(n1,r1)] (X0b 16 46427) c_Z1y n0) n2 (X0Lb (b_Z1y_1 (Mi cx) n0 n1 r1 n2))
theorem u_Z1y_0:l_Z1y_0 (Mi cx) n0 n1 [z0] U=b_Z1y_0 (Mi cx) n0 n1 (l_Z1y_0 (Mi cx) n0 n1) z0 U:=X0u (X0s 188 [] (X0b 3 3) c_Z1y n0) n1 (X0Lb (b_Z1y_0 (Mi cx) n0 n1))
theorem e_Zy:E cx 98 [a0,a1] U=s_Zy (Mi cx) a0 a1 U:=X0e (k_Zy ..)
theorem e_Z3:E cx 99 [a0,a1] U=s_Z3 (Mi cx) a0 a1 U:=X0e (k_Z3 ..)
theorem e_Z1:E cx 100 [a0,a1,a2,a3] U=s_Z1 (Mi cx) a0 a1 a2 a3 U:=X0e (k_Z1 ..)
theorem e_Z8:E cx 102 [a0,a1,a2] U=s_Z8 (Mi cx) a0 a1 a2 U:=X0e (k_Z8 ..)
theorem e_Z0:E cx 101 [a0,a1] U=s_Z0 (Mi cx) a0 a1 U:=X0e (k_Z0 ..)
theorem e_Z7:E cx 103 [a0,a1] U=s_Z7 (Mi cx) a0 a1 U:=X0e (k_Z7 ..)
theorem u_Z7_0:l_Z7_0 (Mi cx) n0 n1 [z4,z5,z10,z11,z12] U=b_Z7_0 (Mi cx) n0 n1 (l_Z7_0 (Mi cx) n0 n1) z4 z5 z10 z11 z12 U:=X0u (X0s 24 [] (X0b 4 11) c_Z7 n0) n1 (X0Lf (b_Z7_0 (Mi cx) n0 n1))
theorem e_Z1c:E cx 104 [a0] U=s_Z1c (Mi cx) a0 U:=X0e (k_Z1c ..)
theorem e_Z2:E cx 105 [a0,a1] U=s_Z2 (Mi cx) a0 a1 U:=X0e (k_Z2 ..)
theorem e_Z4:E cx 106 [a0] U=s_Z4 (Mi cx) a0 U:=X0e (k_Z4 ..)
theorem e_Z2i:E cx 107 [a0] U=s_Z2i (Mi cx) a0 U:=X0e (k_Z2i ..)
theorem u_Z2i_0:l_Z2i_0 (Mi cx) n0 n1 [z0,z4,z5] U=b_Z2i_0 (Mi cx) n0 n1 (l_Z2i_0 (Mi cx) n0 n1) z0 z4 z5 U:=X0u (X0s 33 [] (X0b 5 23) c_Z2i n0) n1 (X0Ld (b_Z2i_0 (Mi cx) n0 n1))
theorem e_Z2g:E cx 108 [a0] U=s_Z2g (Mi cx) a0 U:=X0e (k_Z2g ..)
theorem u_Z2g_0:l_Z2g_0 (Mi cx) n0 n1 [z0,z3] U=b_Z2g_0 (Mi cx) n0 n1 (l_Z2g_0 (Mi cx) n0 n1) z0 z3 U:=X0u (X0s 21 [] (X0b 3 5) c_Z2g n0) n1 (X0Lc (b_Z2g_0 (Mi cx) n0 n1))
theorem e_Z2d:E cx 109 [a0] U=s_Z2d (Mi cx) a0 U:=X0e (k_Z2d ..)
theorem e_Zp:E cx 110 [a0,a1,a2,a3] U=s_Zp (Mi cx) a0 a1 a2 a3 U:=X0e (k_Zp ..)
theorem e_Zr:E cx 111 [a0,a1,a2,a3] U=s_Zr (Mi cx) a0 a1 a2 a3 U:=X0e (k_Zr ..)
theorem e_Zu:E cx 112 [a0,a1,a2,a3] U=s_Zu (Mi cx) a0 a1 a2 a3 U:=X0e (k_Zu ..)
theorem e_Zo:E cx 113 [a0,a1] U=s_Zo (Mi cx) a0 a1 U:=X0e (k_Zo ..)
theorem u_Zo_0:l_Zo_0 (Mi cx) n0 n1 [z0,z3,z4,z5] U=b_Zo_0 (Mi cx) n0 n1 (l_Zo_0 (Mi cx) n0 n1) z0 z3 z4 z5 U:=X0u (X0s 48 [] (X0b 3 5) c_Zo n0) n1 (X0Le (b_Zo_0 (Mi cx) n0 n1))
theorem e_Zt:E cx 114 [a0,a1] U=s_Zt (Mi cx) a0 a1 U:=X0e (k_Zt ..)
theorem u_Zt_0:l_Zt_0 (Mi cx) n0 n1 [z4,z5,z6,z7] U=b_Zt_0 (Mi cx) n0 n1 (l_Zt_0 (Mi cx) n0 n1) z4 z5 z6 z7 U:=X0u (X0s 29 [] (X0b 4 11) c_Zt n0) n1 (X0Le (b_Zt_0 (Mi cx) n0 n1))
theorem e_Z40:E cx 115 [a0] U=s_Z40 (Mi cx) a0 U:=X0e (k_Z40 ..)
theorem e_Z1z:E cx 131 [a0] U=s_Z1z (Mi cx) a0 U:=X0e (k_Z1z ..)
theorem e_Z13:E cx 132 [a0,a1] U=s_Z13 (Mi cx) a0 a1 U:=X0e (k_Z13 ..)
theorem e_Z1s:E cx 133 [a0,a1] U=s_Z1s (Mi cx) a0 a1 U:=X0e (k_Z1s ..)
theorem e_Zy_1:E cx 134 [a0] U=s_Zy_1 (Mi cx) a0 U:=X0e (k_Zy_1 ..)
theorem e_Z1t:E cx 135 [a0] U=s_Z1t (Mi cx) a0 U:=X0e (k_Z1t ..)
theorem e_Z1q:E cx 136 [a0] U=s_Z1q (Mi cx) a0 U:=X0e (k_Z1q ..)
theorem e_Z1m:E cx 137 [a0] U=s_Z1m (Mi cx) a0 U:=X0e (k_Z1m ..)
theorem e_Z1j:E cx 138 [a0] U=s_Z1j (Mi cx) a0 U:=X0e (k_Z1j ..)
theorem e_Z1n:E cx 139 [a0] U=s_Z1n (Mi cx) a0 U:=X0e (k_Z1n ..)
theorem e_Zy_2:E cx 140 [a0] U=s_Zy_2 (Mi cx) a0 U:=X0e (k_Zy_2 ..)
theorem e_Zy_3:E cx 141 [a0] U=s_Zy_3 (Mi cx) a0 U:=X0e (k_Zy_3 ..)
theorem e_Z1r:E cx 142 [a0] U=s_Z1r (Mi cx) a0 U:=X0e (k_Z1r ..)
theorem e_Zy_4:E cx 143 [a0] U=s_Zy_4 (Mi cx) a0 U:=X0e (k_Zy_4 ..)
theorem e_Z1o:E cx 144 [a0] U=s_Z1o (Mi cx) a0 U:=X0e (k_Z1o ..)
theorem e_Z1l:E cx 146 [a0,a1] U=s_Z1l (Mi cx) a0 a1 U:=X0e (k_Z1l ..)
theorem e_Z1w:E cx 145 [a0,a1] U=s_Z1w (Mi cx) a0 a1 U:=X0e (k_Z1w ..)
theorem u_Z1w_0:l_Z1w_0 (Mi cx) n0 n1 [z0,z3,z7,z8] U=b_Z1w_0 (Mi cx) n0 n1 (l_Z1w_0 (Mi cx) n0 n1) z0 z3 z7 z8 U:=X0u (X0s 19 [] (X0b 3 5) c_Z1w n0) n1 (X0Le (b_Z1w_0 (Mi cx) n0 n1))
theorem e_Z1b:E cx 147 [a0] U=s_Z1b (Mi cx) a0 U:=X0e (k_Z1b ..)
theorem e_Z2h:E cx 148 [a0,a1,a2] U=s_Z2h (Mi cx) a0 a1 a2 U:=X0e (k_Z2h ..)
theorem u_Z2h_0:l_Z2h_0 (Mi cx) n0 n1 [z1,z2,z7] U=b_Z2h_0 (Mi cx) n0 n1 (l_Z2h_0 (Mi cx) n0 n1) z1 z2 z7 U:=X0u (X0s 20 [] (X0b 3 3) c_Z2h n0) n1 (X0Ld (b_Z2h_0 (Mi cx) n0 n1))
theorem e_Z3g:E cx 149 [a0,a1] U=s_Z3g (Mi cx) a0 a1 U:=X0e (k_Z3g ..)
theorem u_Z3g_0:l_Z3g_0 (Mi cx) n0 n1 [z1,z2,z6] U=b_Z3g_0 (Mi cx) n0 n1 (l_Z3g_0 (Mi cx) n0 n1) z1 z2 z6 U:=X0u (X0s 31 [] (X0b 3 5) c_Z3g n0) n1 (X0Ld (b_Z3g_0 (Mi cx) n0 n1))
end
end Go.Proofs.YtapnplljnpconaaGreatDoor
namespace Go.Ev
open Go
section
variable {α:Type} {f:α→V} {sz:Nat} {l m:List α} {c c':Cap}
theorem Qzg (hf:∀x,(f x).cells.length=sz) (d:α) {k:IntKind} {i:Int} (h:0≤i∧i<l.length):eI sz (.int k i) (.sl (l.map f) c)=some (.eptr (f (l.getD i.toNat d)).cells 0):=by
 have h3:i.toNat<l.length:=by omega
 have h4:(l.map f).length=l.length:=by simp
 have h5:(l.map f)[i.toNat]? = some (f (l.getD i.toNat d)):=by simp [h3]
 simp only [eI,index,h4,if_pos h,Xaa,Xad,h5,hf,if_true]
theorem all_map (hf:∀x,(f x).cells.length=sz):(l.map f).all (fun y=>decide (y.cells.length=sz))=true:=by
 rw [Xda]
 exact Xbb.2 fun x _=>by simp [hf]
theorem Qzh (hf:∀x,(f x).cells.length=sz) {k k':IntKind} {a b:Int} (h:0≤a∧a≤b∧b≤l.length):Qbm sz (.sl (l.map f) c) (some (.int k a)) (some (.int k' b)) none=some (.sl (((l.drop a.toNat).take (b.toNat - a.toNat)).map f) .no):=by
 have h1:bound (.int k' b) (l.map f).length=some b.toNat:=by simp [bound];omega
 have h2:bound (.int k a) b.toNat=some a.toNat:=by simp [bound];omega
 have h3:bounds (l.map f).length (some (.int k a)) (some (.int k' b)) none=some (a.toNat,b.toNat,none):=by
  simp only [bounds,Xb7,h1,h2,Xaa,Xad,Xbm]
 simp only [Qbm,h3,Xaa,Xad,all_map hf,if_true,reduceCtorEq,if_false,Xdw,Xde]
theorem Qvu (hf:∀x,(f x).cells.length=sz) {k:IntKind} {a:Int} (h:0≤a∧a≤l.length):Qbm sz (.sl (l.map f) c) (some (.int k a)) none none=some (.sl ((l.drop a.toNat).map f) .no):=by
 have h2:bound (.int k a) (l.map f).length=some a.toNat:=by simp [bound];omega
 have h3:bounds (l.map f).length (some (.int k a)) none none=some (a.toNat,(l.map f).length,none):=by
  simp only [bounds,Xb7,h2,Xaa,Xad,Xbm]
 have h4:((l.map f).drop a.toNat).take ((l.map f).length - a.toNat)=(l.drop a.toNat).map f:=by
  rw [Xbl (by simp),Xdw]
 simp only [Qbm,h3,Xaa,Xad,all_map hf,if_true,reduceCtorEq,if_false,h4]
theorem Qvv (hf:∀x,(f x).cells.length=sz) {k:IntKind} {b:Int} (h:0≤b∧b≤l.length):Qbm sz (.sl (l.map f) c) none (some (.int k b)) none=some (.sl ((l.take b.toNat).map f) .no):=by
 have h2:bound (.int k b) (l.map f).length=some b.toNat:=by simp [bound];omega
 have h3:bounds (l.map f).length none (some (.int k b)) none=some (0,b.toNat,none):=by
  simp only [bounds,Xb7,h2,Xaa,Xad,Xbm]
 simp only [Qbm,h3,Xaa,Xad,all_map hf,if_true,reduceCtorEq,if_false,Xb0,Xd8,Xde]
theorem Qpq {ag:Bool} (hf:∀x,(f x).cells.length=sz) (ho:∀x,Qan (f x).cells=true) (ha:∀x,agOk ag (f x)=true):Qdj ag sz (l.map f)=true:=by
 unfold Qdj
 rw [Xda]
 exact Xbb.2 fun x _=>by simp [hf,ho,ha]
theorem Qjc {ag:Bool} {bytes:Nat} {U:Objs} (hf:∀x,(f x).cells.length=sz) (ho:∀x,Qan (f x).cells=true) (ha:∀x,agOk ag (f x)=true) (hc:c = .fx∨c = .gr sz) (hm:m≠[]) (hl:(l.length+m.length) * bytes≤Qbj):
  appV false ag sz bytes U (.sl (l.map f) c) (.sl (m.map f) c')=some (.sl ((l++m).map f) (.gr sz)):=by
 have h1:=all_map (l:=l) hf
 have h2:∃y ys,m.map f=y::ys:=by
  match m,hm with
  |x::m,_=>exact ⟨_,_,rfl⟩
 obtain ⟨y,ys,h2⟩:=h2
 have h3:(l.map f).length+(y::ys).length=l.length+m.length:=by rw [←h2];simp
 have h4:=Qpq (l:=m) hf ho ha
 rw [h2] at h4
 unfold appV
 simp only [Qfj,Xaj,if_false,Qiu,Xaa,Xad]
 rw [h2]
 unfold Qd1
 simp only [h4,if_true]
 rw [if_pos ⟨hc,h1,by rw [h3];exact hl⟩,Xbj,h2]
end
def ints (l:List Int):List V:=l.map (V.int .i64)
theorem Wc7 {l:List Int} : (ints l).length=l.length:=by simp [ints]
theorem Wc8 {n:Nat} {l:List Int} : V.rbs n (ints l)=true:=Qx7 fun _=>rfl
theorem Qvw {l:List Int} {c:Cap} {k:IntKind} {i:Int} (h:0≤i∧i<l.length):eI 1 (.int k i) (.sl (ints l) c)=some (.eptr [.int .i64 (l.getD i.toNat 0)] 0):=Qzg (f:=V.int .i64) (fun _=>rfl) 0 h
theorem Wc9 {l:List Int} {c:Cap} {k k':IntKind} {a b:Int} (h:0≤a∧a≤b∧b≤l.length):Qbm 1 (.sl (ints l) c) (some (.int k a)) (some (.int k' b)) none=some (.sl (ints ((l.drop a.toNat).take (b.toNat - a.toNat))) .no):=Qzh (f:=V.int .i64) (fun _=>rfl) h
theorem Whg {l:List Int} {x:Int} {c c':Cap} {U:Objs} (hc:c = .fx∨c = .gr 1) (hl:(l.length+1) * 8≤Qbj):appV false false 1 8 U (.sl (ints l) c) (.sl [.int .i64 x] c')=some (.sl (ints (l++[x])) (.gr 1)):=
 Qjc (f:=V.int .i64) (m:=[x]) (fun _=>rfl) (fun _=>rfl) (fun _=>rfl) hc (by simp) hl
theorem Qlc {l m:List UInt8} {c c':Cap} {U:Objs} (hc:c = .fx∨c = .gr 1) (hm:m≠[]) (hl:l.length+m.length≤Qbj):appV false false 1 1 U (.sl (Qae l) c) (.sl (Qae m) c')=some (.sl (Qae (l++m)) (.gr 1)):=
 Qjc (f:=fun b:UInt8=>V.int .u8 b.toNat) (fun _=>rfl) (fun _=>rfl) (fun _=>rfl) hc hm (by simpa using hl)
theorem Qim {l:List UInt8} {c:Cap} {k k':IntKind} {a b:Int} (h:0≤a∧a≤b∧b≤l.length):Qbm 1 (.sl (Qae l) c) (some (.int k a)) (some (.int k' b)) none=some (.sl (Qae ((l.drop a.toNat).take (b.toNat - a.toNat))) .no):=Qzh (f:=fun b:UInt8=>V.int .u8 b.toNat) (fun _=>rfl) h
theorem Qvx {s:List UInt8} : bytesOf (Qae s)=some s:=by
 induction s with
 |nil=>rfl
 |cons b s ih=>
  show bytesOf (.int .u8 b.toNat::Qae s)=_
  rw [Qjv,ih]
  simp
attribute [go_sem] Wc7 Wc8 Qvw Wc9 Whg Qlc Qim Qvx
inductive Sl (α:Type) where
 |nil|row (xs:List α)
def Sl.l {α:Type} : Sl α→List α
 | .nil=>[]
 | .row xs=>xs
def vSl {α:Type} (f:α→V):Sl α→V
 | .nil=>.nils
 | .row xs=>.sl (xs.map f) .no
section
variable {α:Type} {f:α→V} {s:Sl α} {sz:Nat}
theorem Qah:Qai (vSl f s)=some (.int .i64 s.l.length):=by
 cases s with
 |nil=>rfl
 |row xs=>show some (V.int .i64 ((xs.map f).length:Nat))=_;rw [Xao];rfl
theorem Qaf:(vSl f s).ng=vSl f s:=by cases s <;> rfl
theorem Qc2:V.one (vSl f s)=true:=by cases s <;> rfl
theorem Wda {keep:Bool} : oK keep (vSl f s)=some (vSl f s):=by cases s <;> cases keep <;> rfl
theorem Qbw:(vSl f s).cells=[vSl f s]:=by cases s <;> rfl
theorem Qti:agOk false (vSl f s)=true:=by cases s <;> rfl
theorem Qpr {n:Nat} (h:∀x∈s.l,V.rb n (f x)=true):V.rb n (vSl f s)=true:=by
 cases s with
 |nil=>rfl
 |row xs=>
  show V.rbs n (xs.map f)=true
  have h':∀x∈xs,V.rb n (f x)=true:=h
  clear h
  induction xs with
  |nil=>rfl
  |cons x l ih=>rw [Xak,Qag,h' x (Xaw ..),ih fun y hy=>h' y (Xax _ hy)];rfl
theorem Qax {p r:List α} {x:α} {k:IntKind} {i:Int} (h:s.l=p++x::r) (hi:i=p.length) (hf:(f x).cells.length=sz):eI sz (.int k i) (vSl f s)=some (.eptr (f x).cells 0):=by
 cases s with
 |nil=>cases p <;> cases h
 |row xs=>
  have h':xs=p++x::r:=h
  have h3:0≤i∧i<(xs.map f).length:=by rw [h'];simp;omega
  have h5:(xs.map f)[i.toNat]? = some (f x):=by rw [h',hi];simp
  show eI sz (.int k i) (.sl (xs.map f) .no)=_
  simp only [eI,index,if_pos h3,Xaa,Xad,h5,hf,if_true]
theorem Qzi {U:Objs} : Qiu U (vSl f s)=some (s.l.map f):=by cases s <;> rfl
def Sl.take (n:Nat):Sl α→Sl α
 | .nil=>.nil
 | .row xs=>.row (xs.take n)
theorem Sl.take_l {n:Nat} : (s.take n).l=s.l.take n:=by cases s <;> simp [Sl.take,Sl.l]
theorem Qmo (hf:∀x,(f x).cells.length=sz) {k:IntKind} {b:Int} (h:0≤b∧b≤s.l.length):Qbm sz (vSl f s) none (some (.int k b)) none=some (vSl f (s.take b.toNat)):=by
 cases s with
 |nil=>
  have hb:b=0:=by
   have h2:b≤((0:Nat):Int):=h.2
   omega
  subst hb
  rfl
 |row xs=>
  show Qbm sz (.sl (xs.map f) .no) none (some (.int k b)) none=some (.sl ((xs.take b.toNat).map f) .no)
  exact Qvv hf h
end
attribute [go_sem] Qah Qaf Qc2 Wda Qbw Qti
theorem Qaj {α:Type} {f:α→V} {s:Sl α} {n:Nat} (h:∀n x,V.rb n (f x)=true):V.rb n (vSl f s)=true:=Qpr fun x _=>h n x
attribute [go_sem] Qaj
structure Sm (α:Type) where
 kind:Int
 ns:Int
 pre:List UInt8
 name:List UInt8
 op:Int
 text:List UInt8
 fold:Bool
 mark:Int
 a:Int
 b:Int
 of:Sl α
structure Cp (α:Type) where
 comb:Int
 list:Sl (Sm α)
structure Co (α:Type) where
 list:Sl (Cp α)
section
variable {α:Type} (v:α→V)
@[reducible] def vSm (s:Sm α):V:=.agg [.int .i64 s.kind,.int .i64 s.ns,.str s.pre,.str s.name,.int .i64 s.op,.str s.text,.bool s.fold,.int .i64 s.mark,.int .i64 s.a,.int .i64 s.b,vSl v s.of]
@[reducible] def vCp (c:Cp α):V:=.agg [.int .i64 c.comb,vSl (vSm v) c.list]
@[reducible] def vCo (c:Co α):V:=.agg [vSl (vCp v) c.list]
variable {v}
theorem Qjw (h:∀n x,V.rb n (v x)=true):∀n x,V.rb n (vSm v x)=true:=fun n x=>by
 show V.rbs n _=true
 simp only [Qag,Qdh,Qju,Qi7,Qby,Qaj h,Xau]
theorem Qe8 (h:∀n x,V.rb n (v x)=true):∀n x,V.rb n (vCp v x)=true:=fun n x=>by
 show V.rbs n _=true
 simp only [Qag,Qdh,Qby,Qaj (Qjw h),Xau]
theorem Qc0 (h:∀n x,V.rb n (v x)=true):∀n x,V.rb n (vCo v x)=true:=fun n x=>by
 show V.rbs n _=true
 simp only [Qag,Qby,Qaj (Qe8 h),Xau]
end
def Cx:Nat→Type
 |0=>Empty
 |n+1=>Co (Cx n)
def vCx:(n:Nat)→Cx n→V
 |0,x=>x.elim
 |n+1,c=>vCo (vCx n) c
theorem Qed:∀(k:Nat) (n:Nat) (x:Cx k),V.rb n (vCx k x)=true
 |0,n,x=>x.elim
 |k+1,n,x=>Qc0 (Qed k) n x
def Bd:Nat→(k:Nat)→Sl (Cx k)→Prop
 |d,0,s=>True
 |d,k+1,s=>s.l.length≤1000∧∀c∈s.l,c.list.l.length≤1000∧∀x∈c.list.l,x.list.l.length≤1000∧∀y∈x.list.l,y.pre.length≤100∧y.name.length≤100∧y.text.length≤100∧0<d∧Bd (d - 1) k y.of
theorem Qmp {α:Type} {f:α→V} {k:Nat} : ∀l:List α,(∀x∈l,V.shp k (f x)=true)→V.shpAll k (l.map f)=true
 |[],_=>rfl
 |x::l,h=>by rw [Xak,V.shpAll,h x (Xaw ..),Qmp l fun y hy=>h y (Xax _ hy)];rfl
theorem Qnz {α:Type} {f:α→V} {k:Nat} {s:Sl α} (h:∀x∈s.l,V.shp (k+1) (f x)=true) (hk:k=0∨k=2∨k=4) (hl:s.l.length≤1000):V.shp k (vSl f s)=true:=by
 cases s with
 |nil=>rcases hk with rfl|rfl|rfl <;> rfl
 |row xs=>
  have hl':xs.length≤1000000000:=Xca hl (by decide)
  have h':=Qmp xs h
  rcases hk with rfl|rfl|rfl <;> (show V.shp _ (.sl _ _)=true;simp [V.shp,hl'];exact h')
theorem sl0 {α:Type} (h:α→False):∀s:Sl α,s.l=[]
 | .nil=>rfl
 | .row []=>rfl
 | .row (x::_)=>(h x).elim
theorem Qzj:∀(k d:Nat) (s:Sl (Cx k)),Bd d k s→V.shp 0 (vSl (vCx k) s)=true
 |0,d,s,_=>by
  have e:=sl0 (α:=Cx 0) (fun x=>Empty.elim x) s
  exact Qnz (fun x _=>x.elim) (.inl rfl) (by rw [e];exact Xa1 _)
 |k+1,d,s,hb=>by
  refine Qnz (fun x hx => ?_) (.inl rfl) hb.1
  show V.shp 1 (.agg [vSl (vCp (vCx k)) x.list])=true
  simp only [V.shp,V.shpEach,beq_self_eq_true,if_true,Xac]
  refine ⟨Qnz (fun y hy => ?_) (.inr (.inl rfl)) (hb.2 x hx).1,rfl⟩
  show V.shp 3 (.agg [.int .i64 y.comb,vSl (vSm (vCx k)) y.list])=true
  simp [V.shp,V.shpEach]
  refine Qnz (fun z hz => ?_) (.inr (.inr rfl)) ((hb.2 x hx).2 y hy).1
  show V.shp 5 (.agg _)=true
  simp [V.shp,V.shpEach,Qzj k (d - 1) z.of (((hb.2 x hx).2 y hy).2 z hz).2.2.2.2]
theorem Qtj {α:Type} {f:α→V} {s:Sl α} {n:Nat} (h:∀x∈s.l,V.hh (f x)≤n):V.hh (vSl f s)≤n+1∧(s.l=[]→V.hh (vSl f s)=0):=by
 cases s with
 |nil=>exact ⟨Xa1 _,fun _=>rfl⟩
 |row xs=>
  have key:∀l:List α,(∀x∈l,V.hh (f x)≤n)→V.hhs (l.map f)≤n:=by
   intro l
   induction l with
   |nil=>intro _;exact Xa1 _
   |cons x l ih=>
    intro hl
    rw [Xak,V.hhs]
    have:=hl x (Xaw ..)
    have:=ih fun y hy=>hl y (Xax _ hy)
    omega
  have e:V.hh (vSl f (.row xs))=if (xs.map f).isEmpty then 0 else V.hhs (xs.map f)+1:=by
   show V.hh (.sl _ _)=_
   rw [V.hh]
  rw [e]
  refine ⟨?_,fun h0 => ?_⟩
  ·split
   ·exact Xa1 _
   ·have:=key xs h;omega
  ·have:xs=[]:=h0
   subst this;rfl
theorem Qzk:∀(k d:Nat) (s:Sl (Cx k)),Bd d k s→V.hh (vSl (vCx k) s)≤3 * d+3
 |0,d,s,_=>by
  have e:=sl0 (α:=Cx 0) (fun x=>Empty.elim x) s
  rw [(Qtj (f:=vCx 0) (s:=s) (n:=0) (fun x _=>Empty.elim x)).2 e]
  omega
 |k+1,d,s,hb=>by
  refine (Qtj (n:=3 * d+2) fun x hx => ?_).1
  have e1:V.hh (vCx (k+1) x)=V.hh (vSl (vCp (vCx k)) x.list):=by
   show V.hh (.agg [vSl (vCp (vCx k)) x.list])=_
   simp [V.hh,V.hhs]
  rw [e1]
  refine (Qtj (n:=3 * d+1) fun y hy => ?_).1
  have e2:V.hh (vCp (vCx k) y)=V.hh (vSl (vSm (vCx k)) y.list):=by simp [V.hh,V.hhs]
  rw [e2]
  refine (Qtj (n:=3 * d) fun z hz => ?_).1
  have e3:V.hh (vSm (vCx k) z)=V.hh (vSl (vCx k) z.of):=by simp [V.hh,V.hhs]
  rw [e3]
  have hz:=((hb.2 x hx).2 y hy).2 z hz
  have:=Qzk k (d - 1) z.of hz.2.2.2.2
  have:=hz.2.2.2.1
  omega
end Go.Ev
theorem X0d {p:Prop} (h:p:=by first|assumption|omega|(simp -implicitDefEqProofs only [go_sem];first|done|omega)):p:=h
namespace Go.Ev
theorem Qps {U:Objs} {xs:List V} {c:Cap} : eC U .bytesStrN (.sl xs c)=(bytesOf xs).map V.str:=rfl
attribute [go_sem] Qps
end Go.Ev
namespace Go.Proofs.YtapnplljnpconaaGreatDoor
open Go.Ev
def Qin (n:Int):Bool:=decide (0≤n)&&decide (n<1114112)&&(decide (n<55296)||decide (57343<n))
theorem Whh (c:Int) (U:Objs) (hσ:Wf U):E cx 95 [.int .i64 c] U=some (.bool (Qin c),U):=by
 rw [e_Z2e]
 simp +contextual -implicitDefEqProofs (disch:=try exact X0d) only [↓reduceIte,go_sem,s_Z2e,Qin]
def putB (x:Int):UInt8:=UInt8.ofNat x.toNat
theorem Qg2 {x:Int} (h:0≤x∧x≤255):((putB x).toNat:Int)=x:=by
 unfold putB
 rw [UInt8.toNat_ofNat'];omega
def putS (n:Int):List UInt8:=
 if n<128 then [putB n]
 else if n<2048 then [putB (192+n / 64),putB (128+n % 64)]
 else if n<65536 then [putB (224+n / 4096),putB (128+n / 64 % 64),putB (128+n % 64)]
 else [putB (240+n / 262144),putB (128+n / 4096 % 64),putB (128+n / 64 % 64),putB (128+n % 64)]
theorem Wnz (n:Int) (hn:0≤n∧n≤1114111) (U:Objs) (hσ:Wf U):E cx 109 [.int .i64 n] U=some (.sl (Qae (putS n)) .no,U):=by
 rw [e_Z2d]
 by_cases h1:n<128
 ·simp +contextual -implicitDefEqProofs (disch:=try exact X0d) only [↓reduceIte,go_sem,s_Z2d,putS,Qae,Qg2,Qnl,Qla]
 ·by_cases h2:n<2048
  ·simp +contextual -implicitDefEqProofs (disch:=try exact X0d) only [↓reduceIte,go_sem,s_Z2d,putS,Qae,Qg2,Qnl,Qla]
  ·by_cases h3:n<65536
   ·simp +contextual -implicitDefEqProofs (disch:=try exact X0d) only [↓reduceIte,go_sem,s_Z2d,putS,Qae,Qg2,Qnl,Qla]
   ·simp +contextual -implicitDefEqProofs (disch:=try exact X0d) only [↓reduceIte,go_sem,s_Z2d,putS,Qae,Qg2,Qnl,Qla]
theorem Qdi (s:List UInt8):V.rb 0 (.sl (Qae s) .no)=true:=Qie
theorem Qzl {n:Int} (h:Qin n=true):0≤n∧n≤1114111:=by
 unfold Qin at h
 simp only [Xac,decide_eq_true_eq] at h
 omega
def Qn0:List UInt8→Int→Int
 |[],n=>n
 |x::r,n=>Qn0 r (64 * n+x.toNat - 128)
def Qld (k:Nat):Int:=if k=2 then 192 else if k=3 then 224 else if k=4 then 240 else 0
def Qee (b:List UInt8):Int:=Qn0 b.tail ((b.getD 0 0).toNat - Qld b.length)
theorem Qmq (b:List UInt8) (hb:b.length≤4):∀(r p:List UInt8) (n i N:Int),b=p++r→i=p.length→-N≤n∧n≤N→(N+3) * 64 ^ r.length≤1099511627776→
  l_Z2i_0 (Mi cx) 0 0 [.sl (Qae b) .no,.int .i64 n,.int .i64 i] []=some (.int .i64 (Qn0 r n),[])
 |[],p,n,i,N,hp,hi,hn,hN=>by
  have hlen:b.length=p.length:=by rw [hp];simp
  rw [u_Z2i_0]
  simp +contextual -implicitDefEqProofs (disch:=try exact X0d) only [↓reduceIte,go_sem,b_Z2i_0,Qn0]
 |x::r,p,n,i,N,hp,hi,hn,hN=>by
  have hlen:b.length=p.length+r.length+1:=by rw [hp];simp;omega
  have hg:b.getD i.toNat 0=x:=by rw [hp,hi];simp
  have hx:=UInt8.toNat_lt x
  have hpow:(N+3) * 64 ^ r.length * 64≤1099511627776:=by
   rw [Xal,Int.pow_succ,←Int.mul_assoc] at hN
   exact hN
  have hone:(1:Int)≤64 ^ r.length:=Int.pow_pos (by decide)
  have hle:(N+3) * 1≤(N+3) * 64 ^ r.length:=Xdq hone X0o
  have ih:=Qmq b hb r (p++[x]) (64 * n+x.toNat - 128) (i+1) (64 * N+128) (by rw [hp];simp) (by simp;omega) X0o (by
   have h1:(64 * N+128+3) * 64 ^ r.length≤(64 * (N+3)) * 64 ^ r.length:=Int.mul_le_mul_of_nonneg_right X0o X0o
   have h2:(64 * (N+3)) * 64 ^ r.length=(N+3) * 64 ^ r.length * 64:=by rw [Int.mul_comm 64 (N+3),Int.mul_assoc,Int.mul_comm 64,←Int.mul_assoc]
   omega)
  rw [u_Z2i_0]
  simp +contextual -implicitDefEqProofs (disch:=try exact X0d) only [↓reduceIte,go_sem,b_Z2i_0,Qn0,hg,ih]
theorem Wet (b:List UInt8) (hb:1≤b.length∧b.length≤4) (U:Objs) (hσ:Wf U):E cx 107 [.sl (Qae b) .no] U=some (.int .i64 (Qee b),U):=by
 refine Qbe Qbb ?_ (by rw [Qag,Qdi];rfl) rfl U hσ
 have hb0:=UInt8.toNat_lt (b.getD 0 0)
 have hh:0≤Qld b.length∧Qld b.length≤240:=by unfold Qld;repeat' split;all_goals omega
 have h1:l_Z2i_0 (Mi cx) 0 0 [.sl (Qae b) .no,.int .i64 ((b.getD 0 0).toNat - Qld b.length),.int .i64 1] []=some (.int .i64 (Qee b),[]):=by
  obtain ⟨x,r,rfl⟩:∃x r,b=x::r:=by
   cases b with
   |nil=>simp at hb
   |cons x r=>exact ⟨x,r,rfl⟩
  refine Qmq (x::r) hb.2 r [x] _ 1 255 rfl rfl X0o ?_
  have:r.length≤3:=by simp at hb;omega
  have h3:r.length=0∨r.length=1∨r.length=2∨r.length=3:=by omega
  rcases h3 with h|h|h|h <;> rw [h] <;> decide
 have h2:eI 1 (.int .i64 b.length) (.sl [.int .i64 0,.int .i64 0,.int .i64 192,.int .i64 224,.int .i64 240] .fx)=some (.eptr [.int .i64 (Qld b.length)] 0):=by
  have h3:b.length=1∨b.length=2∨b.length=3∨b.length=4:=by omega
  rcases h3 with h|h|h|h <;> rw [h] <;> rfl
 have h4:eI 1 (.int .i64 b.length) (.sl [.int .i64 0,.int .i64 0,.int .i64 192,.int .i64 224,.int .i64 240] .no)=some (.eptr [.int .i64 (Qld b.length)] 0):=by
  have h3:b.length=1∨b.length=2∨b.length=3∨b.length=4:=by omega
  rcases h3 with h|h|h|h <;> rw [h] <;> rfl
 rw [e_Z2i]
 simp +contextual -implicitDefEqProofs (disch:=try exact X0d) only [↓reduceIte,go_sem,s_Z2i,h1,h2,h4]
def Qca (b:List UInt8):Bool:=Qin (Qee b)&&decide (putS (Qee b)=b)
theorem Qn1 (b:List UInt8) (hb:1≤b.length∧b.length≤4) (U:Objs) (hσ:Wf U):E cx 78 [.sl (Qae b) .no] U=some (.bool (Qca b),U):=by
 have h1:=fun U hσ=>Wet b hb U hσ
 have h2:=fun U hσ=>Whh (Qee b) U hσ
 rw [e_Z2j]
 unfold Qca
 cases hr:Qin (Qee b) with
 |true=>
  have h3:=fun U hσ=>Wnz (Qee b) (Qzl hr) U hσ
  by_cases he:putS (Qee b)=b
  ·simp +contextual -implicitDefEqProofs (disch:=try exact X0d) only [↓reduceIte,go_sem,s_Z2j,h1,h2,h3,hr,he]
  ·simp +contextual -implicitDefEqProofs (disch:=try exact X0d) only [↓reduceIte,go_sem,s_Z2j,h1,h2,h3,hr,he]
 |false=>simp +contextual -implicitDefEqProofs (disch:=try exact X0d) only [↓reduceIte,go_sem,s_Z2j,h1,h2,hr]
theorem Qpt (c:UInt8):∀(g:Nat) (out:List UInt8) (cap:Cap) (n:Int),n=out.length+g→n≤100→(cap = .fx∨cap = .gr 1)→
  l_Z2h_0 (Mi cx) 0 0 [.int .u8 c.toNat,.int .i64 n,.sl (Qae out) cap] []=some (.sl (Qae (out++List.replicate g c)) .no,[])
 |0,out,cap,n,hn,hl,hc=>by
  rw [u_Z2h_0]
  simp +contextual -implicitDefEqProofs (disch:=try exact X0d) only [↓reduceIte,go_sem,b_Z2h_0,List.replicate,Xbe]
 |g+1,out,cap,n,hn,hl,hc=>by
  have hm:Qbj=140737488355328:=rfl
  have hx:=UInt8.toNat_lt c
  have h2:appV false false 1 1 [] (.sl (Qae out) cap) (.sl [.int .u8 c.toNat] .no)=some (.sl (Qae (out++[c])) (.gr 1)):=Qlc (m:=[c]) hc (by simp) (by simp;omega)
  have ih:=Qpt c g (out++[c]) (.gr 1) n (by simp;omega) hl (.inr rfl)
  rw [Xa2] at ih
  rw [u_Z2h_0]
  simp +contextual -implicitDefEqProofs (disch:=try exact X0d) only [↓reduceIte,go_sem,b_Z2h_0,h2,ih,List.replicate_succ]
def filS (b:List UInt8) (c:UInt8) (n:Int):List UInt8:=b++List.replicate (n.toNat - b.length) c
theorem Qtk (b:List UInt8) (c:UInt8) (n:Int) (hb:1≤b.length∧(b.length:Int)≤n∧n≤100) (U:Objs) (hσ:Wf U):E cx 148 [.sl (Qae b) .no,.int .u8 c.toNat,.int .i64 n] U=some (.sl (Qae (filS b c n)) .no,U):=by
 refine Qbe Qbb ?_ (by rw [Qag,Qdi];rfl) (Qdi _) U hσ
 have hm:Qbj=140737488355328:=rfl
 have h1:=Qpt c (n.toNat - b.length) b (.gr 1) n X0o hb.2.2 (.inr rfl)
 have h2:∀U,appV false false 1 1 U (.sl [] .fx) (.sl (Qae b) .no)=some (.sl (Qae b) (.gr 1)):=fun U=>Qlc (l:=[]) (m:=b) (.inl rfl) (by intro h;rw [h] at hb;simp at hb) (by simp;omega)
 rw [e_Z2h]
 unfold filS
 simp +contextual -implicitDefEqProofs (disch:=try exact X0d) only [↓reduceIte,go_sem,s_Z2h,h1,h2]
theorem Qtl (b:List UInt8) (c:UInt8) (n:Int) (h:(b.length:Int)≤n):((filS b c n).length:Int)=n:=by
 unfold filS
 simp;omega
def begF (b:List UInt8):Nat→Int→Bool
 |0,s=>false
 |f+1,s=>if s≤4 then (if Qca (filS b 128 s) then true else if Qca (filS b 191 s) then true else begF b f (s+1)) else false
def begS (b:List UInt8):Bool:=begF b 4 (b.length+1)
theorem Qpu (b:List UInt8) (hb:1≤b.length∧b.length≤4):∀(f:Nat) (s:Int),5 - s<f→(b.length:Int)<s→
  l_Z2g_0 (Mi cx) 0 0 [.sl (Qae b) .no,.int .i64 s] []=some (.bool (begF b f s),[])
 |0,s,hf,hs=>by
  rw [u_Z2g_0]
  have:¬s≤4:=by omega
  simp +contextual -implicitDefEqProofs (disch:=try exact X0d) only [↓reduceIte,go_sem,b_Z2g_0,begF,this]
 |f+1,s,hf,hs=>by
  rw [u_Z2g_0]
  by_cases h4:s≤4
  ·have e1:=Qtl b 128 s X0o
   have e2:=Qtl b 191 s X0o
   have h1:∀U,Wf U→E cx 148 [.sl (Qae b) .no,.int .u8 128,.int .i64 s] U=some (.sl (Qae (filS b 128 s)) .no,U):=fun U hσ=>Qtk b 128 s X0o U hσ
   have h2:∀U,Wf U→E cx 148 [.sl (Qae b) .no,.int .u8 191,.int .i64 s] U=some (.sl (Qae (filS b 191 s)) .no,U):=fun U hσ=>Qtk b 191 s X0o U hσ
   have h3:=fun U hσ=>Qn1 (filS b 128 s) X0o U hσ
   have h5:=fun U hσ=>Qn1 (filS b 191 s) X0o U hσ
   have ih:=Qpu b hb f (s+1) X0o X0o
   cases c1:Qca (filS b 128 s) with
   |true=>simp +contextual -implicitDefEqProofs (disch:=try exact X0d) only [↓reduceIte,go_sem,b_Z2g_0,begF,h4,h1,h3,c1]
   |false=>
    cases c2:Qca (filS b 191 s) with
    |true=>simp +contextual -implicitDefEqProofs (disch:=try exact X0d) only [↓reduceIte,go_sem,b_Z2g_0,begF,h4,h1,h2,h3,h5,c1,c2]
    |false=>simp +contextual -implicitDefEqProofs (disch:=try exact X0d) only [↓reduceIte,go_sem,b_Z2g_0,begF,h4,h1,h2,h3,h5,c1,c2,ih]
  ·simp +contextual -implicitDefEqProofs (disch:=try exact X0d) only [↓reduceIte,go_sem,b_Z2g_0,begF,h4]
theorem Wdb (b:List UInt8) (hb:1≤b.length∧b.length≤4) (U:Objs) (hσ:Wf U):E cx 108 [.sl (Qae b) .no] U=some (.bool (begS b),U):=by
 refine Qbe Qbb ?_ (by rw [Qag,Qdi];rfl) rfl U hσ
 have h1:=Qpu b hb 5 (b.length+1) X0o X0o
 have e:begF b 5 (b.length+1)=begS b:=by
  have key:∀(f:Nat) (s:Int),4 - s<f→begF b (f+1) s=begF b f s:=by
   intro f
   induction f with
   |zero=>intro s hs;show (if s≤4 then _ else false)=false;rw [if_neg X0o]
   |succ f ih=>
    intro s hs
    show (if s≤4 then (if Qca (filS b 128 s) then true else if Qca (filS b 191 s) then true else begF b (f+1) (s+1)) else false)=(if s≤4 then (if Qca (filS b 128 s) then true else if Qca (filS b 191 s) then true else begF b f (s+1)) else false)
    rw [ih (s+1) X0o]
  exact key 4 _ X0o
 rw [e] at h1
 rw [e_Z2g]
 simp +contextual -implicitDefEqProofs (disch:=try exact X0d) only [↓reduceIte,go_sem,s_Z2g,h1]
def cut8 (b:List UInt8) (a c:Int):List UInt8:=(b.drop a.toNat).take (c.toNat - a.toNat)
theorem Qn2 (b:List UInt8) (a c:Int) (h:0≤a∧a≤c∧c≤b.length):((cut8 b a c).length:Int)=c - a:=by
 unfold cut8
 simp only [Xbh,Xa5];omega
def fir1 (b:List UInt8) (a:Int):Nat→Int→Int×Int
 |0,s=>(65533,1)
 |f+1,s=>if 1<s then (if a+s≤b.length then (if begS (cut8 b a (a+s)) then (65533,s) else fir1 b a f (s - 1)) else fir1 b a f (s - 1)) else (65533,1)
def fir0 (b:List UInt8) (a:Int):Nat→Int→Int×Int
 |0,s=>fir1 b a 3 3
 |f+1,s=>if s≤4 then (if a+s≤b.length then (if Qca (cut8 b a (a+s)) then (Qee (cut8 b a (a+s)),s) else fir0 b a f (s+1)) else fir1 b a 3 3) else fir1 b a 3 3
def firS (b:List UInt8) (a:Int):Int×Int:=fir0 b a 4 1
theorem Qjd (b:List UInt8) (hb:b.length≤1000000000) (a:Int) (ha:0≤a∧a<b.length):∀(f:Nat) (s:Int),s - 1≤f→s≤3→
  l_Z2a_1 (Mi cx) 0 0 [.sl (Qae b) .no,.int .i64 a,.int .i64 s] []=some (.tup [.int .i64 (fir1 b a f s).1,.int .i64 (fir1 b a f s).2],[])
 |0,s,hf,hs=>by
  have:¬ 1<s:=by omega
  rw [u_Z2a_1]
  simp +contextual -implicitDefEqProofs (disch:=try exact X0d) only [↓reduceIte,go_sem,b_Z2a_1,fir1,this]
 |f+1,s,hf,hs=>by
  rw [u_Z2a_1]
  by_cases c1:1<s
  ·have ih:=Qjd b hb a ha f (s - 1) X0o X0o
   by_cases c2:a+s≤b.length
   ·have hl:=Qn2 b a (a+s) X0o
    have h1:=fun U hσ=>Wdb (cut8 b a (a+s)) X0o U hσ
    have h2:∀c,Qbm 1 (.sl (Qae b) c) (some (.int .i64 a)) (some (.int .i64 (a+s))) none=some (.sl (Qae (cut8 b a (a+s))) .no):=fun c=>Qim X0o
    cases c3:begS (cut8 b a (a+s)) with
    |true=>simp +contextual -implicitDefEqProofs (disch:=try exact X0d) only [↓reduceIte,go_sem,b_Z2a_1,fir1,c1,c2,c3,h1,h2]
    |false=>simp +contextual -implicitDefEqProofs (disch:=try exact X0d) only [↓reduceIte,go_sem,b_Z2a_1,fir1,c1,c2,c3,h1,h2,ih]
   ·simp +contextual -implicitDefEqProofs (disch:=try exact X0d) only [↓reduceIte,go_sem,b_Z2a_1,fir1,c1,c2,ih]
  ·simp +contextual -implicitDefEqProofs (disch:=try exact X0d) only [↓reduceIte,go_sem,b_Z2a_1,fir1,c1]
theorem Qmr (b:List UInt8) (hb:b.length≤1000000000) (a:Int) (ha:0≤a∧a<b.length):∀(f:Nat) (s:Int),5 - s=f→1≤s→
  l_Z2a_0 (Mi cx) 0 0 [.sl (Qae b) .no,.int .i64 a,.int .i64 s] []=some (.tup [.int .i64 (fir0 b a f s).1,.int .i64 (fir0 b a f s).2],[])
 |0,s,hf,hs=>by
  have c1:¬s≤4:=by omega
  have h3:=Qjd b hb a ha 3 3 X0o X0o
  rw [u_Z2a_0]
  simp +contextual -implicitDefEqProofs (disch:=try exact X0d) only [↓reduceIte,go_sem,b_Z2a_0,fir0,c1,h3]
 |f+1,s,hf,hs=>by
  have h3:=Qjd b hb a ha 3 3 X0o X0o
  have ih:=Qmr b hb a ha f (s+1) X0o X0o
  have c1:s≤4:=by omega
  rw [u_Z2a_0]
  by_cases c2:a+s≤b.length
  ·have hl:=Qn2 b a (a+s) X0o
   have h1:=fun U hσ=>Qn1 (cut8 b a (a+s)) X0o U hσ
   have h4:=fun U hσ=>Wet (cut8 b a (a+s)) X0o U hσ
   have h2:∀c,Qbm 1 (.sl (Qae b) c) (some (.int .i64 a)) (some (.int .i64 (a+s))) none=some (.sl (Qae (cut8 b a (a+s))) .no):=fun c=>Qim X0o
   cases c3:Qca (cut8 b a (a+s)) with
   |true=>simp +contextual -implicitDefEqProofs (disch:=try exact X0d) only [↓reduceIte,go_sem,b_Z2a_0,fir0,c1,c2,c3,h1,h2,h4]
   |false=>simp +contextual -implicitDefEqProofs (disch:=try exact X0d) only [↓reduceIte,go_sem,b_Z2a_0,fir0,c1,c2,c3,h1,h2,h4,ih]
  ·simp +contextual -implicitDefEqProofs (disch:=try exact X0d) only [↓reduceIte,go_sem,b_Z2a_0,fir0,c1,c2,h3]
theorem Whi (b:List UInt8) (hb:b.length≤1000000000) (a:Int) (ha:0≤a∧a<b.length) (U:Objs) (hσ:Wf U):E cx 77 [.sl (Qae b) .no,.int .i64 a] U=some (.tup [.int .i64 (firS b a).1,.int .i64 (firS b a).2],U):=by
 refine Qbe Qbb ?_ (by rw [Qag,Qdi];rfl) rfl U hσ
 have h:=Qmr b hb a ha 4 1 X0o X0o
 rw [e_Z2a]
 simp +contextual -implicitDefEqProofs (disch:=try exact X0d) only [↓reduceIte,go_sem,s_Z2a,h,firS]
theorem Qcj {n:Int} {x:UInt8} (h:0≤n∧n≤255):putB n=x↔n=x.toNat:=by
 constructor
 ·intro e
  have:=Qg2 h
  rw [e] at this
  omega
 ·intro e
  have:=Qg2 h
  exact UInt8.toNat_inj.1 X0o
def conB (y:UInt8):Bool:=decide (128≤y.toNat)&&decide (y.toNat≤191)
def secB (x y:UInt8):Bool:=
 decide ((if x.toNat=224 then 160 else if x.toNat=240 then 144 else 128)≤y.toNat)&&decide (y.toNat≤(if x.toNat=237 then 159 else if x.toNat=244 then 143 else 191))
theorem Qg3 {n:Int} : Qin n=true↔(0≤n∧n<1114112∧(n<55296∨57343<n)):=by
 unfold Qin
 simp only [Xac,Xcm,decide_eq_true_eq]
 constructor
 ·rintro ⟨⟨h1,h2⟩,h3⟩;exact ⟨h1,h2,h3⟩
 ·rintro ⟨h1,h2,h3⟩;exact ⟨⟨h1,h2⟩,h3⟩
theorem Qeq {y:UInt8} : conB y=true↔128≤y.toNat∧y.toNat≤191:=by
 unfold conB
 simp only [Xac,decide_eq_true_eq]
theorem Qkj {x y:UInt8} : secB x y=true↔(if x.toNat=224 then 160 else if x.toNat=240 then 144 else 128)≤y.toNat∧y.toNat≤(if x.toNat=237 then 159 else if x.toNat=244 then 143 else 191):=by
 unfold secB
 simp only [Xac,decide_eq_true_eq]
theorem Qe9 {b:List UInt8} : Qca b=true↔Qin (Qee b)=true∧putS (Qee b)=b:=by
 unfold Qca
 simp only [Xac,decide_eq_true_eq]
theorem Wk6 (x:UInt8):Qee [x]=x.toNat:=by
 unfold Qee Qld
 simp [Qn0]
theorem Wn0 (x y:UInt8):Qee [x,y]=64 * (x.toNat - 192)+y.toNat - 128:=by
 unfold Qee Qld
 simp [Qn0]
theorem Wn1 (x y z:UInt8):Qee [x,y,z]=64 * (64 * (x.toNat - 224)+y.toNat - 128)+z.toNat - 128:=by
 unfold Qee Qld
 simp [Qn0]
theorem Wn2 (x y z t:UInt8):Qee [x,y,z,t]=64 * (64 * (64 * (x.toNat - 240)+y.toNat - 128)+z.toNat - 128)+t.toNat - 128:=by
 unfold Qee Qld
 simp [Qn0]
theorem Wn3 {a x:UInt8} : [a]=[x]↔a=x:=by simp
theorem Wk7 (x:UInt8):Qca [x]=true↔x.toNat<128:=by
 have hx:=UInt8.toNat_lt x
 rw [Qe9,Wk6,Qg3]
 unfold putS
 constructor
 ·rintro ⟨h1,h2⟩
  split at h2
  ·omega
  ·split at h2
   ·simp at h2
   ·split at h2 <;> simp at h2
 ·intro h
  refine ⟨by omega,?_⟩
  rw [if_pos X0o,Wn3,Qcj X0o]
theorem Wk8 (x y:UInt8):Qca [x,y]=true↔194≤x.toNat∧x.toNat≤223∧conB y=true:=by
 have hx:=UInt8.toNat_lt x
 have hy:=UInt8.toNat_lt y
 rw [Qe9,Wn0,Qg3,Qeq]
 generalize hn:(64 * ((x.toNat:Int) - 192)+y.toNat - 128)=n
 unfold putS
 constructor
 ·rintro ⟨h1,h2⟩
  split at h2
  ·simp at h2
  ·split at h2
   ·simp only [Xcz,and_true] at h2
    rw [Qcj X0o,Qcj X0o] at h2
    omega
   ·split at h2 <;> simp at h2
 ·intro h
  refine ⟨by omega,?_⟩
  rw [if_neg X0o,if_pos X0o]
  simp only [Xcz,and_true]
  rw [Qcj X0o,Qcj X0o]
  omega
theorem Wk9 (x y z:UInt8):Qca [x,y,z]=true↔224≤x.toNat∧x.toNat≤239∧secB x y=true∧conB z=true:=by
 have hx:=UInt8.toNat_lt x
 have hy:=UInt8.toNat_lt y
 have hz:=UInt8.toNat_lt z
 rw [Qe9,Wn1,Qg3,Qeq,Qkj]
 generalize hn:(64 * (64 * ((x.toNat:Int) - 224)+y.toNat - 128)+z.toNat - 128)=n
 unfold putS
 constructor
 ·rintro ⟨h1,h2⟩
  split at h2
  ·simp at h2
  ·split at h2
   ·simp at h2
   ·split at h2
    ·simp only [Xcz,and_true] at h2
     rw [Qcj X0o,Qcj X0o,Qcj X0o] at h2
     refine ⟨by omega,by omega,⟨?_,?_⟩,by omega⟩ <;> (repeat' split) <;> omega
    ·simp at h2
 ·rintro ⟨h1,h2,h3,h4⟩
  have hs:(x.toNat=224→160≤y.toNat)∧(x.toNat=237→y.toNat≤159)∧128≤y.toNat∧y.toNat≤191:=by
   refine ⟨fun e => ?_,fun e => ?_,?_,?_⟩
   ·have:=h3.1;rw [if_pos e] at this;exact this
   ·have:=h3.2;rw [if_pos e] at this;exact this
   ·have:=h3.1;split at this <;> first|omega|(split at this <;> omega)
   ·have:=h3.2;split at this <;> first|omega|(split at this <;> omega)
  refine ⟨by omega,?_⟩
  rw [if_neg X0o,if_neg X0o,if_pos X0o]
  simp only [Xcz,and_true]
  rw [Qcj X0o,Qcj X0o,Qcj X0o]
  omega
theorem Wla (x y z t:UInt8):Qca [x,y,z,t]=true↔240≤x.toNat∧x.toNat≤244∧secB x y=true∧conB z=true∧conB t=true:=by
 have hx:=UInt8.toNat_lt x
 have hy:=UInt8.toNat_lt y
 have hz:=UInt8.toNat_lt z
 have ht:=UInt8.toNat_lt t
 rw [Qe9,Wn2,Qg3,Qeq,Qeq,Qkj]
 generalize hn:(64 * (64 * (64 * ((x.toNat:Int) - 240)+y.toNat - 128)+z.toNat - 128)+t.toNat - 128)=n
 unfold putS
 constructor
 ·rintro ⟨h1,h2⟩
  split at h2
  ·simp at h2
  ·split at h2
   ·simp at h2
   ·split at h2
    ·simp at h2
    ·simp only [Xcz,and_true] at h2
     rw [Qcj X0o,Qcj X0o,Qcj X0o,Qcj X0o] at h2
     refine ⟨by omega,by omega,⟨?_,?_⟩,by omega,by omega⟩ <;> (repeat' split) <;> omega
 ·rintro ⟨h1,h2,h3,h4,h5⟩
  have hs:(x.toNat=240→144≤y.toNat)∧(x.toNat=244→y.toNat≤143)∧128≤y.toNat∧y.toNat≤191:=by
   refine ⟨fun e => ?_,fun e => ?_,?_,?_⟩
   ·have:=h3.1;rw [if_neg X0o,if_pos e] at this;exact this
   ·have:=h3.2;rw [if_neg X0o,if_pos e] at this;exact this
   ·have:=h3.1;split at this <;> first|omega|(split at this <;> omega)
   ·have:=h3.2;split at this <;> first|omega|(split at this <;> omega)
  refine ⟨by omega,?_⟩
  rw [if_neg X0o,if_neg X0o,if_neg X0o]
  simp only [Xcz,and_true]
  rw [Qcj X0o,Qcj X0o,Qcj X0o,Qcj X0o]
  omega
def nxB:List UInt8→Option Nat
 |[]=>none
 |x::r=>
  if x.toNat<128 then some 1
  else if 194≤x.toNat∧x.toNat≤223 then (match r with|y::_=>if conB y then some 2 else none|[]=>none)
  else if 224≤x.toNat∧x.toNat≤239 then (match r with|y::z::_=>if secB x y&&conB z then some 3 else none|_=>none)
  else if 240≤x.toNat∧x.toNat≤244 then (match r with|y::z::t::_=>if secB x y&&conB z&&conB t then some 4 else none|_=>none)
  else none
theorem Qcw (x:UInt8) (r:List UInt8):nxB (x::r)=
  if x.toNat<128 then some 1
  else if 194≤x.toNat∧x.toNat≤223 then (match r with|y::_=>if conB y then some 2 else none|[]=>none)
  else if 224≤x.toNat∧x.toNat≤239 then (match r with|y::z::_=>if secB x y&&conB z then some 3 else none|_=>none)
  else if 240≤x.toNat∧x.toNat≤244 then (match r with|y::z::t::_=>if secB x y&&conB z&&conB t then some 4 else none|_=>none)
  else none:=rfl
theorem Qzm {r:List UInt8} {k:Nat} (h:nxB r=some k):1≤k∧k≤4∧k≤r.length:=by
 unfold nxB at h
 split at h
 ·cases h
 ·split at h
  ·cases h;simp
  ·split at h
   ·split at h
    ·split at h
     ·cases h;simp
     ·cases h
    ·cases h
   ·split at h
    ·split at h
     ·split at h
      ·cases h;simp
      ·cases h
     ·cases h
    ·split at h
     ·split at h
      ·split at h
       ·cases h;simp
       ·cases h
      ·cases h
     ·cases h
theorem nx1 (x:UInt8) (r:List UInt8):Qca [x]=true↔nxB (x::r)=some 1:=by
 rw [Wk7]
 constructor
 ·intro h;rw [Qcw,if_pos h]
 ·intro h
  rw [Qcw] at h
  split at h
  ·assumption
  ·exfalso
   split at h
   ·split at h
    ·split at h <;> cases h
    ·cases h
   ·split at h
    ·split at h
     ·split at h <;> cases h
     ·cases h
    ·split at h
     ·split at h
      ·split at h <;> cases h
      ·cases h
     ·cases h
theorem nx2 (x y:UInt8) (r:List UInt8):Qca [x,y]=true↔nxB (x::y::r)=some 2:=by
 rw [Wk8]
 constructor
 ·rintro ⟨h1,h2,h3⟩;rw [Qcw,if_neg X0o,if_pos ⟨h1,h2⟩];simp only [h3,if_true]
 ·intro h
  rw [Qcw] at h
  split at h
  ·cases h
  ·split at h
   ·rename_i h1
    simp only at h
    split at h
    ·exact ⟨h1.1,h1.2,by assumption⟩
    ·cases h
   ·exfalso
    split at h
    ·split at h
     ·split at h <;> cases h
     ·cases h
    ·split at h
     ·split at h
      ·split at h <;> cases h
      ·cases h
     ·cases h
theorem nx3 (x y z:UInt8) (r:List UInt8):Qca [x,y,z]=true↔nxB (x::y::z::r)=some 3:=by
 rw [Wk9]
 constructor
 ·rintro ⟨h1,h2,h3,h4⟩;rw [Qcw,if_neg X0o,if_neg X0o,if_pos ⟨h1,h2⟩];simp only [h3,h4,Xau,if_true]
 ·intro h
  rw [Qcw] at h
  split at h
  ·cases h
  ·split at h
   ·exfalso
    simp only at h
    split at h <;> cases h
   ·split at h
    ·rename_i h1
     simp only at h
     split at h
     ·rename_i h2
      simp only [Xac] at h2
      exact ⟨h1.1,h1.2,h2.1,h2.2⟩
     ·cases h
    ·exfalso
     split at h
     ·split at h
      ·split at h <;> cases h
      ·cases h
     ·cases h
theorem nx4 (x y z t:UInt8) (r:List UInt8):Qca [x,y,z,t]=true↔nxB (x::y::z::t::r)=some 4:=by
 rw [Wla]
 constructor
 ·rintro ⟨h1,h2,h3,h4,h5⟩;rw [Qcw,if_neg X0o,if_neg X0o,if_neg X0o,if_pos ⟨h1,h2⟩];simp only [h3,h4,h5,Xau,if_true]
 ·intro h
  rw [Qcw] at h
  split at h
  ·cases h
  ·split at h
   ·exfalso
    simp only at h
    split at h <;> cases h
   ·split at h
    ·exfalso
     simp only at h
     split at h <;> cases h
    ·split at h
     ·rename_i h1
      simp only at h
      split at h
      ·rename_i h2
       simp only [Xac] at h2
       exact ⟨h1.1,h1.2,h2.1.1,h2.1.2,h2.2⟩
      ·cases h
     ·cases h
theorem Qio (r:List UInt8) (k:Nat) (h1:1≤k) (h4:k≤4) (hk:k≤r.length):Qca (r.take k)=true↔nxB r=some k:=by
 match k,h1,h4,r,hk with
 |1,_,_,x::r,_=>exact nx1 x r
 |2,_,_,x::y::r,_=>exact nx2 x y r
 |3,_,_,x::y::z::r,_=>exact nx3 x y z r
 |4,_,_,x::y::z::t::r,_=>exact nx4 x y z t r
 |1,_,_,[],h=>simp at h
 |2,_,_,[],h=>simp at h
 |2,_,_,[_],h=>simp at h
 |3,_,_,[],h=>simp at h
 |3,_,_,[_],h=>simp at h
 |3,_,_,[_,_],h=>simp at h
 |4,_,_,[],h=>simp at h
 |4,_,_,[_],h=>simp at h
 |4,_,_,[_,_],h=>simp at h
 |4,_,_,[_,_,_],h=>simp at h
 |k+5,_,h,_,_=>omega
theorem Qkk (b:List UInt8) (a:Int) (k:Int) (ha:0≤a) (hk:0≤k):cut8 b a (a+k)=(b.drop a.toNat).take k.toNat:=by
 unfold cut8
 congr 1
 omega
def Whj (b:List UInt8) (a:Int) (p:Int×Int):Prop:=
 1≤p.2∧p.2≤4∧a+p.2≤b.length∧((nxB (b.drop a.toNat)=some p.2.toNat∧p.1=Qee ((b.drop a.toNat).take p.2.toNat))∨(nxB (b.drop a.toNat)=none∧p.1=65533))
section
variable (b:List UInt8) (a:Int) (ha:0≤a∧a<b.length)
include ha
theorem Qip (hn:nxB (b.drop a.toNat)=none):∀(f:Nat) (s:Int),s≤4→Whj b a (fir1 b a f s)
 |0,s,hs=>⟨by show (1:Int)≤1;decide,by show (1:Int)≤4;decide,by show a+1≤_;omega,.inr ⟨hn,rfl⟩⟩
 |f+1,s,hs=>by
  unfold fir1
  split
  ·split
   ·split
    ·exact ⟨by show 1≤s;omega,hs,by show a+s≤_;omega,.inr ⟨hn,rfl⟩⟩
    ·exact Qip hn f (s - 1) X0o
   ·exact Qip hn f (s - 1) X0o
  ·exact ⟨by decide,by decide,by show a+1≤_;omega,.inr ⟨hn,rfl⟩⟩
theorem Qzn (h:∀j:Int,1≤j→j≤4→a+j≤b.length→Qca (cut8 b a (a+j))=false):nxB (b.drop a.toNat)=none:=by
 cases hx:nxB (b.drop a.toNat) with
 |none=>rfl
 |some k=>
  have hl:=Qzm hx
  have h2:=(Qio _ k hl.1 hl.2.1 hl.2.2).2 hx
  rw [Xa5] at hl
  have h3:=h k X0o X0o X0o
  rw [Qkk b a k ha.1 X0o,Xbf,h2] at h3
  cases h3
theorem Qpv:∀(f:Nat) (s:Int),5 - s=f→1≤s→(∀j:Int,1≤j→j<s→a+j≤b.length→Qca (cut8 b a (a+j))=false)→Whj b a (fir0 b a f s)
 |0,s,hf,hs,hp=>by
  unfold fir0
  exact Qip b a ha (Qzn b a ha fun j h1 h2 h3=>hp j h1 X0o h3) 3 3 X0o
 |f+1,s,hf,hs,hp=>by
  unfold fir0
  rw [if_pos X0o]
  by_cases c2:a+s≤b.length
  ·rw [if_pos c2]
   cases c3:Qca (cut8 b a (a+s)) with
   |true=>
    rw [if_pos rfl]
    refine ⟨hs,by show s≤4;omega,c2,.inl ⟨?_,?_⟩⟩
    ·rw [Qkk b a s ha.1 X0o] at c3
     exact (Qio _ s.toNat X0o X0o (by rw [Xa5];omega)).1 c3
    ·show Qee _=_
     rw [Qkk b a s ha.1 X0o]
   |false=>
    rw [if_neg (by decide)]
    refine Qpv f (s+1) X0o X0o fun j h1 h2 h3 => ?_
    by_cases e:j=s
    ·rw [e];exact c3
    ·exact hp j h1 X0o h3
  ·rw [if_neg c2]
   refine Qip b a ha (Qzn b a ha fun j h1 h2 h3 => ?_) 3 3 X0o
   exact hp j h1 X0o h3
theorem Qzo:Whj b a (firS b a):=Qpv b a ha 4 1 X0o X0o fun j h1 h2=>by omega
end
def Qd0:Nat→List UInt8→Bool
 |0,r=>true
 |f+1,r=>if r.isEmpty then true else match nxB r with|none=>false|some k=>Qd0 f (r.drop k)
def Ql6:Nat→List UInt8→Bool
 |0,r=>true
 |f+1,r=>if r.isEmpty then true else if r.headD 0=0 then false else match nxB r with|none=>false|some k=>Ql6 f (r.drop k)
def nozB (b:List UInt8):Bool:=b.all fun x=>decide (x≠0)
def Qej (b:List UInt8):Bool:=nozB b&&Qd0 b.length b
theorem Qtm {y:UInt8} (h:conB y=true):decide (y≠0)=true:=by
 have:=Qeq.1 h
 rw [decide_eq_true_eq]
 rintro rfl
 exact absurd this.1 (by decide)
theorem Weu {x y:UInt8} (h:secB x y=true):decide (y≠0)=true:=by
 have:=(Qkj.1 h).1
 rw [decide_eq_true_eq]
 rintro rfl
 revert this
 split
 ·intro h;exact absurd h (by decide)
 ·split
  ·intro h;exact absurd h (by decide)
  ·intro h;exact absurd h (by decide)
theorem Wn4 {x:UInt8} (h:¬x.toNat<128):decide (x≠0)=true:=by
 rw [decide_eq_true_eq]
 rintro rfl
 exact h (by decide)
theorem Wdc {r:List UInt8} {k:Nat} (h:nxB r=some k):nozB r=(decide (r.headD 0≠0)&&nozB (r.drop k)):=by
 unfold nxB at h
 split at h
 ·cases h
 ·rename_i x r
  show (decide (x≠0)&&nozB r)=_
  split at h
  ·cases h;rfl
  ·rename_i hx
   have hxx:=Wn4 hx
   show (decide (x≠0)&&nozB r)=(decide (x≠0)&&_)
   rw [hxx,Xa0,Xa0]
   split at h
   ·split at h
    ·split at h
     ·rename_i y r' hy
      cases h
      show (decide (y≠0)&&nozB r')=nozB r'
      rw [Qtm hy,Xa0]
     ·cases h
    ·cases h
   ·split at h
    ·split at h
     ·split at h
      ·rename_i y z r' hy
       cases h
       simp only [Xac] at hy
       show (decide (y≠0)&&(decide (z≠0)&&nozB r'))=nozB r'
       rw [Weu hy.1,Qtm hy.2,Xa0,Xa0]
      ·cases h
     ·cases h
    ·split at h
     ·split at h
      ·split at h
       ·rename_i y z t r' hy
        cases h
        simp only [Xac] at hy
        show (decide (y≠0)&&(decide (z≠0)&&(decide (t≠0)&&nozB r')))=nozB r'
        rw [Weu hy.1.1,Qtm hy.1.2,Qtm hy.2,Xa0,Xa0,Xa0]
       ·cases h
      ·cases h
     ·cases h
theorem Qtn:∀(f:Nat) (r:List UInt8),r.length≤f→Ql6 f r=(nozB r&&Qd0 f r)
 |0,r,h=>by
  have:r=[]:=Xap.1 X0o
  subst this
  rfl
 |f+1,r,h=>by
  unfold Ql6 Qd0
  cases r with
  |nil=>rfl
  |cons x r=>
   show (if (x::r).headD 0=0 then false else match nxB (x::r) with|none=>false|some k=>Ql6 f ((x::r).drop k))=(nozB (x::r)&&match nxB (x::r) with|none=>false|some k=>Qd0 f ((x::r).drop k))
   cases hn:nxB (x::r) with
   |none=>
    simp only [Bool.and_false]
    split <;> rfl
   |some k=>
    have hl:=Qzm hn
    simp only
    rw [Wdc hn,Qtn f _ (by rw [Xa5,Xal];simp at h;omega)]
    by_cases hx:(x::r).headD 0=0
    ·rw [if_pos hx];simp only [hx];rfl
    ·rw [if_neg hx];simp only [ne_eq,hx,not_false_eq_true,decide_true,Xa0]
theorem Qn3:∀(f:Nat) (r:List UInt8),r.length≤f→Qd0 (f+1) r=Qd0 f r
 |0,r,h=>by
  have:r=[]:=Xap.1 X0o
  subst this
  rfl
 |f+1,r,h=>by
  show (if r.isEmpty then true else match nxB r with|none=>false|some k=>Qd0 (f+1) (r.drop k))=(if r.isEmpty then true else match nxB r with|none=>false|some k=>Qd0 f (r.drop k))
  split
  ·rfl
  ·cases hn:nxB r with
   |none=>rfl
   |some k=>
    have hl:=Qzm hn
    exact Qn3 f _ (by rw [Xa5];omega)
theorem Qms:∀(d f:Nat) (r:List UInt8),r.length≤f→Qd0 (f+d) r=Qd0 f r
 |0,f,r,h=>rfl
 |d+1,f,r,h=>by rw [show f+(d+1)=(f+d)+1 by omega,Qn3 _ _ X0o,Qms d f r h]
theorem Qzp (f:Nat) (r:List UInt8) (h:r.length≤f):Qd0 f r=Qd0 r.length r:=by
 obtain ⟨d,rfl⟩:=Nat.exists_eq_add_of_le h
 exact Qms d _ _ (Xai _)
theorem Qje {r:List UInt8} (h:r≠[]):Qd0 r.length r=match nxB r with|none=>false|some k=>Qd0 (r.drop k).length (r.drop k):=by
 cases r with
 |nil=>exact absurd rfl h
 |cons x r=>
  show (if (x::r).isEmpty then true else match nxB (x::r) with|none=>false|some k=>Qd0 r.length ((x::r).drop k))=_
  rw [if_neg (by simp)]
  cases hn:nxB (x::r) with
  |none=>rfl
  |some k=>
   have hl:=Qzm hn
   simp only
   exact Qzp _ _ (by rw [Xa5,Xal];omega)
theorem Whk {r:List UInt8} {k:Nat} (h:nxB r=some k):(Qee (r.take k)=0↔(r.headD 0=0)):=by
 have hl:=Qzm h
 have hw:=(Qio r k hl.1 hl.2.1 hl.2.2).2 h
 rw [Qe9] at hw
 match r,hl with
 |x::r,hl=>
  show _↔x=0
  by_cases hk:k=1
  ·subst hk
   show Qee [x]=0↔_
   rw [Wk6]
   constructor
   ·intro e;apply UInt8.toNat_inj.1;show x.toNat=0;omega
   ·intro e;rw [e];rfl
  ·constructor
   ·intro e
    rw [e] at hw
    exfalso
    have h2:(putS 0).length=((x::r).take k).length:=by rw [hw.2]
    rw [Xbh] at h2
    have h3:(putS 0).length=1:=rfl
    have:min k (x::r).length=1:=by omega
    omega
   ·intro e
    exfalso
    subst e
    have:nxB (0::r)=some 1:=by rw [Qcw,if_pos (by decide)]
    rw [this] at h
    cases h
    exact hk rfl
theorem Wlb {r:List UInt8} (h:nxB r=none) (k:Nat) (h1:1≤k) (h4:k≤4) (hk:k≤r.length):Qca (r.take k)=false:=by
 cases hw:Qca (r.take k) with
 |false=>rfl
 |true=>rw [(Qio r k h1 h4 hk).1 hw] at h;cases h
theorem Qmt (b:List UInt8) (hb:b.length≤1000000000):∀(f:Nat) (a:Int),0≤a∧a≤b.length→b.length - a<f→
  l_Z2b_0 (Mi cx) 0 0 [.sl (Qae b) .no,.int .i64 a] []=some (.bool (Ql6 f (b.drop a.toNat)),[])
 |0,a,ha,hf=>by omega
 |f+1,a,ha,hf=>by
  rw [u_Z2b_0]
  by_cases c1:a<b.length
  ·have hs:=Qzo b a ⟨ha.1,c1⟩
   have h1:=fun U hσ=>Whi b hb a ⟨ha.1,c1⟩ U hσ
   have hl:(b.drop a.toNat).length=b.length - a.toNat:=Xa5 ..
   have hne:(b.drop a.toNat).isEmpty=false:=by
    cases hq:b.drop a.toNat with
    |nil=>rw [hq] at hl;simp at hl;omega
    |cons x r=>rfl
   have hhd:(b.drop a.toNat).headD 0=b.getD a.toNat 0:=by
    rw [List.headD_eq_head?_getD,List.head?_drop,Xav]
   generalize hp:firS b a=p at hs h1
   obtain ⟨n,s⟩:=p
   obtain ⟨g1,g2,g3,g4⟩:=hs
   simp only at g1 g2 g3 g4 h1
   have hcut:=Qkk b a s ha.1 X0o
   have h2:∀c,Qbm 1 (.sl (Qae b) c) (some (.int .i64 a)) (some (.int .i64 (a+s))) none=some (.sl (Qae (cut8 b a (a+s))) .no):=fun c=>Qim X0o
   have hcl:=Qn2 b a (a+s) X0o
   have h3:=fun U hσ=>Qn1 (cut8 b a (a+s)) X0o U hσ
   have e0:Ql6 (f+1) (b.drop a.toNat)=if b.getD a.toNat 0=0 then false else match nxB (b.drop a.toNat) with|none=>false|some k=>Ql6 f ((b.drop a.toNat).drop k):=by
    show (if (b.drop a.toNat).isEmpty then true else if (b.drop a.toNat).headD 0=0 then false else _)=_
    rw [hne,hhd]
    rfl
   rw [e0]
   by_cases c2:b.getD a.toNat 0=0
   ·have c3:((b.getD a.toNat 0).toNat:Int)=0:=by rw [c2];rfl
    rw [if_pos c2]
    simp +contextual -implicitDefEqProofs (disch:=try exact X0d) only [↓reduceIte,go_sem,b_Z2b_0,h1,c1,c3]
   ·have c3:¬((b.getD a.toNat 0).toNat:Int)=0:=fun e=>c2 (UInt8.toNat_inj.1 (by show _=0;omega))
    rw [if_neg c2]
    rcases g4 with ⟨hn,hv⟩|⟨hn,hv⟩
    ·have hw:=(Qio _ s.toNat X0o X0o X0o).2 hn
     have ht:=Whk hn
     rw [hhd,←hv] at ht
     have c4:¬n=0:=fun e=>c2 (ht.1 e)
     rw [←hcut] at hw
     have ih:=Qmt b hb f (a+s) X0o X0o
     rw [hn]
     have e2:(b.drop a.toNat).drop s.toNat=b.drop (a+s).toNat:=by rw [Xcu];congr 1;omega
     simp only [e2]
     simp +contextual -implicitDefEqProofs (disch:=try exact X0d) only [↓reduceIte,go_sem,b_Z2b_0,h1,h2,h3,c1,c3,c4,hw,ih]
    ·have hw:=Wlb hn s.toNat X0o X0o X0o
     rw [←hcut] at hw
     rw [hn]
     simp +contextual -implicitDefEqProofs (disch:=try exact X0d) only [↓reduceIte,go_sem,b_Z2b_0,h1,h2,h3,c1,c3,hw]
  ·have e:b.drop a.toNat=[]:=Xdg X0o
   rw [e]
   have e2:Ql6 (f+1) []=true:=rfl
   rw [e2]
   simp +contextual -implicitDefEqProofs (disch:=try exact X0d) only [↓reduceIte,go_sem,b_Z2b_0,c1]
theorem Wlc (b:List UInt8) (hb:b.length≤1000000000) (U:Objs) (hσ:Wf U):E cx 56 [.sl (Qae b) .no] U=some (.bool (Qej b),U):=by
 refine Qbe Qbb ?_ (by rw [Qag,Qdi];rfl) rfl U hσ
 have h:=Qmt b hb (b.length+1) 0 X0o X0o
 have e:Ql6 (b.length+1) (b.drop (0:Int).toNat)=Qej b:=by
  show Ql6 _ b=_
  rw [Qtn _ _ X0o,Qn3 _ _ (Xai _)]
  rfl
 rw [e] at h
 rw [e_Z2b]
 simp +contextual -implicitDefEqProofs (disch:=try exact X0d) only [↓reduceIte,go_sem,s_Z2b,h]
abbrev Bww64:=BitVec 64
def hiB:Bww64:=9259542123273814144#64
def byB (x:UInt8):Bww64:=BitVec.ofNat 64 x.toNat
theorem Wev (x:UInt8):(byB x).toNat=x.toNat:=by
 have:=UInt8.toNat_lt x
 unfold byB
 rw [BitVec.toNat_ofNat];omega
theorem Qle (A:Bww64):BitVec.ofInt 64 (A.toNat:Int)=A:=by
 apply BitVec.eq_of_toNat_eq
 rw [BitVec.toNat_ofInt]
 have:=A.isLt
 omega
theorem Wew (A:Bww64):IntKind.u64.wrap (A.toNat:Int)=A.toNat:=by
 have:=A.isLt
 simp only [IntKind.wrap_u64];omega
theorem or_u (A Bww:Bww64) {e:EqK} : eB .or e (.int .u64 A.toNat) (.int .u64 Bww.toNat)=some (.int .u64 (A ||| Bww).toNat):=by
 show some (V.int .u64 (IntKind.u64.wrap (BitVec.ofInt 64 (A.toNat:Int) ||| BitVec.ofInt 64 (Bww.toNat:Int)).toNat))=_
 rw [Qle,Qle,Wew]
theorem Qvy (A:Bww64) {e:EqK} : eB .and e (.int .u64 A.toNat) (.int .u64 9259542123273814144)=some (.int .u64 (A &&& hiB).toNat):=by
 show some (V.int .u64 (IntKind.u64.wrap (BitVec.ofInt 64 (A.toNat:Int) &&& BitVec.ofInt 64 (9259542123273814144:Int)).toNat))=_
 rw [Qle,show BitVec.ofInt 64 (9259542123273814144:Int)=hiB from rfl,Wew]
theorem Wld (x:UInt8) {U:Objs} : eC U (.toInt .u64) (.int .u8 x.toNat)=some (.int .u64 (byB x).toNat):=by
 have:=UInt8.toNat_lt x
 show some (V.int .u64 (IntKind.u64.wrap (x.toNat:Int)))=_
 rw [Wev]
 congr 2
 simp only [IntKind.wrap_u64];omega
theorem Qpw (x:UInt8) (k:Nat) (h:k=8∨k=16∨k=24∨k=32∨k=40∨k=48∨k=56) {e:EqK} : eB .shl e (.int .u64 (byB x).toNat) (.int .u64 k)=some (.int .u64 (byB x <<< k).toNat):=by
 have hx:=UInt8.toNat_lt x
 show (if (k:Int)<0 then none else some (V.int .u64 (IntKind.u64.wrap (((byB x).toNat:Int) * 2 ^ (min (k:Int).toNat 64)))))=_
 rw [if_neg X0o]
 congr 2
 rw [BitVec.toNat_shiftLeft,Nat.shiftLeft_eq,Wev]
 have e:(2:Int) ^ (min (k:Int).toNat 64)=((2 ^ k:Nat):Int):=by rcases h with rfl|rfl|rfl|rfl|rfl|rfl|rfl <;> rfl
 rw [e,←Int.natCast_mul]
 have e2:2 ^ 64=18446744073709551616:=rfl
 generalize x.toNat * 2 ^ k=y
 simp only [IntKind.wrap_u64]
 omega
def wdB (r:List UInt8):Bww64:=
 byB (r.getD 0 0) ||| byB (r.getD 1 0) <<< 8 ||| byB (r.getD 2 0) <<< 16 ||| byB (r.getD 3 0) <<< 24 ||| byB (r.getD 4 0) <<< 32 ||| byB (r.getD 5 0) <<< 40 ||| byB (r.getD 6 0) <<< 48 ||| byB (r.getD 7 0) <<< 56
def loB8 (r:List UInt8):Prop:=∀i,i<8→(r.getD i 0).toNat<128
theorem Wn5 (k:Nat) (h:k=0∨k=8∨k=16∨k=24∨k=32∨k=40∨k=48∨k=56):∀n:Fin 256,(BitVec.ofNat 64 n.val <<< k) &&& hiB=0#64↔n.val<128:=by
 rcases h with rfl|rfl|rfl|rfl|rfl|rfl|rfl|rfl <;> decide
theorem hi_x (x:UInt8) (k:Nat) (h:k=0∨k=8∨k=16∨k=24∨k=32∨k=40∨k=48∨k=56):(byB x <<< k) &&& hiB=0#64↔x.toNat<128:=Wn5 k h ⟨x.toNat,UInt8.toNat_lt x⟩
theorem Qiq (A Bww C:Bww64):(A ||| Bww) &&& C=(A &&& C) ||| (Bww &&& C):=by
 ext i hi
 simp only [BitVec.getElem_and,BitVec.getElem_or]
 cases A[i] <;> cases Bww[i] <;> cases C[i] <;> rfl
theorem or_z (A Bww:Bww64):A ||| Bww=0#64↔A=0#64∧Bww=0#64:=by
 constructor
 ·intro h
  have key:∀i (hi:i<64),A[i]=false∧Bww[i]=false:=fun i hi=>by
   have h2:(A ||| Bww)[i]=(0#64)[i]:=by rw [h]
   simp only [BitVec.getElem_or,BitVec.getElem_zero,Bool.or_eq_false_iff] at h2
   exact h2
  constructor
  ·ext i hi;rw [(key i hi).1,BitVec.getElem_zero]
  ·ext i hi;rw [(key i hi).2,BitVec.getElem_zero]
 ·rintro ⟨rfl,rfl⟩;rfl
theorem Qrt (r:List UInt8):wdB r &&& hiB=0#64↔loB8 r:=by
 have h0:byB (r.getD 0 0)=byB (r.getD 0 0) <<< 0:=by simp
 unfold wdB
 rw [h0]
 simp only [Qiq,or_z]
 rw [hi_x _ 0 (by simp),hi_x _ 8 (by simp),hi_x _ 16 (by simp),hi_x _ 24 (by simp),hi_x _ 32 (by simp),hi_x _ 40 (by simp),hi_x _ 48 (by simp),hi_x _ 56 (by simp)]
 constructor
 ·rintro ⟨⟨⟨⟨⟨⟨⟨a0,a1⟩,a2⟩,a3⟩,a4⟩,a5⟩,a6⟩,a7⟩ i hi
  match i,hi with
  |0,_=>exact a0
  |1,_=>exact a1
  |2,_=>exact a2
  |3,_=>exact a3
  |4,_=>exact a4
  |5,_=>exact a5
  |6,_=>exact a6
  |7,_=>exact a7
 ·intro h
  exact ⟨⟨⟨⟨⟨⟨⟨h 0 X0o,h 1 X0o⟩,h 2 X0o⟩,h 3 X0o⟩,h 4 X0o⟩,h 5 X0o⟩,h 6 X0o⟩,h 7 X0o⟩
theorem Qlf (r:List UInt8) (hr:8≤r.length) (U:Objs) (hσ:Wf U):E cx 131 [.sl (Qae r) .no] U=some (.int .u64 (wdB r).toNat,U):=by
 have s1:∀x,eB .shl .no (.int .u64 (byB x).toNat) (.int .u64 8)=some (.int .u64 (byB x <<< 8).toNat):=fun x=>Qpw x 8 (by simp) (e:=.no)
 have s2:∀x,eB .shl .no (.int .u64 (byB x).toNat) (.int .u64 16)=some (.int .u64 (byB x <<< 16).toNat):=fun x=>Qpw x 16 (by simp) (e:=.no)
 have s3:∀x,eB .shl .no (.int .u64 (byB x).toNat) (.int .u64 24)=some (.int .u64 (byB x <<< 24).toNat):=fun x=>Qpw x 24 (by simp) (e:=.no)
 have s4:∀x,eB .shl .no (.int .u64 (byB x).toNat) (.int .u64 32)=some (.int .u64 (byB x <<< 32).toNat):=fun x=>Qpw x 32 (by simp) (e:=.no)
 have s5:∀x,eB .shl .no (.int .u64 (byB x).toNat) (.int .u64 40)=some (.int .u64 (byB x <<< 40).toNat):=fun x=>Qpw x 40 (by simp) (e:=.no)
 have s6:∀x,eB .shl .no (.int .u64 (byB x).toNat) (.int .u64 48)=some (.int .u64 (byB x <<< 48).toNat):=fun x=>Qpw x 48 (by simp) (e:=.no)
 have s7:∀x,eB .shl .no (.int .u64 (byB x).toNat) (.int .u64 56)=some (.int .u64 (byB x <<< 56).toNat):=fun x=>Qpw x 56 (by simp) (e:=.no)
 have h0:∀(k:Nat),k<8→eI 1 (.int .i64 k) (.sl (Qae r) .no)=some (.eptr [.int .u8 (r.getD k 0).toNat] 0):=fun k hk=>by
  rw [Qb8 X0o,Xbf]
 have i0:eI 1 (.int .i64 0) (.sl (Qae r) .no)=some (.eptr [.int .u8 (r.getD 0 0).toNat] 0):=h0 0 X0o
 have i1:eI 1 (.int .i64 1) (.sl (Qae r) .no)=some (.eptr [.int .u8 (r.getD 1 0).toNat] 0):=h0 1 X0o
 have i2:eI 1 (.int .i64 2) (.sl (Qae r) .no)=some (.eptr [.int .u8 (r.getD 2 0).toNat] 0):=h0 2 X0o
 have i3:eI 1 (.int .i64 3) (.sl (Qae r) .no)=some (.eptr [.int .u8 (r.getD 3 0).toNat] 0):=h0 3 X0o
 have i4:eI 1 (.int .i64 4) (.sl (Qae r) .no)=some (.eptr [.int .u8 (r.getD 4 0).toNat] 0):=h0 4 X0o
 have i5:eI 1 (.int .i64 5) (.sl (Qae r) .no)=some (.eptr [.int .u8 (r.getD 5 0).toNat] 0):=h0 5 X0o
 have i6:eI 1 (.int .i64 6) (.sl (Qae r) .no)=some (.eptr [.int .u8 (r.getD 6 0).toNat] 0):=h0 6 X0o
 have i7:eI 1 (.int .i64 7) (.sl (Qae r) .no)=some (.eptr [.int .u8 (r.getD 7 0).toNat] 0):=h0 7 X0o
 clear h0
 rw [e_Z1z]
 simp +contextual -implicitDefEqProofs (disch:=try exact X0d) only [↓reduceIte,go_sem,s_Z1z,Wld,Qpw,or_u,i0,i1,i2,i3,i4,i5,i6,i7,s1,s2,s3,s4,s5,s6,s7,wdB]
theorem Whl (r:List UInt8):((wdB r &&& hiB).toNat:Int)=0↔loB8 r:=by
 rw [←Qrt]
 constructor
 ·intro h;apply BitVec.eq_of_toNat_eq;show _=0;omega
 ·intro h;rw [h];rfl
theorem Wn6 (a b:List UInt8):(((wdB a ||| wdB b) &&& hiB).toNat:Int)=0↔loB8 a∧loB8 b:=by
 rw [←Qrt,←Qrt,←or_z,←Qiq]
 constructor
 ·intro h;apply BitVec.eq_of_toNat_eq;show _=0;omega
 ·intro h;rw [h];rfl
theorem Wle (a b c d:List UInt8):((((wdB a ||| wdB b) ||| (wdB c ||| wdB d)) &&& hiB).toNat:Int)=0↔(loB8 a∧loB8 b)∧(loB8 c∧loB8 d):=by
 rw [←Qrt,←Qrt,←Qrt,←Qrt,←or_z,←or_z,←or_z,←Qiq,←Qiq,←Qiq]
 constructor
 ·intro h;apply BitVec.eq_of_toNat_eq;show _=0;omega
 ·intro h;rw [h];rfl
def Qct (r:List UInt8):Bool:=Qd0 r.length r
theorem Qzq:Qct []=true:=rfl
theorem Qpx {x:UInt8} {r:List UInt8} (h:x.toNat<128):Qct (x::r)=Qct r:=by
 unfold Qct
 rw [Qje (by simp),Qcw,if_pos h]
 rfl
theorem Qkl:∀(k:Nat) (r:List UInt8),k≤r.length→(∀i,i<k→(r.getD i 0).toNat<128)→Qct (r.drop k)=Qct r
 |0,r,_,_=>rfl
 |k+1,[],h,_=>by simp at h
 |k+1,x::r,h,hx=>by
  have h0:x.toNat<128:=hx 0 X0o
  rw [Qpx h0]
  exact Qkl k r (by simpa using h) fun i hi=>by simpa using hx (i+1) X0o
theorem Qn4 {r:List UInt8} {k:Nat} (h:loB8 (r.drop k)):∀i,k≤i→i<k+8→(r.getD i 0).toNat<128:=by
 intro i h1 h2
 have:=h (i - k) X0o
 rw [Xav,Xa6,show k+(i - k)=i by omega] at this
 rwa [Xav]
theorem Whm {r:List UInt8} (h:8≤r.length) (h1:loB8 r):Qct (r.drop 8)=Qct r:=Qkl 8 r h h1
theorem Wdd {r:List UInt8} (h:16≤r.length) (h1:loB8 r) (h2:loB8 (r.drop 8)):Qct (r.drop 16)=Qct r:=Qkl 16 r h fun i hi=>by
 by_cases c:i<8
 ·exact h1 i c
 ·exact Qn4 h2 i X0o X0o
theorem Wde {r:List UInt8} (h:32≤r.length) (h1:loB8 r) (h2:loB8 (r.drop 8)) (h3:loB8 (r.drop 16)) (h4:loB8 (r.drop 24)):Qct (r.drop 32)=Qct r:=Qkl 32 r h fun i hi=>by
 by_cases c:i<8
 ·exact h1 i c
 ·by_cases c:i<16
  ·exact Qn4 h2 i X0o X0o
  ·by_cases c:i<24
   ·exact Qn4 h3 i X0o X0o
   ·exact Qn4 h4 i X0o X0o
theorem Qlg {r:List UInt8} {c:Cap} {k:Nat} (h:k≤r.length):Qbm 1 (.sl (Qae r) c) (some (.int .i64 k)) none none=some (.sl (Qae (r.drop k)) .no):=by
 have:=Qvu (f:=fun b:UInt8=>V.int .u8 b.toNat) (sz:=1) (l:=r) (c:=c) (fun _=>rfl) (k:=.i64) (a:=(k:Int)) X0o
 rwa [Xbf] at this
theorem Qto (r1:Rk):∀(f:Nat) (r:List UInt8),r.length<f→(∀s:List UInt8,s.length≤r.length→r1 [.sl (Qae s) .no] []=some (.bool (Qct s),[]))→
  l_Z1y_1 (Mi cx) 0 0 r1 0 [.sl (Qae r) .no] []=some (.bool (Qct r),[])
 |0,r,hf,hr=>by omega
 |f+1,r,hf,hr=>by
  have h0:=hr r (Xai _)
  rw [u_Z1y_1]
  by_cases c1:32<(r.length:Int)
  ·have w0:=fun U hσ=>Qlf r X0o U hσ
   have w1:=fun U hσ=>Qlf (r.drop 8) (by rw [Xa5];omega) U hσ
   have w2:=fun U hσ=>Qlf (r.drop 16) (by rw [Xa5];omega) U hσ
   have w3:=fun U hσ=>Qlf (r.drop 24) (by rw [Xa5];omega) U hσ
   have k8:Qbm 1 (.sl (Qae r) .no) (some (.int .i64 8)) none none=some (.sl (Qae (r.drop 8)) .no):=Qlg (k:=8) X0o
   have k16:Qbm 1 (.sl (Qae r) .no) (some (.int .i64 16)) none none=some (.sl (Qae (r.drop 16)) .no):=Qlg (k:=16) X0o
   have k24:Qbm 1 (.sl (Qae r) .no) (some (.int .i64 24)) none none=some (.sl (Qae (r.drop 24)) .no):=Qlg (k:=24) X0o
   have k32:Qbm 1 (.sl (Qae r) .no) (some (.int .i64 32)) none none=some (.sl (Qae (r.drop 32)) .no):=Qlg (k:=32) X0o
   have hh:=Wle r (r.drop 8) (r.drop 16) (r.drop 24)
   by_cases c2:((((wdB r ||| wdB (r.drop 8)) ||| (wdB (r.drop 16) ||| wdB (r.drop 24))) &&& hiB).toNat:Int)=0
   ·obtain ⟨⟨q1,q2⟩,q3,q4⟩:=hh.1 c2
    have ih:=Qto r1 f (r.drop 32) (by rw [Xa5];omega) (fun s hs=>hr s (by rw [Xa5] at hs;omega))
    rw [Wde X0o q1 q2 q3 q4] at ih
    clear hh hr
    simp +contextual -implicitDefEqProofs (disch:=try exact X0d) only [↓reduceIte,go_sem,b_Z1y_1,c1,c2,w0,w1,w2,w3,k8,k16,k24,k32,or_u,Qvy,ih]
   ·clear hh hr
    simp +contextual -implicitDefEqProofs (disch:=try exact X0d) only [↓reduceIte,go_sem,b_Z1y_1,j_Z1y_2,j_Z1y_0,c1,c2,w0,w1,w2,w3,k8,k16,k24,k32,or_u,Qvy,h0]
  ·clear hr
   simp +contextual -implicitDefEqProofs (disch:=try exact X0d) only [↓reduceIte,go_sem,b_Z1y_1,j_Z1y_2,j_Z1y_0,c1,h0]
def fstN (x:UInt8):Nat:=Qfz.getD x.toNat 0
def szN (x:UInt8):Nat:=if 194≤x.toNat∧x.toNat≤223 then 2 else if 224≤x.toNat∧x.toNat≤239 then 3 else if 240≤x.toNat∧x.toNat≤244 then 4 else 1
def loN (x:UInt8):Nat:=if x.toNat=224 then 160 else if x.toNat=240 then 144 else 128
def upN (x:UInt8):Nat:=if x.toNat=237 then 159 else if x.toNat=244 then 143 else 191
theorem Whn:∀n:Fin 256,128≤n.val→Qfz.getD n.val 0<256∧Qfz.getD n.val 0 % 8=(if 194≤n.val∧n.val≤223 then 2 else if 224≤n.val∧n.val≤239 then 3 else if 240≤n.val∧n.val≤244 then 4 else 1)∧Qfz.getD n.val 0 / 16<16∧
  (194≤n.val→n.val≤244→accN[Qfz.getD n.val 0 / 16]? = some (if n.val=224 then 160 else if n.val=240 then 144 else 128,if n.val=237 then 159 else if n.val=244 then 143 else 191)):=by decide
theorem Who:accN.length=16:=by decide
theorem Qzr:Qfz.length=256:=by decide
theorem Whp (x:UInt8):Qc8 256 1 (.int .u8 x.toNat) (.eptr Qil 0)=some (.eptr Qil x.toNat):=by
 have:=UInt8.toNat_lt x
 have h:index (.int .u8 x.toNat) 256=some x.toNat:=by simp [index];omega
 simp [Qc8,h]
theorem Wlf (x:UInt8):eL [] false 1 (.eptr Qil x.toNat)=some (.int .u8 (fstN x)):=by
 have hx:=UInt8.toNat_lt x
 have h:x.toNat<Qfz.length:=by rw [Qzr];exact hx
 show Ev.part false 1 Qil x.toNat=_
 unfold Ev.part Qil fstN
 rw [if_neg (by decide),if_pos rfl,Xan,Xae h,Xav,Xae h]
 rfl
theorem Wn7 (n:Nat) (h:n<256):eB .and .no (.int .u8 n) (.int .u8 7)=some (.int .u8 (n % 8:Nat)):=by
 have key:(BitVec.ofInt 8 (n:Int) &&& BitVec.ofInt 8 7).toNat=n % 8:=by
  rw [BitVec.toNat_and]
  have e1:(BitVec.ofInt 8 (n:Int)).toNat=n:=by simp [BitVec.toNat_ofInt];omega
  have e2:(BitVec.ofInt 8 7).toNat=2 ^ 3 - 1:=rfl
  rw [e1,e2,Nat.and_two_pow_sub_one_eq_mod]
 show some (V.int .u8 (IntKind.u8.wrap (BitVec.ofInt 8 (n:Int) &&& BitVec.ofInt 8 7).toNat))=_
 rw [key,w8 X0o]
theorem Wn8 (n:Nat):eB .shr .no (.int .u8 n) (.int .u64 4)=some (.int .u8 (n / 16:Nat)):=by
 show (if (4:Int)<0 then none else some (V.int .u8 ((n:Int).fdiv (2 ^ (min (4:Int).toNat 8)))))=_
 rw [if_neg (by decide)]
 have:((2:Int) ^ (min (4:Int).toNat 8))=16:=rfl
 rw [this,Int.fdiv_eq_ediv_of_nonneg _ (by decide)]
 rfl
theorem Wdf (n:Nat) (h:n<16):Qc8 16 2 (.int .u8 n) (.eptr accV 0)=some (.eptr accV (n * 2)):=by
 have h:index (.int .u8 n) 16=some n:=by simp [index];omega
 simp [Qc8,h]
theorem Wex:∀(l:List (Nat×Nat)) (n:Nat) (p:Nat×Nat),l[n]? = some p→Ev.part true 2 (l.flatMap fun p=>[V.int .u8 (p.1:Int),V.int .u8 (p.2:Int)]) (n * 2)=some (V.agg [.int .u8 p.1,.int .u8 p.2])
 |[],n,p,h=>by simp at h
 |q::l,0,p,h=>by
  simp at h
  subst h
  rfl
 |q::l,n+1,p,h=>by
  have ih:=Wex l n p (by simpa using h)
  unfold Ev.part at ih ⊢
  rw [if_pos rfl] at ih ⊢
  rw [Xbp,show (n+1) * 2=(n * 2+1)+1 by omega]
  show (if _≤_ then some (V.agg ((((l.flatMap _).drop (n * 2)).take 2).map V.ng)) else none)=_
  split at ih
  ·rename_i hle
   rw [if_pos (by simp;simp at hle;omega)]
   exact ih
  ·cases ih
theorem Whq {n lo hi:Nat} (h:accN[n]? = some (lo,hi)):eL [] true 2 (.eptr accV (n * 2))=some (.agg [.int .u8 lo,.int .u8 hi]):=Wex accN n (lo,hi) h
theorem Qck:(Mi cx).G.g 1 = .eptr Qil 0:=rfl
theorem Qfo:(Mi cx).G.g 2 = .eptr accV 0:=rfl
theorem Wlg {x y:UInt8} (h:194≤x.toNat∧x.toNat≤244):secB x y=true↔loN x≤y.toNat∧y.toNat≤upN x:=Qkj
theorem Qbi {r:List UInt8} (h:r≠[]) (hn:nxB r=none):Qct r=false:=by unfold Qct;rw [Qje h,hn]
theorem Qjf {r:List UInt8} {k:Nat} (h:r≠[]) (hn:nxB r=some k):Qct r=Qct (r.drop k):=by unfold Qct;rw [Qje h,hn]
theorem nx_2 {x y:UInt8} {r:List UInt8} (hx:szN x=2):nxB (x::y::r)=if 128≤y.toNat∧y.toNat≤191 then some 2 else none:=by
 have h:194≤x.toNat∧x.toNat≤223:=by unfold szN at hx;split at hx;assumption;(split at hx;cases hx;split at hx <;> cases hx)
 rw [Qcw,if_neg X0o,if_pos h]
 simp only [Qeq]
theorem Wn9 {x:UInt8} (hx:szN x=2):nxB [x]=none:=by
 have h:194≤x.toNat∧x.toNat≤223:=by unfold szN at hx;split at hx;assumption;(split at hx;cases hx;split at hx <;> cases hx)
 rw [Qcw,if_neg X0o,if_pos h]
theorem sz3 {x:UInt8} (hx:szN x=3):224≤x.toNat∧x.toNat≤239:=by unfold szN at hx;split at hx;cases hx;(split at hx;assumption;split at hx <;> cases hx)
theorem sz4 {x:UInt8} (hx:szN x=4):240≤x.toNat∧x.toNat≤244:=by unfold szN at hx;split at hx;cases hx;(split at hx;cases hx;split at hx;assumption;cases hx)
theorem nx_3 {x y z:UInt8} {r:List UInt8} (hx:szN x=3):nxB (x::y::z::r)=if (loN x≤y.toNat∧y.toNat≤upN x)∧128≤z.toNat∧z.toNat≤191 then some 3 else none:=by
 have h:=sz3 hx
 rw [Qcw,if_neg X0o,if_neg X0o,if_pos h]
 simp only [Xac,Qeq,Wlg (x:=x) (y:=y) ⟨by omega,by omega⟩]
theorem Woa {x:UInt8} {r:List UInt8} (hx:szN x=3) (hr:r.length<2):nxB (x::r)=none:=by
 have h:=sz3 hx
 rw [Qcw,if_neg X0o,if_neg X0o,if_pos h]
 match r,hr with
 |[],_=>rfl
 |[_],_=>rfl
theorem nx_4 {x y z t:UInt8} {r:List UInt8} (hx:szN x=4):nxB (x::y::z::t::r)=if ((loN x≤y.toNat∧y.toNat≤upN x)∧128≤z.toNat∧z.toNat≤191)∧128≤t.toNat∧t.toNat≤191 then some 4 else none:=by
 have h:=sz4 hx
 rw [Qcw,if_neg X0o,if_neg X0o,if_neg X0o,if_pos h]
 simp only [Xac,Qeq,Wlg (x:=x) (y:=y) ⟨by omega,by omega⟩]
theorem Wob {x:UInt8} {r:List UInt8} (hx:szN x=4) (hr:r.length<3):nxB (x::r)=none:=by
 have h:=sz4 hx
 rw [Qcw,if_neg X0o,if_neg X0o,if_neg X0o,if_pos h]
 match r,hr with
 |[],_=>rfl
 |[_],_=>rfl
 |[_,_],_=>rfl
theorem nx_1 {x:UInt8} {r:List UInt8} (hx:szN x=1) (h128:¬x.toNat<128):nxB (x::r)=none:=by
 unfold szN at hx
 rw [Qcw,if_neg h128]
 split at hx
 ·cases hx
 ·split at hx
  ·cases hx
  ·split at hx
   ·cases hx
   ·rw [if_neg (by assumption),if_neg (by assumption),if_neg (by assumption)]
theorem Qtp (x:UInt8):szN x=1∨szN x=2∨szN x=3∨szN x=4:=by unfold szN;split;simp;split;simp;split <;> simp
theorem Qn5:∀(f:Nat) (r:List UInt8) (c:Cap),r.length<f→(c = .fx∨c = .no)→
  l_Z1y_0 (Mi cx) 0 0 [.sl (Qae r) c] []=some (.bool (Qct r),[])
 |0,r,c,hf,_=>by omega
 |f+1,[],c,hf,hc=>by
  rw [u_Z1y_0]
  simp +contextual -implicitDefEqProofs (disch:=try exact X0d) only [↓reduceIte,go_sem,b_Z1y_0,Qae,Qzq]
 |f+1,x::r,c,hf,hc=>by
  have ihn:∀s:List UInt8,s.length≤r.length→l_Z1y_0 (Mi cx) 0 0 [.sl (Qae s) .no] []=some (.bool (Qct s),[]):=fun s hs=>Qn5 f s .no (by simp at hf;omega) (.inr rfl)
  have hl:(x::r).length=r.length+1:=rfl
  have i0:∀c,eI 1 (.int .i64 0) (.sl (Qae (x::r)) c)=some (.eptr [.int .u8 x.toNat] 0):=fun c=>Qb8 (by simp)
  have k1:∀c,Qbm 1 (.sl (Qae (x::r)) c) (some (.int .i64 1)) none none=some (.sl (Qae r) .no):=fun c=>Qlg (r:=x::r) (k:=1) (by simp)
  have hn:(V.sl (Qae (x::r)) c).ng = .sl (Qae (x::r)) .no:=rfl
  have c0:(0:Int)<((x::r).length:Nat):=by rw [hl];omega
  rw [u_Z1y_0]
  by_cases c1:x.toNat<128
  ·have c1':(x.toNat:Int)<128:=by omega
   have ih:=ihn r (Xai _)
   rw [Qpx c1]
   by_cases c2:8<(r.length:Int)
   ·have w0:=fun U hσ=>Qlf r X0o U hσ
    by_cases c3:((wdB r &&& hiB).toNat:Int)=0
    ·have q1:=(Whl r).1 c3
     have v8:=Whm X0o q1
     have k8:Qbm 1 (.sl (Qae r) .no) (some (.int .i64 8)) none none=some (.sl (Qae (r.drop 8)) .no):=Qlg (k:=8) X0o
     have ih8:=ihn (r.drop 8) (by rw [Xa5];omega)
     rw [v8] at ih8
     have l8:(r.drop 8).length=r.length - 8:=Xa5 ..
     generalize r.drop 8=s at v8 k8 ih8 l8
     by_cases c4:16<(s.length:Int)
     ·have w1:=fun U hσ=>Qlf s X0o U hσ
      have w2:=fun U hσ=>Qlf (s.drop 8) (by rw [Xa5];omega) U hσ
      have k8':Qbm 1 (.sl (Qae s) .no) (some (.int .i64 8)) none none=some (.sl (Qae (s.drop 8)) .no):=Qlg (k:=8) X0o
      have k16:Qbm 1 (.sl (Qae s) .no) (some (.int .i64 16)) none none=some (.sl (Qae (s.drop 16)) .no):=Qlg (k:=16) X0o
      by_cases c5:(((wdB s ||| wdB (s.drop 8)) &&& hiB).toNat:Int)=0
      ·obtain ⟨q2,q3⟩:=(Wn6 s (s.drop 8)).1 c5
       have v16:=Wdd X0o q2 q3
       have hv:=Qto (l_Z1y_0 (Mi cx) 0 0) ((s.drop 16).length+1) (s.drop 16) X0o (fun t ht=>ihn t (by rw [Xa5] at ht;omega))
       rw [v16,v8] at hv
       clear ihn q1 q2 q3
       simp +contextual -implicitDefEqProofs (disch:=try exact X0d) only [↓reduceIte,go_sem,b_Z1y_0,i0,k1,c0,c1',c2,c3,c4,c5,w0,w1,w2,k8,k8',k16,or_u,Qvy,hv]
      ·clear ihn q1
       simp +contextual -implicitDefEqProofs (disch:=try exact X0d) only [↓reduceIte,go_sem,b_Z1y_0,j_Z1y_2,j_Z1y_0,i0,k1,c0,c1',c2,c3,c4,c5,w0,w1,w2,k8,k8',k16,or_u,Qvy,ih8]
     ·clear ihn q1
      simp +contextual -implicitDefEqProofs (disch:=try exact X0d) only [↓reduceIte,go_sem,b_Z1y_0,j_Z1y_2,j_Z1y_0,i0,k1,c0,c1',c2,c3,c4,w0,k8,or_u,Qvy,ih8]
    ·clear ihn
     simp +contextual -implicitDefEqProofs (disch:=try exact X0d) only [↓reduceIte,go_sem,b_Z1y_0,j_Z1y_2,j_Z1y_0,i0,k1,c0,c1',c2,c3,w0,or_u,Qvy,ih]
   ·clear ihn
    simp +contextual -implicitDefEqProofs (disch:=try exact X0d) only [↓reduceIte,go_sem,b_Z1y_0,j_Z1y_2,j_Z1y_0,i0,k1,c0,c1',c2,ih]
  ·have c1':¬(x.toNat:Int)<128:=by omega
   obtain ⟨a1,a2,a3,a4⟩:=Whn ⟨x.toNat,UInt8.toNat_lt x⟩ (by show 128≤x.toNat;omega)
   have a2':fstN x % 8=szN x:=a2
   have T1:=Whp x
   have T2:=Wlf x
   have T3:=Wn7 (fstN x) a1
   rw [a2'] at T3
   have T4:=Wn8 (fstN x)
   have T5:=Wdf (fstN x / 16) a3
   obtain ⟨⟨lo,hi⟩,hp⟩:∃p,accN[fstN x / 16]? = some p:=⟨_,Xae (by rw [Who];exact a3)⟩
   have T6:=Whq hp
   have T7:∀a b:Int,stV [.cells [.int .u8 0,.int .u8 0]] 2 (.ptr 0 0) (.agg [.int .u8 a,.int .u8 b]) (.agg [.int .u8 a,.int .u8 b])=some (.undef,[.cells [.int .u8 a,.int .u8 b]]):=fun a b=>rfl
   have hlh:194≤x.toNat→x.toNat≤244→lo=loN x∧hi=upN x:=fun h1 h2=>by
    have:=a4 h1 h2
    rw [show accN[Qfz.getD x.toNat 0 / 16]? = some (lo,hi) from hp] at this
    cases this
    exact ⟨rfl,rfl⟩
   have hne:x::r≠[]:=by simp
   have hlu:128≤hi∧hi≤255∨True:=.inr trivial
   clear a1 a2 a3 a4 hp
   have tl:(szN x:Int)=1∨(szN x:Int)=2∨(szN x:Int)=3∨(szN x:Int)=4:=by have:=Qtp x;omega
   rcases Qtp x with e|e|e|e
   ·rw [e] at T3
    rw [Qbi hne (nx_1 e c1)]
    simp +contextual -implicitDefEqProofs (disch:=try exact X0d) only [↓reduceIte,go_sem,b_Z1y_0,j_Z1y_1,Qck,Qfo,i0,k1,c0,c1',T1,T2,T3,T4,T5,T6,T7]
   ·rw [e] at T3
    have hx2:194≤x.toNat∧x.toNat≤223:=by unfold szN at e;split at e;assumption;(split at e;cases e;split at e <;> cases e)
    obtain ⟨rfl,rfl⟩:=hlh X0o X0o
    have el:loN x=128:=by unfold loN;rw [if_neg X0o,if_neg X0o]
    have eu:upN x=191:=by unfold upN;rw [if_neg X0o,if_neg X0o]
    rw [el,eu] at T6
    match r with
    |[]=>
     rw [Qbi hne (Wn9 e)]
     simp +contextual -implicitDefEqProofs (disch:=try exact X0d) only [↓reduceIte,go_sem,b_Z1y_0,j_Z1y_1,Qck,Qfo,i0,k1,c0,c1',T1,T2,T3,T4,T5,T6,T7]
    |y::r=>
     have i1:eI 1 (.int .i64 1) (.sl (Qae (x::y::r)) .no)=some (.eptr [.int .u8 y.toNat] 0):=Qb8 (by simp;omega)
     have k2:∀c,Qbm 1 (.sl (Qae (x::y::r)) c) (some (.int .i64 2)) none none=some (.sl (Qae r) .no):=fun c=>Qlg (r:=x::y::r) (k:=2) (by simp)
     have d1:¬((x::y::r).length:Int)<2:=by simp;omega
     by_cases p1:(y.toNat:Int)<128
     ·rw [Qbi hne (by rw [nx_2 e,if_neg X0o])]
      simp +contextual -implicitDefEqProofs (disch:=try exact X0d) only [↓reduceIte,go_sem,b_Z1y_0,j_Z1y_1,Qck,Qfo,i0,i1,k1,k2,c0,c1',d1,p1,T1,T2,T3,T4,T5,T6,T7]
     ·by_cases p2:191<(y.toNat:Int)
      ·rw [Qbi hne (by rw [nx_2 e,if_neg X0o])]
       simp +contextual -implicitDefEqProofs (disch:=try exact X0d) only [↓reduceIte,go_sem,b_Z1y_0,j_Z1y_1,Qck,Qfo,i0,i1,k1,k2,c0,c1',d1,p1,p2,T1,T2,T3,T4,T5,T6,T7]
      ·have ih:=ihn r (by simp)
       rw [Qjf hne (by rw [nx_2 e,if_pos X0o])]
       clear ihn
       simp +contextual -implicitDefEqProofs (disch:=try exact X0d) only [↓reduceIte,go_sem,b_Z1y_0,j_Z1y_0,Qck,Qfo,i0,i1,k1,k2,c0,c1',d1,p1,p2,T1,T2,T3,T4,T5,T6,T7,ih]
   ·rw [e] at T3
    have hx2:=sz3 e
    obtain ⟨rfl,rfl⟩:=hlh X0o X0o
    by_cases hlen:r.length<2
    ·rw [Qbi hne (Woa e hlen)]
     have d1:((x::r).length:Int)<3:=by rw [hl];omega
     clear ihn
     simp +contextual -implicitDefEqProofs (disch:=try exact X0d) only [↓reduceIte,go_sem,b_Z1y_0,j_Z1y_1,Qck,Qfo,i0,k1,c0,c1',d1,T1,T2,T3,T4,T5,T6,T7]
    ·match r,hlen with
     |[],h=>exact absurd (by simp) h
     |[_],h=>exact absurd (by simp) h
     |y::z::r,_=>
      have i1:∀c,eI 1 (.int .i64 1) (.sl (Qae (x::y::z::r)) c)=some (.eptr [.int .u8 y.toNat] 0):=fun c=>Qb8 (by simp;omega)
      have i2:∀c,eI 1 (.int .i64 2) (.sl (Qae (x::y::z::r)) c)=some (.eptr [.int .u8 z.toNat] 0):=fun c=>Qb8 (by simp;omega)
      have k2:∀c,Qbm 1 (.sl (Qae (x::y::z::r)) c) (some (.int .i64 3)) none none=some (.sl (Qae r) .no):=fun c=>Qlg (r:=x::y::z::r) (k:=3) (by simp)
      have d1:¬((x::y::z::r).length:Int)<3:=by simp;omega
      by_cases p0:(y.toNat:Int)<(loN x:Nat)
      ·rw [Qbi hne (by rw [nx_3 e,if_neg X0o])]
       clear ihn
       simp +contextual -implicitDefEqProofs (disch:=try exact X0d) only [↓reduceIte,go_sem,b_Z1y_0,j_Z1y_1,Qck,Qfo,i0,i1,i2,k1,k2,c0,c1',d1,p0,T1,T2,T3,T4,T5,T6,T7]
      ·skip
       by_cases p1:((upN x:Nat):Int)<(y.toNat:Int)
       ·rw [Qbi hne (by rw [nx_3 e,if_neg X0o])]
        clear ihn
        simp +contextual -implicitDefEqProofs (disch:=try exact X0d) only [↓reduceIte,go_sem,b_Z1y_0,j_Z1y_1,Qck,Qfo,i0,i1,i2,k1,k2,c0,c1',d1,p0,p1,T1,T2,T3,T4,T5,T6,T7]
       ·skip
        by_cases p2:(z.toNat:Int)<128
        ·rw [Qbi hne (by rw [nx_3 e,if_neg X0o])]
         clear ihn
         simp +contextual -implicitDefEqProofs (disch:=try exact X0d) only [↓reduceIte,go_sem,b_Z1y_0,j_Z1y_1,Qck,Qfo,i0,i1,i2,k1,k2,c0,c1',d1,p0,p1,p2,T1,T2,T3,T4,T5,T6,T7]
        ·skip
         by_cases p3:191<(z.toNat:Int)
         ·rw [Qbi hne (by rw [nx_3 e,if_neg X0o])]
          clear ihn
          simp +contextual -implicitDefEqProofs (disch:=try exact X0d) only [↓reduceIte,go_sem,b_Z1y_0,j_Z1y_1,Qck,Qfo,i0,i1,i2,k1,k2,c0,c1',d1,p0,p1,p2,p3,T1,T2,T3,T4,T5,T6,T7]
         ·skip
          have ih:=ihn r (by simp;omega)
          rw [Qjf hne (by rw [nx_3 e,if_pos X0o])]
          clear ihn
          simp +contextual -implicitDefEqProofs (disch:=try exact X0d) only [↓reduceIte,go_sem,b_Z1y_0,j_Z1y_0,Qck,Qfo,i0,i1,i2,k1,k2,c0,c1',d1,p0,p1,p2,p3,T1,T2,T3,T4,T5,T6,T7,ih]
   ·rw [e] at T3
    have hx2:=sz4 e
    obtain ⟨rfl,rfl⟩:=hlh X0o X0o
    by_cases hlen:r.length<3
    ·rw [Qbi hne (Wob e hlen)]
     have d1:((x::r).length:Int)<4:=by rw [hl];omega
     clear ihn
     simp +contextual -implicitDefEqProofs (disch:=try exact X0d) only [↓reduceIte,go_sem,b_Z1y_0,j_Z1y_1,Qck,Qfo,i0,k1,c0,c1',d1,T1,T2,T3,T4,T5,T6,T7]
    ·match r,hlen with
     |[],h=>exact absurd (by simp) h
     |[_],h=>exact absurd (by simp) h
     |[_,_],h=>exact absurd (by simp) h
     |y::z::t::r,_=>
      have i1:∀c,eI 1 (.int .i64 1) (.sl (Qae (x::y::z::t::r)) c)=some (.eptr [.int .u8 y.toNat] 0):=fun c=>Qb8 (by simp;omega)
      have i2:∀c,eI 1 (.int .i64 2) (.sl (Qae (x::y::z::t::r)) c)=some (.eptr [.int .u8 z.toNat] 0):=fun c=>Qb8 (by simp;omega)
      have i3:∀c,eI 1 (.int .i64 3) (.sl (Qae (x::y::z::t::r)) c)=some (.eptr [.int .u8 t.toNat] 0):=fun c=>Qb8 (by simp;omega)
      have k2:∀c,Qbm 1 (.sl (Qae (x::y::z::t::r)) c) (some (.int .i64 4)) none none=some (.sl (Qae r) .no):=fun c=>Qlg (r:=x::y::z::t::r) (k:=4) (by simp)
      have d1:¬((x::y::z::t::r).length:Int)<4:=by simp;omega
      by_cases p0:(y.toNat:Int)<(loN x:Nat)
      ·rw [Qbi hne (by rw [nx_4 e,if_neg X0o])]
       clear ihn
       simp +contextual -implicitDefEqProofs (disch:=try exact X0d) only [↓reduceIte,go_sem,b_Z1y_0,j_Z1y_1,Qck,Qfo,i0,i1,i2,i3,k1,k2,c0,c1',d1,p0,T1,T2,T3,T4,T5,T6,T7]
      ·skip
       by_cases p1:((upN x:Nat):Int)<(y.toNat:Int)
       ·rw [Qbi hne (by rw [nx_4 e,if_neg X0o])]
        clear ihn
        simp +contextual -implicitDefEqProofs (disch:=try exact X0d) only [↓reduceIte,go_sem,b_Z1y_0,j_Z1y_1,Qck,Qfo,i0,i1,i2,i3,k1,k2,c0,c1',d1,p0,p1,T1,T2,T3,T4,T5,T6,T7]
       ·skip
        by_cases p2:(z.toNat:Int)<128
        ·rw [Qbi hne (by rw [nx_4 e,if_neg X0o])]
         clear ihn
         simp +contextual -implicitDefEqProofs (disch:=try exact X0d) only [↓reduceIte,go_sem,b_Z1y_0,j_Z1y_1,Qck,Qfo,i0,i1,i2,i3,k1,k2,c0,c1',d1,p0,p1,p2,T1,T2,T3,T4,T5,T6,T7]
        ·skip
         by_cases p3:191<(z.toNat:Int)
         ·rw [Qbi hne (by rw [nx_4 e,if_neg X0o])]
          clear ihn
          simp +contextual -implicitDefEqProofs (disch:=try exact X0d) only [↓reduceIte,go_sem,b_Z1y_0,j_Z1y_1,Qck,Qfo,i0,i1,i2,i3,k1,k2,c0,c1',d1,p0,p1,p2,p3,T1,T2,T3,T4,T5,T6,T7]
         ·skip
          by_cases p4:(t.toNat:Int)<128
          ·rw [Qbi hne (by rw [nx_4 e,if_neg X0o])]
           clear ihn
           simp +contextual -implicitDefEqProofs (disch:=try exact X0d) only [↓reduceIte,go_sem,b_Z1y_0,j_Z1y_1,Qck,Qfo,i0,i1,i2,i3,k1,k2,c0,c1',d1,p0,p1,p2,p3,p4,T1,T2,T3,T4,T5,T6,T7]
          ·skip
           by_cases p5:191<(t.toNat:Int)
           ·rw [Qbi hne (by rw [nx_4 e,if_neg X0o])]
            clear ihn
            simp +contextual -implicitDefEqProofs (disch:=try exact X0d) only [↓reduceIte,go_sem,b_Z1y_0,j_Z1y_1,Qck,Qfo,i0,i1,i2,i3,k1,k2,c0,c1',d1,p0,p1,p2,p3,p4,p5,T1,T2,T3,T4,T5,T6,T7]
           ·skip
            have ih:=ihn r (by simp;omega)
            rw [Qjf hne (by rw [nx_4 e,if_pos X0o])]
            clear ihn
            simp +contextual -implicitDefEqProofs (disch:=try exact X0d) only [↓reduceIte,go_sem,b_Z1y_0,j_Z1y_0,Qck,Qfo,i0,i1,i2,i3,k1,k2,c0,c1',d1,p0,p1,p2,p3,p4,p5,T1,T2,T3,T4,T5,T6,T7,ih]
theorem Whr (r:List UInt8) (hr:r.length≤1000000000) (U:Objs) (hσ:Wf U):E cx 96 [.sl (Qae r) .no] U=some (.bool (Qct r),U):=by
 refine Qbe Qbb ?_ (by rw [Qag,Qdi];rfl) rfl U hσ
 have h:=Qn5 (r.length+1) r .no X0o (.inr rfl)
 have h':=Qn5 (r.length+1) r .fx X0o (.inl rfl)
 have hc:Qbm 1 (.sl (Qae r) .no) none (some (.int .i64 r.length)) (some (.int .i64 r.length))=some (.sl (Qae r) .fx):=by
  have e1:(Qae r).length=r.length:=Qpg
  have hb:bound (.int .i64 r.length) r.length=some r.length:=by simp [bound]
  have hall:(Qae r).all (fun y=>decide (y.cells.length=1))=true:=all_map (f:=fun b:UInt8=>V.int .u8 b.toNat) (fun _=>rfl)
  have hbs:bounds r.length none (some (.int .i64 r.length)) (some (.int .i64 r.length))=some (0,r.length,some r.length):=by
   simp only [bounds,hb,Xag,Xaa,Xad,Xbg]
   rfl
  simp only [Qbm,e1,hbs,Xaa,Xad,hall,if_true,Xb0,Xd8]
  rw [Xbl (by rw [e1];exact Xai _)]
 rw [e_Z1y]
 simp +contextual -implicitDefEqProofs (disch:=try exact X0d) only [↓reduceIte,go_sem,s_Z1y,hc,h,h']
theorem Wdg {b:List UInt8} {i:Nat} (h:i<b.length):nozB (b.drop i)=(decide (b.getD i 0≠0)&&nozB (b.drop (i+1))):=by
 rw [Xbn h,Xav,Xae h]
 rfl
theorem Qtq (b:List UInt8) (hb:b.length≤1000000000):∀(f:Nat) (i:Int),(b.length:Int) - i<f→0≤i∧i≤b.length→
  l_Z16_0 (Mi cx) 0 0 [.sl (Qae b) .no,.sl (Qae b) .no,.int .i64 b.length,.int .i64 i] []=some (.bool (nozB (b.drop i.toNat)&&Qct b),[])
 |0,i,hf,hi=>by omega
 |f+1,i,hf,hi=>by
  have hv:=fun U hσ=>Whr b hb U hσ
  rw [u_Z16_0]
  by_cases c1:i<b.length
  ·rw [Wdg (i:=i.toNat) X0o]
   have i0:eI 1 (.int .i64 i) (.sl (Qae b) .no)=some (.eptr [.int .u8 (b.getD i.toNat 0).toNat] 0):=Qb8 ⟨hi.1,c1⟩
   by_cases c2:b.getD i.toNat 0=0
   ·have c3:((b.getD i.toNat 0).toNat:Int)=0:=by rw [c2];rfl
    have e:decide (b.getD i.toNat 0≠0)=false:=by simp only [c2];rfl
    rw [e,Xbt,Xbt]
    simp +contextual -implicitDefEqProofs (disch:=try exact X0d) only [↓reduceIte,go_sem,b_Z16_0,i0,c1,c3]
   ·have c3:¬((b.getD i.toNat 0).toNat:Int)=0:=fun e=>c2 (UInt8.toNat_inj.1 (by show _=0;omega))
    have e:decide (b.getD i.toNat 0≠0)=true:=decide_eq_true c2
    have ih:=Qtq b hb f (i+1) X0o X0o
    rw [show (i+1).toNat=i.toNat+1 by omega] at ih
    rw [e,Xa0]
    simp +contextual -implicitDefEqProofs (disch:=try exact X0d) only [↓reduceIte,go_sem,b_Z16_0,i0,c1,c3,ih]
  ·have e:b.drop i.toNat=[]:=Xdg X0o
   rw [e]
   show _=some (V.bool (Qct b),[])
   simp +contextual -implicitDefEqProofs (disch:=try exact X0d) only [↓reduceIte,go_sem,b_Z16_0,c1,hv]
theorem Qvz (b:List UInt8) (hb:b.length≤1000000000) (U:Objs) (hσ:Wf U):E cx 72 [.sl (Qae b) .no] U=some (.bool (Qej b),U):=by
 refine Qbe Qbb ?_ (by rw [Qag,Qdi];rfl) rfl U hσ
 have h:=Qtq b hb (b.length+1) 0 X0o X0o
 have h':l_Z16_0 (Mi cx) 0 0 [.sl (Qae b) .no,.sl (Qae b) .no,.int .i64 b.length,.int .i64 0] []=some (.bool (Qej b),[]):=h
 rw [e_Z16]
 simp +contextual -implicitDefEqProofs (disch:=try exact X0d) only [↓reduceIte,go_sem,s_Z16,h']
end Go.Proofs.YtapnplljnpconaaGreatDoor
namespace Go.Proofs.YtapnplljnpconaaGreatDoor
open Go.ChangeShapes Go.WideShapes Go.ChangeAt Go.RowKit
theorem Tryz.ownKnob:ownKnob prog.godebug=none:=by kernel_rfl
theorem Tryz.laidOut:laidOutB prog=true:=by kernel_rfl
section
variable {Hww:Type} {enc:TypeId×Value→Hww} {P:Program}
theorem Qjx (hl:laidOutB P=true) {W W':World} {sp:Nat→Bool} : ∀(ts:List TypeId) (vs:List Value) (ds:List (DataW Hww)) (ps:List MemPlace),
  (∀t∈ts,P.readableRec t=true∧t<P.types.size)→DataW.TrodAll enc P W 0 (fun _=>true) true ts vs ds ps→(∀p∈ps,W.sameAt W' p)→(∀p∈ps,sp p.block=true)→
  DataW.TrodAll enc P W' 0 sp true ts vs ds ps
 |[],_,_,_,_,h,_,_=>by
  obtain ⟨rfl,rfl,rfl⟩:=trodAll_nil h
  exact trodAll_mk0
 |t::ts,_,_,_,ht,h,h1,h2=>by
  obtain ⟨v,vs',d,ds',p,q,rfl,rfl,rfl,hv,hr⟩:=trodAll_cons h
  have ht0:=ht t (by simp)
  exact trodAll_cons_mk (WideElems.Trod_stays hl ht0.1 ht0.2 hv (fun x hx=>h1 x (by simp [hx])) (fun x hx=>h2 x (by simp [hx])))
   (Qjx hl ts vs' ds' q (fun t h=>ht t (by simp [h])) hr (fun x hx=>h1 x (by simp [hx])) (fun x hx=>h2 x (by simp [hx])))
theorem Wdh {f:Func} {s:ChangeSpec} {tb:TypeId} {W W':World} {args:Array Value} {ds:List (DataW Hww)} {before:List MemPlace}
  (hl:laidOutB P=true) (ht:∀t∈f.params.toList,P.readableRec t=true∧t<P.types.size)
  (hW:DataW.Whole enc P f.params.toList s.vars false W args.toList ds [] before) (hv:s.vars=[]) (hr:f.resultTypes = #[tb]) (hb:P.underlying tb=some .bool)
  (hfn:s.fn Hww ds = { results:=[.lit (.bool true)],args:=ds }) (hbl:Below W.heap.size W W'):s.post enc P f false true false false W args (.bool true) W':=by
 have hlt:∀p∈before,p.block<W.heap.size:=fun p hp=>hW.lt p hp
 have hW0:=hW
 obtain ⟨p,q,hA,hV,hpq,hz,hn⟩:=hW
 rw [hv] at hV
 obtain ⟨_,rfl⟩:=trodVars_none hV
 simp only [Xbe] at hpq
 subst hpq
 have hfn':s.fn Hww (ds++[]) = { results:=[.lit (.bool true)],args:=ds } := by rw [Xbe];exact hfn
 have hold:∀x∈before,(fun b=>decide (b<W.heap.size)) x.block=true:=fun x hx=>by simpa using hlt x hx
 have keep:∀sp:Nat→Bool,(∀x∈before,sp x.block=true)→DataW.TrodAll enc P W' 0 sp true f.params.toList args.toList ds before:=fun sp hs=>
  Qjx hl _ _ _ _ ht hA (fun x hx=>hbl.same (hlt x hx)) hs
 have hres:∀(b:Nat) (sp:Nat→Bool) (hd:Bool),DataW.TrodAll enc P W' b sp hd f.resultTypes.toList ((Value.bool true).resultList f.resultTypes.size) (s.fn Hww (ds++[])).results []:=fun b sp hd=>by
  rw [hfn',hr];exact trodAll_mk1 (shut_bool hb true)
 refine ⟨ds,[],before,[],before,[],hW0,hres _ _ _,?_,?_,World.keptBut_mono (fun x hx=>⟨hx,Or.inr (Or.inl hx)⟩) (hbl.frame (· ∈ before)),fun h=>by cases h⟩
 ·rw [hfn'];exact keep _ hold
 ·rw [hv,hfn'];rfl
end
end Go.Proofs.YtapnplljnpconaaGreatDoor
namespace Go.Ev
open Go Go.ChangeShapes Go.WideShapes Go.RowKit
section
variable {Hww:Type} {enc:TypeId×Value→Hww} {P:Program} {w:World} {α:Type}
def Hv (P:Program) (t:TypeId) (d:DataW Hww):Prop:=∀k∈d.weights P t,k≤reachBytes
def Dec (enc:TypeId×Value→Hww) (P:Program) (w:World) (n:Nat) (t:TypeId) (v:α→List V) (Q:α→Prop):Prop:=
 ∀fuel,fuel≤n→∀cs y,DataW.trod enc P w 0 (fun _=>true) true fuel t cs=some y→Hv P t y.1→∃x:α,Reps (memOf w) noPlc cs (v x)∧Q x
def I64 (n:Int):Prop:=-9223372036854775808≤n∧n≤9223372036854775807
theorem Qhx {n:Nat} {t:TypeId} (ht:P.underlying t=some (.int .i64)):Dec enc P w n t (fun i=>[.int .i64 i]) I64:=by
 intro fuel _ cs y h _
 obtain ⟨i,rfl,_,hw⟩:=DataW.trod_int ht h
 exact ⟨i,Reps.cons (.int _ _) Reps.nil,show _∧_ by simpa [Lit.wf,IntKind.min,IntKind.max,IntKind.signed,IntKind.bits] using hw⟩
theorem Qtr {n:Nat} {t:TypeId} (ht:P.underlying t=some .bool):Dec enc P w n t (fun i=>[.bool i]) (fun _=>True):=by
 intro fuel _ cs y h _
 obtain ⟨i,rfl,_⟩:=DataW.trod_bool ht h
 exact ⟨i,Reps.cons (.bool _) Reps.nil,trivial⟩
theorem Qlh {n:Nat} {t:TypeId} (ht:P.underlying t=some .string):Dec enc P w n t (fun i=>[.str i]) (fun s=>s.length≤reachBytes):=by
 intro fuel _ cs y h hv
 obtain ⟨i,rfl,rfl,hw⟩:=DataW.trod_string ht h
 refine ⟨i.data.toList,Reps.cons (.str _ _ rfl) Reps.nil,hv _ ?_⟩
 simp [DataW.weights]
theorem Qjy {P:Program} : ∀ {ts:List TypeId} {ds:List (DataW Hww)} {i:Nat} {t:TypeId} {d:DataW Hww} {k:Nat},ts[i]? = some t→ds[i]? = some d→k∈d.weights P t→k∈DataW.weightsEach P ts ds
 |[],_,i,t,d,k,h,_,_=>by simp at h
 |_::_,[],i,t,d,k,_,h,_=>by simp at h
 |t0::ts,d0::ds,0,t,d,k,h1,h2,h3=>by
  simp at h1 h2
  subst h1 h2
  simp only [DataW.weightsEach]
  exact Xbv _ h3
 |t0::ts,d0::ds,i+1,t,d,k,h1,h2,h3=>by
  simp only [DataW.weightsEach]
  exact Xb5 _ (Qjy (i:=i) (by simpa using h1) (by simpa using h2) h3)
theorem Qli {P:Program} {e:TypeId} : ∀ {ds:List (DataW Hww)} {d:DataW Hww} {k:Nat},d∈ds→k∈d.weights P e→k∈DataW.weightsAll P e ds
 |[],d,k,h,_=>by cases h
 |d0::ds,d,k,h,h3=>by
  simp only [DataW.weightsAll]
  rcases Xay.1 h with rfl|h
  ·exact Xbv _ h3
  ·exact Xb5 _ (Qli h h3)
theorem Qfa {n:Nat} {t:TypeId} {fs:Array Field} {cs:List Value} {y:DataW Hww×List MemPlace} (ht:P.underlying t=some (.struct fs)) (h:DataW.trod enc P w 0 (fun _=>true) true n t cs=some y) (hv:Hv P t y.1):
  cs.length=P.cellsOf t∧∃m,n=m+1∧∀(i:Nat) (f:Field),fs[i]? = some f→∃z,DataW.trod enc P w 0 (fun _=>true) true m f.type ((cs.drop f.offset).take (P.cellsOf f.type))=some z∧Hv P f.type z.1:=by
 obtain ⟨xs,m,hm,rfl,hl,hx,hf⟩:=DataW.trod_struct ht h
 refine ⟨hl,m,hm,fun i f hi => ?_⟩
 have hi2:i<xs.length:=by rw [hx];exact (Xa7.1 hi).1
 refine ⟨xs[i],by rw [hf i f hi,Xae hi2],fun k hk=>hv k ?_⟩
 simp only [DataW.weights,ht]
 exact Qjy (i:=i) (by simp [hi]) (by simp [hi2]) hk
theorem Qcu {M:Mem} {Z:Plc} {cs:List Value} {a m k:Nat} {xs ys:List V} (hx:Reps M Z ((cs.drop a).take m) xs) (hy:Reps M Z ((cs.drop (a+m)).take k) ys):Reps M Z ((cs.drop a).take (m+k)) (xs++ys):=by
 have:(cs.drop a).take (m+k)=(cs.drop a).take m++(cs.drop (a+m)).take k:=by rw [List.take_add,Xcu]
 rw [this]
 exact hx.append hy
theorem Qg4 {M:Mem} {Z:Plc} {cs:List Value} {m:Nat} {xs:List V} (hl:cs.length=m) (hx:Reps M Z ((cs.drop 0).take m) xs):Reps M Z cs xs:=by
 rw [Xb0,Xbl X0o] at hx
 exact hx
theorem Qpy (b off j:Nat):(⟨b,off,none⟩:Addr).add j=⟨b,off+j,none⟩:=by
 by_cases h:j=0
 ·subst h;rfl
 ·simp [Addr.add,h]
theorem Qts {α:Type} (P:Nat→α→Prop):∀n,(∀i,i<n→∃x,P i x)→∃xs:List α,xs.length=n∧∀i x,xs[i]? = some x→P i x:=by
 intro n
 induction n with
 |zero=>intro _;exact ⟨[],rfl,fun i x hi=>by cases hi⟩
 |succ n ih=>
  intro h
  obtain ⟨xs,hl,hx⟩:=ih (fun i hi=>h i X0o)
  obtain ⟨y,hy⟩:=h n X0o
  refine ⟨xs++[y],by simp [hl],fun i x hi => ?_⟩
  by_cases e:i<xs.length
  ·rw [Xaz e] at hi;exact hx i x hi
  ·have h1:=(Xaf.1 hi).1
   have e2:i=n:=by simp at h1;omega
   subst e2
   rw [Xbu X0o,hl,Xc9] at hi
   cases hi
   exact hy
theorem Qlj {β:Type} {ls:List (List β)} {sz:Nat} (hs:∀l∈ls,l.length=sz) (h0:0<sz) (i:Nat):ls.flatten[i]? = (ls[i / sz]?).bind fun l=>l[i % sz]? := by
 induction ls generalizing i with
 |nil=>simp
 |cons l ls ih=>
  have hl:=hs l (Xaw ..)
  rw [Xdi]
  by_cases h:i<sz
  ·rw [Xaz X0o,Nat.div_eq_of_lt h,Nat.mod_eq_of_lt h]
   rfl
  ·have e1:i / sz=(i - sz) / sz+1:=by
    have:=Nat.sub_add_cancel (Nat.le_of_not_lt h)
    rw [←Nat.add_div_right _ h0,this]
   have e2:i % sz=(i - sz) % sz:=by
    have:=Nat.sub_add_cancel (Nat.le_of_not_lt h)
    rw [←Nat.add_mod_right (i - sz),this]
   rw [Xbu X0o,hl,ih (fun l' h'=>hs l' (Xax _ h')),e1,e2]
   rfl
theorem Qfb {n:Nat} {t e:TypeId} {f:α→V} {Q:α→Prop} {sz:Nat} (ht:P.underlying t=some (.slice e)) (hc:P.cellsOf e=sz) (h0:0<sz) (hbt:0<P.bytesOf e) (hf:∀x,(f x).cells.length=sz) (hd:Dec enc P w n e (fun x=>(f x).cells) Q):
  Dec enc P w (n+1) t (fun s=>[vSl f s]) (fun s=>s.l.length≤reachBytes∧∀x∈s.l,Q x):=by
 intro fuel hfu cs y h hv
 rcases DataW.trod_slice ht h with ⟨rfl,_⟩|⟨a,len,cap,elems,rest,m,rfl,rfl,rfl,_,hl,hm,hel,hi,hr,_⟩
 ·exact ⟨.nil,Reps.cons .nils Reps.nil,Xa1 _,fun x hx=>by cases hx⟩
 ·have key:∀i,i<len→∃x:α,(∃us:List Value,us.length=sz∧(∀j u,us[j]? = some u→w.cell? ((a.add (i * sz)).add j)=some u)∧Reps (memOf w) noPlc us (f x).cells)∧Q x:=by
   intro i hil
   have h1:=hi i hil
   rw [Xae X0o,hc] at h1
   obtain ⟨us,hu,h2⟩:=Xab.1 h1
   obtain ⟨_,hul,hat⟩:=World.cells?_some hu
   obtain ⟨x,hx,hq⟩:=hd m X0o us _ h2 (fun k hk=>hv k (by
    simp only [DataW.weights,ht]
    refine Xax _ (Xbv _ (Qli (List.mem_map_of_mem (Xd7 (l:=elems) (n:=i) X0o)) hk))))
   refine ⟨x,⟨us,hul,fun j u hj => ?_,hx⟩,hq⟩
   have hjl:j<sz:=by rw [←hul];exact (Xaf.1 hj).1
   rw [hat j hjl,hj]
  obtain ⟨xs,hxl,hx⟩:=Qts _ len key
  have hlenb:len≤reachBytes:=by
   have h3:(elems.length+rest.length) * P.bytesOf e≤reachBytes:=hv _ (by
    simp only [DataW.weights,ht,Xao]
    exact Xaw ..)
   have h4:elems.length+rest.length≤(elems.length+rest.length) * P.bytesOf e:=Nat.le_mul_of_pos_right _ hbt
   omega
  refine ⟨.row xs,Reps.cons ?_ Reps.nil,by show xs.length≤_;omega,fun x hxm => ?_⟩
  ·show Rep (memOf w) noPlc (.slice (some a) len cap) (.sl (xs.map f) .no)
   by_cases hcap:cap=0
   ·obtain rfl:len=0:=by omega
    subst hcap
    obtain rfl:xs=[]:=Xap.1 hxl
    exact .sl0 a .no fun s e=>by cases e
   ·
    have hsome:∃u,w.cell? a=some u:=by
     have h1:∃us,w.cells? 0 (a.add 0) sz=some us:=by
      by_cases hlen:len=0
      ·obtain ⟨hr1,hr2⟩:=hr rfl
       obtain ⟨d0,hd0⟩:∃d,rest[0]? = some d:=⟨_,Xae X0o⟩
       have h1:=hr2 0 X0o
       rw [hd0,hc,hlen] at h1
       obtain ⟨us,hu,_⟩:=Xab.1 h1
       exact ⟨us,by simpa using hu⟩
      ·have h1:=hi 0 X0o
       rw [Xae X0o,hc] at h1
       obtain ⟨us,hu,_⟩:=Xab.1 h1
       exact ⟨us,by simpa using hu⟩
     obtain ⟨us,hu⟩:=h1
     obtain ⟨_,hul,hat⟩:=World.cells?_some hu
     have:=hat 0 h0
     rw [Xae X0o] at this
     exact ⟨_,by simpa [Addr.add] using this⟩
    obtain ⟨u0,hu0⟩:=hsome
    have hsp:a.spot=none:=by
     cases hsp:a.spot with
     |none=>rfl
     |some s=>
      exfalso
      unfold World.cell? at hu0
      rw [hsp] at hu0
      cases hb:w.heap[a.block]? with
      |none=>simp [hb] at hu0
      |some o=>cases o <;> simp [hb] at hu0
    obtain ⟨b,off,spot⟩:=a
    simp only at hsp
    subst hsp
    have hall:∀i,i<len→∃us:List Value,us.length=sz∧(∀j u,us[j]? = some u→w.cell? ⟨b,off+(i * sz+j),none⟩=some u)∧∃x,xs[i]? = some x∧Reps (memOf w) noPlc us (f x).cells:=by
     intro i hil
     obtain ⟨us,h1,h2,h3⟩:=(hx i _ (Xae X0o)).1
     refine ⟨us,h1,fun j u hj => ?_,_,Xae X0o,h3⟩
     have:=h2 j u hj
     rw [Qpy,Qpy,Xcp] at this
     exact this
    obtain ⟨uss,hul,hus⟩:=Qts _ len hall
    have hsz:∀l∈uss,l.length=sz:=fun l hl=>by
     obtain ⟨i,hi,e⟩:=List.getElem_of_mem hl
     exact (hus i l (by rw [Xae hi,e])).1
    have hfl:(xs.map f).flatMap V.cells=(xs.map fun x=>(f x).cells).flatten:=by rw [List.flatMap_def,Xce];rfl
    have hszx:∀l∈xs.map (fun x=>(f x).cells),l.length=sz:=fun l hl=>by
     obtain ⟨x,_,rfl⟩:=Xbc.1 hl
     exact hf x
    have hlen1:uss.flatten.length=len * sz:=by
     rw [List.length_flatten,Xbk (g:=fun _=>sz) hsz,List.map_const',List.sum_replicate_nat,hul]
    have hlen2:(xs.map fun x=>(f x).cells).flatten.length=len * sz:=by
     rw [List.length_flatten,Xbk (g:=fun _=>sz) hszx,List.map_const',List.sum_replicate_nat,Xao,hxl]
    have key:=Rep.sl (M:=memOf w) (Z:=noPlc) (xs.map f) .no b off cap sz uss.flatten
     (fun y hy=>by obtain ⟨x,_,rfl⟩:=Xbc.1 hy;exact hf x)
     (by rw [hfl,hlen1,hlen2])
     (fun i u hu=>by
      rw [Qlj hsz h0] at hu
      obtain ⟨l,hl1,hl2⟩:=Xab.1 hu
      have h1:=(hus _ l hl1).2.1 _ u hl2
      show w.cell? ⟨b,off+i,none⟩=_
      rw [show i / sz * sz+i % sz=i by rw [Xdl];exact Xdc i sz] at h1
      exact h1)
     (fun i u c hu hc'=>by
      rw [hfl,Qlj hszx h0] at hc'
      rw [Qlj hsz h0] at hu
      obtain ⟨l,hl1,hl2⟩:=Xab.1 hu
      obtain ⟨k,hk1,hk2⟩:=Xab.1 hc'
      obtain ⟨x,hxx,hrep⟩:=(hus _ l hl1).2.2
      rw [Xan,hxx] at hk1
      cases hk1
      exact hrep.2 _ u c hl2 hk2)
     (by rw [Xao,hxl];exact hl) (fun e=>by cases e)
    rw [Xao,hxl] at key
    exact key
  ·obtain ⟨k,hk,e⟩:=List.getElem_of_mem hxm
   have:=(hx k _ (Xae hk)).2
   rwa [e] at this
theorem Dec.mono {n m:Nat} {t:TypeId} {v:α→List V} {Q:α→Prop} (h:Dec enc P w n t v Q) (hm:m≤n):Dec enc P w m t v Q:=fun fuel hf cs y hy hv=>h fuel (Xca hf hm) cs y hy hv
end
end Go.Ev
namespace Go.Proofs.YtapnplljnpconaaGreatDoor
open Go Go.Ev Go.ChangeShapes Go.WideShapes Go.RowKit
section
variable {Hww:Type} {enc:TypeId×Value→Hww} {w:World}
abbrev DecP (enc:TypeId×Value→Hww) (w:World) (n:Nat) (t:TypeId) {α:Type} (v:α→List V) (Q:α→Prop):Prop:=Dec enc prog w n t v Q
def maxS (s:List UInt8):Prop:=s.length≤reachBytes
def SmOk {α:Type} (K:Sl α→Prop) (s:Sm α):Prop:=I64 s.kind∧I64 s.ns∧maxS s.pre∧maxS s.name∧I64 s.op∧maxS s.text∧I64 s.mark∧I64 s.a∧I64 s.b∧K s.of
def SlOk {α:Type} (K:α→Prop) (s:Sl α):Prop:=s.l.length≤reachBytes∧∀x∈s.l,K x
def CoOk {α:Type} (K:Sl α→Prop) (c:Co α):Prop:=SlOk (fun p:Cp α=>I64 p.comb∧SlOk (SmOk K) p.list) c.list
def CxOk:(n:Nat)→Cx n→Prop
 |0,x=>x.elim
 |n+1,c=>CoOk (SlOk (CxOk n)) c
theorem Wdi {n:Nat} : DecP enc w n 46 (fun x:Int×List UInt8×Bool=>[.int .i64 x.1,.str x.2.1,.bool x.2.2]) (fun x=>I64 x.1∧maxS x.2.1):=by
 intro fuel hfu cs y h hv
 obtain ⟨hl,m,rfl,hf⟩:=Qfa Tryz.underlying46 h hv
 obtain ⟨_,h0,v0⟩:=hf 0 _ rfl
 obtain ⟨_,h1,v1⟩:=hf 1 _ rfl
 obtain ⟨_,h2,v2⟩:=hf 2 _ rfl
 obtain ⟨x0,r0,q0⟩:=Qhx (n:=m) Tryz.underlying3 m (Xai _) _ _ h0 v0
 obtain ⟨x1,r1,q1⟩:=Qlh (n:=m) Tryz.underlying9 m (Xai _) _ _ h1 v1
 obtain ⟨x2,r2,q2⟩:=Qtr (n:=m) Tryz.underlying4 m (Xai _) _ _ h2 v2
 exact ⟨(x0,x1,x2),Qg4 (m:=3) hl (Qcu (m:=2) (Qcu (m:=1) r0 r1) r2),q0,q1⟩
theorem Wlh {n:Nat} : DecP enc w n 83 (fun x:Int×Int=>[.int .i64 x.1,.int .i64 x.2]) (fun x=>I64 x.1∧I64 x.2):=by
 intro fuel hfu cs y h hv
 obtain ⟨hl,m,rfl,hf⟩:=Qfa Tryz.underlying83 h hv
 obtain ⟨_,h0,v0⟩:=hf 0 _ rfl
 obtain ⟨_,h1,v1⟩:=hf 1 _ rfl
 obtain ⟨x0,r0,q0⟩:=Qhx (n:=m) Tryz.underlying3 m (Xai _) _ _ h0 v0
 obtain ⟨x1,r1,q1⟩:=Qhx (n:=m) Tryz.underlying3 m (Xai _) _ _ h1 v1
 exact ⟨(x0,x1),Qg4 (m:=2) hl (Qcu (m:=1) r0 r1),q0,q1⟩
section
variable {n:Nat} {α:Type} {v:α→V} {K:Sl α→Prop} (hd:DecP enc w n 51 (fun s=>[vSl v s]) K)
include hd
theorem Wli:DecP enc w (n+1) 96 (fun s=>(vSm v s).cells) (SmOk K):=by
 intro fuel hfu cs y h hv
 obtain ⟨hl,m,rfl,hf⟩:=Qfa Tryz.underlying96 h hv
 obtain ⟨_,h0,v0⟩:=hf 0 _ rfl
 obtain ⟨_,h1,v1⟩:=hf 1 _ rfl
 obtain ⟨_,h2,v2⟩:=hf 2 _ rfl
 obtain ⟨_,h3,v3⟩:=hf 3 _ rfl
 obtain ⟨_,h4,v4⟩:=hf 4 _ rfl
 obtain ⟨_,h5,v5⟩:=hf 5 _ rfl
 obtain ⟨_,h6,v6⟩:=hf 6 _ rfl
 obtain ⟨_,h7,v7⟩:=hf 7 _ rfl
 obtain ⟨x0,r0,q0⟩:=Qhx (n:=m) Tryz.underlying3 m (Xai _) _ _ h0 v0
 obtain ⟨x1,r1,q1⟩:=Qhx (n:=m) Tryz.underlying3 m (Xai _) _ _ h1 v1
 obtain ⟨x2,r2,q2⟩:=Qlh (n:=m) Tryz.underlying9 m (Xai _) _ _ h2 v2
 obtain ⟨x3,r3,q3⟩:=Qlh (n:=m) Tryz.underlying9 m (Xai _) _ _ h3 v3
 obtain ⟨x4,r4,q4⟩:=Wdi (n:=m) m (Xai _) _ _ h4 v4
 obtain ⟨x5,r5,q5⟩:=Qhx (n:=m) Tryz.underlying3 m (Xai _) _ _ h5 v5
 obtain ⟨x6,r6,q6⟩:=Wlh (n:=m) m (Xai _) _ _ h6 v6
 obtain ⟨x7,r7,q7⟩:=hd m X0o _ _ h7 v7
 exact ⟨⟨x0,x1,x2,x3,x4.1,x4.2.1,x4.2.2,x5,x6.1,x6.2,x7⟩,Qg4 (m:=11) hl (Qcu (m:=10) (Qcu (m:=8) (Qcu (m:=7) (Qcu (m:=4) (Qcu (m:=3) (Qcu (m:=2) (Qcu (m:=1) r0 r1) r2) r3) r4) r5) r6) r7),
  q0,q1,q2,q3,q4.1,q4.2,q5,q6.1,q6.2,q7⟩
theorem Wlj:DecP enc w (n+3) 94 (fun c=>(vCp v c).cells) (fun p=>I64 p.comb∧SlOk (SmOk K) p.list):=by
 intro fuel hfu cs y h hv
 obtain ⟨hl,m,rfl,hf⟩:=Qfa Tryz.underlying94 h hv
 obtain ⟨_,h0,v0⟩:=hf 0 _ rfl
 obtain ⟨_,h1,v1⟩:=hf 1 _ rfl
 obtain ⟨x0,r0,q0⟩:=Qhx (n:=m) Tryz.underlying3 m (Xai _) _ _ h0 v0
 obtain ⟨x1,r1,q1⟩:=Qfb (sz:=11) Tryz.underlying92 (by kernel_rfl) (by decide) (of_decide_eq_true (by kernel_rfl)) (fun _=>rfl) (Wli hd) m X0o _ _ h1 v1
 exact ⟨⟨x0,x1⟩,Qg4 (m:=2) hl (Qcu (m:=1) r0 r1),q0,q1⟩
theorem Wlk:DecP enc w (n+5) 91 (fun c=>(vCo v c).cells) (CoOk K):=by
 intro fuel hfu cs y h hv
 obtain ⟨hl,m,rfl,hf⟩:=Qfa Tryz.underlying91 h hv
 obtain ⟨_,h0,v0⟩:=hf 0 _ rfl
 obtain ⟨x0,r0,q0⟩:=Qfb (sz:=2) Tryz.underlying89 (by kernel_rfl) (by decide) (of_decide_eq_true (by kernel_rfl)) (fun _=>rfl) (Wlj hd) m X0o _ _ h0 v0
 exact ⟨⟨x0⟩,Qg4 (m:=1) hl r0,q0⟩
end
theorem Qpz:∀(n:Nat) (x:Cx n),(vCx n x).cells.length=1
 |0,x=>x.elim
 |n+1,x=>rfl
theorem Wey:∀n,DecP enc w n 91 (fun c=>(vCx n c).cells) (CxOk n)
 |0=>fun fuel hf cs y h _=>by
  obtain rfl:fuel=0:=by omega
  cases h
 |n+1=>by
  have ih:=Wey n
  have h1:DecP enc w (n+1) 51 (fun s=>[vSl (vCx n) s]) (SlOk (CxOk n)):=Qfb (sz:=1) Tryz.underlying51 (by kernel_rfl) (by decide) (of_decide_eq_true (by kernel_rfl)) (Qpz n) ih
  exact Dec.mono (Wlk h1) X0o
theorem Wdj (n:Nat):DecP enc w (n+1) 51 (fun s=>[vSl (vCx n) s]) (SlOk (CxOk n)):=Qfb (sz:=1) Tryz.underlying51 (by kernel_rfl) (by decide) (of_decide_eq_true (by kernel_rfl)) (Qpz n) (Wey n)
theorem Qzs (n:Nat):DecP enc w (n+2) 22 (fun s=>[vSl (vSl (vCx n)) s]) (SlOk (SlOk (CxOk n))):=
 Qfb (sz:=1) Tryz.underlying22 (by kernel_rfl) (by decide) (of_decide_eq_true (by kernel_rfl)) (fun x=>by rw [Qbw];rfl) (fun f hf cs y h hv=>by
  obtain ⟨x,hx⟩:=Wdj n f hf cs y h hv
  exact ⟨x,by show Reps _ _ cs (vSl (vCx n) x).cells;rw [Qbw];exact hx.1,hx.2⟩)
theorem Qtt (n:Nat):DecP enc w (n+1) 23 (fun s=>[vSl V.str s]) (SlOk maxS):=Qfb (sz:=1) Tryz.underlying23 (by kernel_rfl) (by decide) (of_decide_eq_true (by kernel_rfl)) (fun _=>rfl) (Qlh Tryz.underlying9)
structure Nms where
 has:Bool
 dflt:List UInt8
 pres:Sl (List UInt8)
 spaces:Sl (List UInt8)
@[reducible] def vNms (n:Nms):V:=.agg [.bool n.has,.str n.dflt,vSl V.str n.pres,vSl V.str n.spaces]
def Wll (n:Nms):Prop:=maxS n.dflt∧SlOk maxS n.pres∧SlOk maxS n.spaces
theorem Whs {n:Nat} : DecP enc w n 25 (fun x=>(vNms x).cells) Wll:=by
 intro fuel hfu cs y h hv
 obtain ⟨hl,m,rfl,hf⟩:=Qfa Tryz.underlying25 h hv
 obtain ⟨_,h0,v0⟩:=hf 0 _ rfl
 obtain ⟨_,h1,v1⟩:=hf 1 _ rfl
 obtain ⟨_,h2,v2⟩:=hf 2 _ rfl
 obtain ⟨_,h3,v3⟩:=hf 3 _ rfl
 obtain ⟨x0,r0,q0⟩:=Qtr (n:=m) Tryz.underlying4 m (Xai _) _ _ h0 v0
 obtain ⟨x1,r1,q1⟩:=Qlh (n:=m) Tryz.underlying9 m (Xai _) _ _ h1 v1
 obtain ⟨x2,r2,q2⟩:=(Qtt m).mono (Nat.le_succ m) m (Xai _) _ _ h2 v2
 obtain ⟨x3,r3,q3⟩:=(Qtt m).mono (Nat.le_succ m) m (Xai _) _ _ h3 v3
 exact ⟨⟨x0,x1,x2,x3⟩,Qg4 (m:=4) hl (Qcu (m:=3) (Qcu (m:=2) (Qcu (m:=1) r0 r1) r2) r3),q1,q2,q3⟩
theorem Qv0 {r:Reach} {b0:Nat} {v:Value} {d:DataW Hww} {p:List MemPlace} (hv:Value.okWide prog w r b0 22 v) (h:DataW.Trod enc prog w 0 (fun _=>true) true 22 v d p) (hz:Hv prog 22 d):
  ∃(n:Nat) (x:Sl (Sl (Cx n))),SlOk (SlOk (CxOk n)) x∧Rep (memOf w) noPlc v (vSl (vSl (vCx n)) x):=by
 obtain ⟨a,len,cap,rfl⟩:=okWide_slice Tryz.underlying22 hv
 obtain ⟨fuel,hf⟩:=h
 obtain ⟨x,hx,hq⟩:=Qzs fuel fuel X0o _ _ hf hz
 exact ⟨fuel,x,hq,hx.2 0 _ _ rfl rfl⟩
theorem Qv1 {r:Reach} {b0:Nat} {v:Value} {d:DataW Hww} {p:List MemPlace} (hv:Value.okWide prog w r b0 25 v) (h:DataW.Trod enc prog w 0 (fun _=>true) true 25 v d p) (hz:Hv prog 25 d):
  ∃x:Nms,Wll x∧Rep (memOf w) noPlc v (vNms x):=by
 obtain ⟨cs,rfl,_⟩:=okWide_struct Tryz.underlying25 hv
 obtain ⟨fuel,hf⟩:=h
 obtain ⟨x,hx,hq⟩:=Whs (n:=fuel) fuel X0o _ _ hf hz
 exact ⟨x,hq,Rep.agg_iff.2 hx⟩
end
end Go.Proofs.YtapnplljnpconaaGreatDoor
namespace Go.Ev
section
variable {α:Type} {f:α→V} {s:Sl α} {sz:Nat}
theorem Qcv {k:IntKind} {i:Int} {x:α} (h:s.l[i.toNat]? = some x) (hi:0≤i) (hf:(f x).cells.length=sz):eI sz (.int k i) (vSl f s)=some (.eptr (f x).cells 0):=by
 obtain ⟨hl,e⟩:=Xaf.1 h
 have h2:s.l=s.l.take i.toNat++x::s.l.drop (i.toNat+1):=by rw [←e];simp
 refine Qax h2 ?_ hf
 rw [Xbh];omega
end
abbrev Qbx:Sl (List UInt8)→V:=vSl V.str
theorem Qgk {n:Nat} {s:Sl (List UInt8)} : V.rb n (Qbx s)=true:=Qpr fun _ _=>rfl
attribute [go_sem] Qgk
end Go.Ev
namespace Go.Proofs.YtapnplljnpconaaGreatDoor
open Go.Ev
def errN (k:Int):V:=.ifc 98 (.eptr [.int .i64 k,.int .i64 0,.nili] 0)
theorem Qzt (k a:Int) (U:Objs) (hσ:Wf U):E cx 52 [.int .i64 k,.int .i64 a] U=some (.ifc 98 (.eptr [.int .i64 k,.int .i64 a,.nili] 0),U):=by
 rw [e_Z14]
 simp +contextual -implicitDefEqProofs (disch:=try exact X0d) only [↓reduceIte,go_sem,s_Z14]
theorem Qg5 (s:List UInt8) (hs:s.length≤1000000000) (U:Objs) (hσ:Wf U):E cx 50 [.str s] U=some (.bool (Qej s),U):=by
 have h:=fun U hσ=>Qvz s hs U hσ
 rw [e_Z1u]
 simp +contextual -implicitDefEqProofs (disch:=try exact X0d) only [↓reduceIte,go_sem,s_Z1u,h]
def Qir (s:List UInt8):Bool:=decide (¬s=[])&&Qej s
theorem Qp0 (s:List UInt8) (hs:s.length≤1000000000) (U:Objs) (hσ:Wf U):E cx 51 [.str s] U=some (.bool (Qir s),U):=by
 have h:=fun U hσ=>Qg5 s hs U hσ
 rw [e_Z1p]
 unfold Qir
 by_cases c:s=[]
 ·simp +contextual -implicitDefEqProofs (disch:=try exact X0d) only [↓reduceIte,go_sem,s_Z1p,h,c]
 ·simp +contextual -implicitDefEqProofs (disch:=try exact X0d) only [↓reduceIte,go_sem,s_Z1p,h,c]
theorem Qg6 (s:List UInt8) (hs:s.length≤1000000000) (U:Objs) (hσ:Wf U):E cx 37 [.str s] U=some (.bool (Qej s),U):=by
 have h:=fun U hσ=>Wlc s hs U hσ
 rw [e_Z3m]
 simp +contextual -implicitDefEqProofs (disch:=try exact X0d) only [↓reduceIte,go_sem,s_Z3m,h]
theorem Qp1 (s:List UInt8) (hs:s.length≤1000000000) (U:Objs) (hσ:Wf U):E cx 38 [.str s] U=some (.bool (Qir s),U):=by
 have h:=fun U hσ=>Qg6 s hs U hσ
 rw [e_Z3k]
 unfold Qir
 cases s with
 |nil=>simp +contextual -implicitDefEqProofs (disch:=try exact X0d) only [↓reduceIte,go_sem,s_Z3k,h]
 |cons x s=>
  have c:(0:Int)<((x::s).length:Nat):=by rw [Xal];omega
  simp +contextual -implicitDefEqProofs (disch:=try exact X0d) only [↓reduceIte,go_sem,s_Z3k,h,c]
def idxF (l:List (List UInt8)) (t:List UInt8):Nat→Nat→Int
 |0,i => -1
 |f+1,i=>if i<l.length then (if t=l.getD i [] then (i:Int) else idxF l t f (i+1)) else -1
def idxS (l:List (List UInt8)) (t:List UInt8):Int:=idxF l t (l.length+1) 0
def hasS (l:List (List UInt8)) (t:List UInt8):Bool:=l.any fun x=>decide (t=x)
theorem Qex {α:Type} {l:List α} {i:Nat} (h:i<l.length) (d:α):l[i]? = some (l.getD i d):=by
 rw [Xae h,Xav,Xae h];rfl
theorem Qp2 (s:Sl (List UInt8)) (t:List UInt8) (hs:s.l.length≤1000000000):∀(f i:Nat),s.l.length<f+i→i≤s.l.length→
  l_Z1x_0 (Mi cx) 0 0 [Qbx s,.str t,.int .i64 s.l.length,.int .i64 i] []=some (.int .i64 (idxF s.l t f i),[])
 |0,i,hf,hi=>by omega
 |f+1,i,hf,hi=>by
  rw [u_Z1x_0]
  unfold idxF
  by_cases c1:(i:Int)<s.l.length
  ·have hx:=Qcv (f:=V.str) (s:=s) (k:=.i64) (i:=(i:Int)) (Qex X0o []) X0o (sz:=1) rfl
   rw [Xbf] at hx
   have c1':i<s.l.length:=by omega
   by_cases c2:t=s.l.getD i []
   ·simp +contextual -implicitDefEqProofs (disch:=try exact X0d) only [↓reduceIte,go_sem,b_Z1x_0,c1,c1',c2,hx]
   ·have ih:=Qp2 s t hs f (i+1) X0o X0o
    rw [Xct] at ih
    simp +contextual -implicitDefEqProofs (disch:=try exact X0d) only [↓reduceIte,go_sem,b_Z1x_0,c1,c1',c2,hx,ih]
  ·have c1':¬i<s.l.length:=by omega
   simp +contextual -implicitDefEqProofs (disch:=try exact X0d) only [↓reduceIte,go_sem,b_Z1x_0,c1,c1']
theorem Qzu (s:Sl (List UInt8)) (t:List UInt8) (hs:s.l.length≤1000000000) (U:Objs) (hσ:Wf U):E cx 67 [Qbx s,.str t] U=some (.int .i64 (idxS s.l t),U):=by
 refine Qbe Qbb ?_ (by rw [Qag,Qgk];rfl) rfl U hσ
 have h:l_Z1x_0 (Mi cx) 0 0 [Qbx s,.str t,.int .i64 s.l.length,.int .i64 0] []=some (.int .i64 (idxS s.l t),[]):=Qp2 s t hs (s.l.length+1) 0 X0o X0o
 rw [e_Z1x]
 simp +contextual -implicitDefEqProofs (disch:=try exact X0d) only [↓reduceIte,go_sem,s_Z1x,h]
theorem Qtu (l:List (List UInt8)) (t:List UInt8):∀(f i:Nat),l.length<f+i→i≤l.length→(decide (0≤idxF l t f i)=hasS (l.drop i) t)
 |0,i,hf,hi=>by omega
 |f+1,i,hf,hi=>by
  unfold idxF
  split
  ·rename_i c1
   have e:l.drop i=l.getD i []::l.drop (i+1):=by
    rw [Xbn c1,Xav,Xae c1];rfl
   rw [e]
   show _=(decide (t=l.getD i [])||hasS (l.drop (i+1)) t)
   split
   ·rename_i c2
    rw [←c2]
    simp
   ·rename_i c2
    rw [Qtu l t f (i+1) X0o X0o,decide_eq_false c2,Xc2]
  ·have e:l.drop i=[]:=Xdg X0o
   rw [e];rfl
theorem Wht (l:List (List UInt8)) (t:List UInt8):decide (0≤idxS l t)=hasS l t:=Qtu l t _ 0 X0o X0o
theorem Qfc (s:Sl (List UInt8)) (t:List UInt8) (hs:s.l.length≤1000000000) (U:Objs) (hσ:Wf U):E cx 46 [Qbx s,.str t] U=some (.bool (hasS s.l t),U):=by
 have h:=fun U hσ=>Qzu s t hs U hσ
 rw [e_Z1v,←Wht]
 simp +contextual -implicitDefEqProofs (disch:=try exact X0d) only [↓reduceIte,go_sem,s_Z1v,h]
def okAt (n:Nms) (i:Nat):Bool:=Qir (n.pres.l.getD i []) && !hasS (n.pres.l.take i) (n.pres.l.getD i [])&&Qej (n.spaces.l.getD i [])
def okF (n:Nms):Nat→Nat→Bool
 |0,i=>true
 |f+1,i=>if i<n.pres.l.length then okAt n i&&okF n f (i+1) else true
def okN0 (n:Nms):Bool:=decide (n.pres.l.length=n.spaces.l.length)&&Qej n.dflt
def okN (n:Nms):Bool:=okN0 n&&okF n (n.pres.l.length+1) 0
def NmB (n:Nms):Prop:=n.dflt.length≤100∧n.pres.l.length≤30∧n.spaces.l.length≤30∧(∀x∈n.pres.l,x.length≤100)∧∀x∈n.spaces.l,x.length≤100
theorem Qn6 {l:List (List UInt8)} (h:∀x∈l,x.length≤100) (i:Nat):(l.getD i []).length≤1000000000:=by
 rw [Xav]
 cases hx:l[i]? with
 |none=>simp
 |some x=>
  have:=h x (Xat hx)
  simp only [Xbg];omega
def Qaa (n:Nms):List V:=[.bool n.has,.str n.dflt,Qbx n.pres,Qbx n.spaces]
theorem Qak {n:Nms} {k:Nat} : V.rbs k (Qaa n)=true:=by simp only [Qaa,Qag,Qi7,Qju,Qgk,Qby,Xau]
section
variable {n:Nms} (hn:NmB n)
include hn
theorem Qkm:∀(f i:Nat) (ok:Bool),n.pres.l.length<f+i→i≤n.pres.l.length→(ok=true→n.pres.l.length=n.spaces.l.length)→
  l_Z1i_0 (Mi cx) 0 1 [.ptr 0 0,.bool ok,Qbx n.pres,.int .i64 n.pres.l.length,.int .i64 i] [.cells (Qaa n)]=some (if (ok&&okF n f i)=true then .nili else errN 11,[])
 |0,i,ok,hf,hi,hl=>by omega
 |f+1,i,ok,hf,hi,hl=>by
  obtain ⟨b1,b2,b3,b4,b5⟩:=hn
  rw [u_Z1i_0]
  unfold okF
  by_cases c1:(i:Int)<n.pres.l.length
  ·have c1':i<n.pres.l.length:=by omega
   have hx:=Qcv (f:=V.str) (s:=n.pres) (k:=.i64) (i:=(i:Int)) (Qex X0o []) X0o (sz:=1) rfl
   rw [Xbf] at hx
   rw [if_pos c1']
   have h1:=fun U hσ=>Qp0 (n.pres.l.getD i []) (Qn6 b4 i) U hσ
   have h2:=fun U hσ=>Qfc (n.pres.take i) (n.pres.l.getD i []) (by rw [Sl.take_l,Xbh];omega) U hσ
   rw [Sl.take_l] at h2
   have h3:=fun U hσ=>Qg5 (n.spaces.l.getD i []) (Qn6 b5 i) U hσ
   have hc:=Qmo (f:=V.str) (s:=n.pres) (sz:=1) (fun _=>rfl) (k:=.i64) (b:=(i:Int)) X0o
   rw [Xbf] at hc
   cases ok with
   |false=>
    have ih:=Qkm f (i+1) false X0o X0o (by simp)
    rw [Xct] at ih
    unfold Qaa at ih
    simp +contextual -implicitDefEqProofs (disch:=try exact X0d) only [↓reduceIte,go_sem,b_Z1i_0,Qaa,c1,hx,ih]
   |true=>
    have hlen:=hl rfl
    have hy:=Qcv (f:=V.str) (s:=n.spaces) (k:=.i64) (i:=(i:Int)) (Qex X0o []) X0o (sz:=1) rfl
    rw [Xbf] at hy
    have iht:=Qkm f (i+1) true X0o X0o (fun _=>hlen)
    rw [Xct] at iht
    unfold Qaa at iht
    have ihf:=Qkm f (i+1) false X0o X0o (by simp)
    rw [Xct] at ihf
    unfold Qaa at ihf
    unfold okAt
    cases g1:Qir (n.pres.l.getD i []) with
    |false=>simp +contextual -implicitDefEqProofs (disch:=try exact X0d) only [↓reduceIte,go_sem,b_Z1i_0,Qaa,c1,hx,h1,g1,ihf]
    |true=>
     cases g2:hasS (n.pres.l.take i) (n.pres.l.getD i []) with
     |true=>simp +contextual -implicitDefEqProofs (disch:=try exact X0d) only [↓reduceIte,go_sem,b_Z1i_0,Qaa,c1,hx,h1,h2,hc,g1,g2,ihf]
     |false=>
      cases g3:Qej (n.spaces.l.getD i []) with
      |false=>simp +contextual -implicitDefEqProofs (disch:=try exact X0d) only [↓reduceIte,go_sem,b_Z1i_0,Qaa,c1,hx,hy,h1,h2,h3,hc,g1,g2,g3,ihf]
      |true=>simp +contextual -implicitDefEqProofs (disch:=try exact X0d) only [↓reduceIte,go_sem,b_Z1i_0,Qaa,c1,hx,hy,h1,h2,h3,hc,g1,g2,g3,iht]
  ·have c1':¬i<n.pres.l.length:=by omega
   rw [if_neg c1']
   have h4:=fun U hσ=>Qzt 11 0 U hσ
   cases ok with
   |false=>simp +contextual -implicitDefEqProofs (disch:=try exact X0d) only [↓reduceIte,go_sem,b_Z1i_0,Qaa,c1,h4,errN]
   |true=>simp +contextual -implicitDefEqProofs (disch:=try exact X0d) only [↓reduceIte,go_sem,b_Z1i_0,Qaa,c1,h4,errN]
theorem Qjz (U:Objs) (hσ:Wf U):E cx 29 [vNms n] U=some (if okN n=true then .nili else errN 11,U):=by
 refine Qbe Qbb ?_ (by rw [Qag,Qa0,show V.rbs 0 [.bool n.has,.str n.dflt,vSl V.str n.pres,vSl V.str n.spaces]=true from Qak];rfl) (by split <;> rfl) U hσ
 have h1:=fun U hσ=>Qg5 n.dflt (by have:=hn.1;omega) U hσ
 have key:=fun ok h=>Qkm hn (n.pres.l.length+1) 0 ok X0o X0o h
 rw [e_Z1i]
 unfold okN okN0
 by_cases c:(n.pres.l.length:Int)=n.spaces.l.length
 ·have c':n.pres.l.length=n.spaces.l.length:=by omega
  have k1:=key (Qej n.dflt) (fun _=>c')
  unfold Qaa at k1
  rw [c,show ((0:Nat):Int)=0 from rfl] at k1
  have e:(decide (n.pres.l.length=n.spaces.l.length)&&Qej n.dflt)=Qej n.dflt:=by rw [decide_eq_true c',Xa0]
  rw [e]
  simp +contextual -implicitDefEqProofs (disch:=try exact X0d) only [↓reduceIte,go_sem,s_Z1i,h1,c,k1]
 ·have c':¬n.pres.l.length=n.spaces.l.length:=by omega
  have k1:=key false (by simp)
  unfold Qaa at k1
  rw [show ((0:Nat):Int)=0 from rfl] at k1
  have e:(decide (n.pres.l.length=n.spaces.l.length)&&Qej n.dflt)=false:=by rw [decide_eq_false c',Xbt]
  rw [e]
  simp +contextual -implicitDefEqProofs (disch:=try exact X0d) only [↓reduceIte,go_sem,s_Z1i,h1,c,k1]
end
end Go.Proofs.YtapnplljnpconaaGreatDoor
namespace Go.Ev
section
variable {a b c d:List V} {H:Objs} {r:V}
theorem Qgl:Wf [.cells a,.cells b]=(V.rbs 2 a=true∧V.rbs 2 b=true):=by simp [Wf,O.rb]
theorem Qkn:Wf [.cells a,.cells b,.cells c]=(V.rbs 3 a=true∧V.rbs 3 b=true∧V.rbs 3 c=true):=by simp [Wf,O.rb]
theorem Whu:Wf [.cells a,.cells b,.cells c,.cells d]=(V.rbs 4 a=true∧V.rbs 4 b=true∧V.rbs 4 c=true∧V.rbs 4 d=true):=by simp [Wf,O.rb]
theorem Qru (h1:V.rbs 2 a=true) (h2:V.rbs 2 b=true):cuO 2 [.cells a,.cells b]=some [.cells a,.cells b]:=Qcz (U:=[.cells a,.cells b]) (by rw [Qgl];exact ⟨h1,h2⟩)
theorem Qn7 (h1:V.rbs 2 a=true) (h2:V.rbs 2 b=true):cuO 2 (.cells a :: .cells b::H)=some [.cells a,.cells b]:=Qew (U:=[.cells a,.cells b]) (H:=H) (by rw [Qgl];exact ⟨h1,h2⟩)
theorem Qzv (h1:V.rbs 3 a=true) (h2:V.rbs 3 b=true) (h3:V.rbs 3 c=true):cuO 3 (.cells a :: .cells b :: .cells c::H)=some [.cells a,.cells b,.cells c]:=Qew (U:=[.cells a,.cells b,.cells c]) (H:=H) (by rw [Qkn];exact ⟨h1,h2,h3⟩)
theorem Qgm (h1:V.rbs 2 a=true) (h2:V.rbs 2 b=true) (hr:r.rb 2=true):nK 2 (.cells a :: .cells b::H) r=some (r,[.cells a,.cells b]):=Qq5 (U:=[.cells a,.cells b]) (H:=H) (by rw [Qgl];exact ⟨h1,h2⟩) hr
theorem get2 {O1 O2:O} {cs:List V} {H:Objs} : Objs.get (O1::O2 :: .cells cs::H) 2=some cs:=rfl
theorem Wdk {M:Mach} {U:Objs} {g:FuncId} {x:V} : Qif M U (.fn g [] []) [x]=M.call g [x.ng] U:=rfl
end
attribute [go_sem] Qgl Qkn Whu Qru Qn7 Qzv Qgm get2 Wdk
end Go.Ev
namespace Go.Proofs.YtapnplljnpconaaGreatDoor
open Go.Ev
section
variable {α:Type} {v:α→V} (hv:∀n x,V.rb n (v x)=true)
def smC (v:α→V) (s:Sm α):List V:=[.int .i64 s.kind,.int .i64 s.ns,.str s.pre,.str s.name,.int .i64 s.op,.str s.text,.bool s.fold,.int .i64 s.mark,.int .i64 s.a,.int .i64 s.b,vSl v s.of]
include hv
theorem Qbd {s:Sm α} {n:Nat} : V.rbs n (smC v s)=true:=by
 simp only [smC,Qag,Qdh,Qju,Qi7,Qby,Qaj hv,Xau]
def Qcr (s:Sm α):Bool:=decide (s.ns=0)&&decide (s.pre=[])&&decide (s.name=[])&&(decide (s.op=0)&&decide (s.text=[])&&decide (s.fold=false))&&decide (s.mark=0)&&(decide (s.a=0)&&decide (s.b=0))&&decide ((s.of.l.length:Int)=0)
omit hv in
theorem Qgn {op:Int} {t:List UInt8} {f:Bool} : eB .eql (.agg [.i,.s,.b]) (.agg [.int .i64 op,.str t,.bool f]) (.agg [.int .i64 0,.str [],.bool false])=some (.bool (decide (op=0)&&decide (t=[])&&decide (f=false))):=by
 by_cases h1:op=0 <;> by_cases h2:t=[] <;> cases f <;> simp [eB,eqV,Qbg,Qdq,h1,h2]
omit hv in
theorem Qp3 {a b:Int} : eB .eql (.agg [.i,.i]) (.agg [.int .i64 a,.int .i64 b]) (.agg [.int .i64 0,.int .i64 0])=some (.bool (decide (a=0)&&decide (b=0))):=by
 by_cases h1:a=0 <;> by_cases h2:b=0 <;> simp [eB,eqV,Qbg,Qdq,h1,h2]
omit hv in
theorem Qf2 {s:Sm α} : Qan (smC v s)=true:=by simp only [smC,Qcb,Qdm,Qc9,Qgz,Qgf,Qc2,Xau]
omit hv in
theorem Qc6 {s:Sm α} : (smC v s).map V.ng=smC v s:=by simp only [smC,Xak,Xa8,Ql2,Qva,Qo7,Qaf]
omit hv in
omit hv in
theorem Qfd:∀(z xs:List V),z.length=xs.length→Qcp z 0 xs=xs
 |[],[],_=>rfl
 |[],_::_,h=>by simp at h
 |_::_,[],h=>by simp at h
 |c::cs,x::xs,h=>by
  show x::Qcp cs 0 xs=_
  rw [Qfd cs xs (by simpa using h)]
omit hv in
theorem Qc7 {U:Objs} {o n:Nat} {z ds:List V} (h:Objs.get U o=some z) (hz:z.length=n) (hd:ds.length=n) (hok:Qan ds=true) (hn:ds.map V.ng=ds):stV U n (.ptr o 0) (.agg ds) (.agg ds)=some (.undef,U.set o (.cells ds)):=by
 unfold stV
 simp only [h,Xaa,Xad,Qbv,hd,hz,Xb1,Xai,hok,and_self,if_true,hn]
 rw [Qfd z ds (by rw [hz,hd])]
omit hv in
theorem Qbf {U:Objs} {o n:Nat} {ds:List V} (h:Objs.get U o=some ds) (hd:ds.length=n) (hn:ds.map V.ng=ds):eL U true n (.ptr o 0)=some (.agg ds):=by
 show (Objs.get U o).bind _=_
 rw [h,Xad]
 unfold Ev.part
 rw [if_pos rfl,if_pos X0o,Xb0,Xbl X0o,hn]
omit hv in
theorem Qau {U:Objs} {ds:List V} (hok:Qan ds=true) (hn:ds.map V.ng=ds):boxV U (.agg ds)=some (.ptr U.length 0,U++[.cells ds]):=by
 rw [Wei,Qbv,if_pos hok,hn]
theorem Qlk (s r:Sm α) (g:FuncId) (hg:E cx g [.ptr 1 0] [.cells (smC v s),.cells (smC v s)]=some (.tup [],[.cells (smC v s),.cells (smC v r)])) (U:Objs) (hσ:Wf U):
  E cx 133 [.agg (smC v s),.fn g [] []] U=some (.bool (Qcr r),U):=by
 refine Qbe Qbb ?_ (by simp only [Qag,Qa0,Qbd hv];rfl) rfl U hσ
 have h2':stV [.cells (smC v s),.cells [.int .i64 0,.int .i64 0,.str [],.str [],.int .i64 0,.str [],.bool false,.int .i64 0,.int .i64 0,.int .i64 0,.nils]] 11 (.ptr 1 0) (.agg (smC v s)) (.agg (smC v s))=some (.undef,[.cells (smC v s),.cells (smC v s)]):=Qc7 rfl rfl rfl Qf2 Qc6
 have h3:eL [.cells (smC v s)] true 11 (.ptr 0 0)=some (.agg (smC v s)):=Qbf rfl rfl Qc6
 have h4:boxV [] (.agg (smC v s))=some (.ptr 0 0,[.cells (smC v s)]):=Qau Qf2 Qc6
 rw [e_Z1s]
 unfold Qcr
 unfold smC at h2' h3 h4 hg ⊢
 by_cases c1:r.ns=0
 case neg=>simp +contextual -implicitDefEqProofs (disch:=try exact X0d) only [↓reduceIte,go_sem,s_Z1s,h2',h3,h4,hg,c1,Qgn,Qp3]
 by_cases c2:r.pre=[]
 case neg=>simp +contextual -implicitDefEqProofs (disch:=try exact X0d) only [↓reduceIte,go_sem,s_Z1s,h2',h3,h4,hg,c1,c2,Qgn,Qp3]
 by_cases c3:r.name=[]
 case neg=>simp +contextual -implicitDefEqProofs (disch:=try exact X0d) only [↓reduceIte,go_sem,s_Z1s,h2',h3,h4,hg,c1,c2,c3,Qgn,Qp3]
 by_cases c4:(decide (r.op=0)&&decide (r.text=[])&&decide (r.fold=false))=true
 case neg=>simp +contextual -implicitDefEqProofs (disch:=try exact X0d) only [↓reduceIte,go_sem,s_Z1s,h2',h3,h4,hg,c1,c2,c3,c4,Qgn,Qp3]
 by_cases c5:r.mark=0
 case neg=>simp +contextual -implicitDefEqProofs (disch:=try exact X0d) only [↓reduceIte,go_sem,s_Z1s,h2',h3,h4,hg,c1,c2,c3,c4,c5,Qgn,Qp3]
 by_cases c6:(decide (r.a=0)&&decide (r.b=0))=true
 case neg=>simp +contextual -implicitDefEqProofs (disch:=try exact X0d) only [↓reduceIte,go_sem,s_Z1s,h2',h3,h4,hg,c1,c2,c3,c4,c5,c6,Qgn,Qp3]
 by_cases c7:(r.of.l.length:Int)=0
 case neg=>simp +contextual -implicitDefEqProofs (disch:=try exact X0d) only [↓reduceIte,go_sem,s_Z1s,h2',h3,h4,hg,c1,c2,c3,c4,c5,c6,c7,Qgn,Qp3]
 simp +contextual -implicitDefEqProofs (disch:=try exact X0d) only [↓reduceIte,go_sem,s_Z1s,h2',h3,h4,hg,c1,c2,c3,c4,c5,c6,c7,Qgn,Qp3]
@[reducible] def Qef (s:Sm α):Sm α:={ s with ns:=0,pre:=[] }
@[reducible] def Qfe (s:Sm α):Sm α:={ s with name:=[] }
@[reducible] def Qhg (s:Sm α):Sm α:={ s with of:=.nil }
@[reducible] def rOne (s:Sm α):Sm α:={ s with ns:=0,pre:=[],name:=[] }
@[reducible] def rTwo (s:Sm α):Sm α:={ s with ns:=0,pre:=[],name:=[],op:=0,text:=[],fold:=false,mark:=0 }
@[reducible] def Qn8 (s:Sm α):Sm α:={ s with of:=.nil,a:=0,b:=0 }
theorem Qn9 (A:List V) (hA:V.rbs 2 A=true) (s:Sm α):E cx 135 [.ptr 1 0] [.cells A,.cells (smC v s)]=some (.tup [],[.cells A,.cells (smC v (Qef s))]):=by
 have t1:stV [.cells A,.cells (smC v s)] 1 (.ptr 1 1) (.int .i64 0) (.int .i64 0)=some (.undef,[.cells A,.cells (smC v { s with ns:=0 })]):=rfl
 have t2:stV [.cells A,.cells (smC v { s with ns:=0 })] 1 (.ptr 1 2) (.str []) (.str [])=some (.undef,[.cells A,.cells (smC v (Qef s))]):=rfl
 have t3:=Qgm (H:=[]) (r:=.tup []) hA (Qbd hv (s:=Qef s) (n:=2)) rfl
 rw [e_Z1t]
 simp +contextual -implicitDefEqProofs (disch:=try exact X0d) only [↓reduceIte,go_sem,s_Z1t,t1,t2,t3]
theorem Qrv (A:List V) (hA:V.rbs 2 A=true) (s:Sm α):E cx 136 [.ptr 1 0] [.cells A,.cells (smC v s)]=some (.tup [],[.cells A,.cells (smC v (Qfe s))]):=by
 have t1:stV [.cells A,.cells (smC v s)] 1 (.ptr 1 3) (.str []) (.str [])=some (.undef,[.cells A,.cells (smC v (Qfe s))]):=rfl
 have t3:=Qgm (H:=[]) (r:=.tup []) hA (Qbd hv (s:=Qfe s) (n:=2)) rfl
 rw [e_Z1q]
 simp +contextual -implicitDefEqProofs (disch:=try exact X0d) only [↓reduceIte,go_sem,s_Z1q,t1,t3]
theorem Qzw (A:List V) (hA:V.rbs 2 A=true) (s:Sm α):E cx 144 [.ptr 1 0] [.cells A,.cells (smC v s)]=some (.tup [],[.cells A,.cells (smC v (Qhg s))]):=by
 have t1:stV [.cells A,.cells (smC v s)] 1 (.ptr 1 10) .nils .nils=some (.undef,[.cells A,.cells (smC v (Qhg s))]):=rfl
 have t3:=Qgm (H:=[]) (r:=.tup []) hA (Qbd hv (s:=Qhg s) (n:=2)) rfl
 rw [e_Z1o]
 simp +contextual -implicitDefEqProofs (disch:=try exact X0d) only [↓reduceIte,go_sem,s_Z1o,t1,t3]
theorem d_s1 (A:List V) (hA:V.rbs 2 A=true) (s:Sm α):E cx 134 [.ptr 1 0] [.cells A,.cells (smC v s)]=some (.tup [],[.cells A,.cells (smC v (rOne s))]):=by
 have t1:=Qn9 hv A hA s
 have t2:=Qrv hv A hA (Qef s)
 have t3:=Qgm (H:=[]) (r:=.tup []) hA (Qbd hv (s:=rOne s) (n:=2)) rfl
 rw [e_Zy_1]
 simp +contextual -implicitDefEqProofs (disch:=try exact X0d) only [↓reduceIte,go_sem,s_Zy_1,t1,t2,t3]
theorem d_s2 (A:List V) (hA:V.rbs 2 A=true) (s:Sm α):E cx 140 [.ptr 1 0] [.cells A,.cells (smC v s)]=some (.tup [],[.cells A,.cells (smC v (rTwo s))]):=by
 have t1:=Qn9 hv A hA s
 have t2:=Qrv hv A hA (Qef s)
 have t4:stV [.cells A,.cells (smC v (rOne s))] 3 (.ptr 1 4) (.agg [.int .i64 0,.str [],.bool false]) (.agg [.int .i64 0,.str [],.bool false])=some (.undef,[.cells A,.cells (smC v { rOne s with op:=0,text:=[],fold:=false })]):=rfl
 have t5:stV [.cells A,.cells (smC v { rOne s with op:=0,text:=[],fold:=false })] 1 (.ptr 1 7) (.int .i64 0) (.int .i64 0)=some (.undef,[.cells A,.cells (smC v (rTwo s))]):=rfl
 have t3:=Qgm (H:=[]) (r:=.tup []) hA (Qbd hv (s:=rTwo s) (n:=2)) rfl
 rw [e_Zy_2]
 simp +contextual -implicitDefEqProofs (disch:=try exact X0d) only [↓reduceIte,go_sem,s_Zy_2,t1,t2,t4,t5,t3]
theorem d_s3 (A:List V) (hA:V.rbs 2 A=true) (s:Sm α):E cx 141 [.ptr 1 0] [.cells A,.cells (smC v s)]=some (.tup [],[.cells A,.cells (smC v s)]):=by
 have t3:=Qgm (H:=[]) (r:=.tup []) hA (Qbd hv (s:=s) (n:=2)) rfl
 rw [e_Zy_3]
 simp +contextual -implicitDefEqProofs (disch:=try exact X0d) only [↓reduceIte,go_sem,s_Zy_3,t3]
theorem d_s4 (A:List V) (hA:V.rbs 2 A=true) (s:Sm α):E cx 143 [.ptr 1 0] [.cells A,.cells (smC v s)]=some (.tup [],[.cells A,.cells (smC v (Qn8 s))]):=by
 have t1:=Qzw hv A hA s
 have t4:stV [.cells A,.cells (smC v (Qhg s))] 2 (.ptr 1 8) (.agg [.int .i64 0,.int .i64 0]) (.agg [.int .i64 0,.int .i64 0])=some (.undef,[.cells A,.cells (smC v (Qn8 s))]):=rfl
 have t3:=Qgm (H:=[]) (r:=.tup []) hA (Qbd hv (s:=Qn8 s) (n:=2)) rfl
 rw [e_Zy_4]
 simp +contextual -implicitDefEqProofs (disch:=try exact X0d) only [↓reduceIte,go_sem,s_Zy_4,t1,t4,t3]
end
theorem Qtv {n:Nat} {xs:List (List UInt8)} (h:xs.length=n):Qfv n 1 false (.eptr (xs.map V.str) 0) none none=some (.sl (xs.map V.str) .no):=by
 have hc:∀(k off:Nat),off+k≤xs.length→chunks false 1 (xs.map V.str) k off=some (((xs.drop off).take k).map V.str):=by
  intro k
  induction k with
  |zero=>intro off _;simp [chunks]
  |succ k ih=>
   intro off ho
   have ho':off<xs.length:=by omega
   have e:Ev.part false 1 (xs.map V.str) off=some (V.str xs[off]):=by
    unfold Ev.part
    rw [if_neg (by decide),if_pos rfl,Xan,Xae ho']
    rfl
   unfold chunks
   rw [e,ih (off+1) X0o]
   rw [Xbn ho']
   rfl
 have hk:Qan (xs.map V.str)=true:=by unfold Qan;rw [Xda];exact Xbb.2 fun x _=>rfl
 have hb:bounds n none none none=some (0,n,none):=by simp [bounds]
 unfold Qfv
 simp only [hb,Xaa,Xad,Xd8,Xea,Xb1]
 rw [hc n 0 X0o]
 simp only [Xad,hk,if_true,Xb0]
 rw [←h,Xbx]
theorem Wdl:(Mi cx).G.g 3 = .eptr (Qci.map V.str) 0:=rfl
theorem Qv2:(Mi cx).G.g 4 = .eptr (Qbs.map V.str) 0:=rfl
def Qhh (t:List UInt8):Bool:=hasS Qci t
def Qoa (t:List UInt8):Bool:=hasS Qbs t
theorem Whv (t:List UInt8) (U:Objs) (hσ:Wf U):E cx 137 [.str t] U=some (.bool (Qhh t),U):=by
 have h1:Qfv 10 1 false (.eptr (Qci.map V.str) 0) none none=some (Qbx (.row Qci)):=Qtv rfl
 have h2:=fun U hσ=>Qfc (.row Qci) t (by decide) U hσ
 have h3:(V.eptr (Qci.map V.str) 0).ng = .eptr (Qci.map V.str) 0:=rfl
 rw [e_Z1m]
 unfold Qhh
 generalize hL:(Sl.row Qci)=L at h1 h2
 have h2':∀U,Wf U→E cx 46 [Qbx L,.str t] U=some (.bool (hasS Qci t),U):=by rw [←hL] at h2 ⊢; exact h2
 simp +contextual -implicitDefEqProofs (disch:=try exact X0d) only [↓reduceIte,go_sem,s_Z1m,Wdl,h1,h2',h3]
theorem Qzx (t:List UInt8) (U:Objs) (hσ:Wf U):E cx 138 [.str t] U=some (.bool (Qoa t),U):=by
 have h1:Qfv 8 1 false (.eptr (Qbs.map V.str) 0) none none=some (Qbx (.row Qbs)):=Qtv rfl
 have h2:=fun U hσ=>Qfc (.row Qbs) t (by decide) U hσ
 have h3:(V.eptr (Qbs.map V.str) 0).ng = .eptr (Qbs.map V.str) 0:=rfl
 rw [e_Z1j]
 unfold Qoa
 generalize hL:(Sl.row Qbs)=L at h1 h2
 have h2':∀U,Wf U→E cx 46 [Qbx L,.str t] U=some (.bool (hasS Qbs t),U):=by rw [←hL] at h2 ⊢; exact h2
 simp +contextual -implicitDefEqProofs (disch:=try exact X0d) only [↓reduceIte,go_sem,s_Z1j,Qv2,h1,h2',h3]
section
variable {α:Type} {v:α→V} (hv:∀n x,V.rb n (v x)=true) {n:Nms} (hn:NmB n)
def SmB (s:Sm α):Prop:=s.pre.length≤100∧s.name.length≤100∧s.text.length≤100
theorem ok_n {n:Nms} : Qan (Qaa n)=true:=by simp only [Qaa,Qcb,Qdm,Qgz,Qgf,Qc2,Xau]
theorem no_n {n:Nms} : (Qaa n).map V.ng=Qaa n:=by simp only [Qaa,Xak,Xa8,Qva,Qo7,Qaf]
def Qff (n:Nms) (s:Sm α):Bool:=if s.ns=3 then hasS n.pres.l s.pre else decide (0≤s.ns)&&decide (s.ns<3)&&decide (s.pre=[])
include hn hv
theorem Whw (s:Sm α) (U:Objs) (hσ:Wf U):E cx 132 [.agg (Qaa n),.agg (smC v s)] U=some (.bool (Qff n s),U):=by
 refine Qbe Qbb ?_ (by simp only [Qag,Qa0,Qbd hv,Qak];rfl) rfl U hσ
 have h1:boxV [] (.agg (Qaa n))=some (.ptr 0 0,[.cells (Qaa n)]):=Qau ok_n no_n
 have h2:boxV [.cells (Qaa n)] (.agg (smC v s))=some (.ptr 1 0,[.cells (Qaa n),.cells (smC v s)]):=Qau Qf2 Qc6
 have hw:Wf [.cells (Qaa n),.cells (smC v s)]:=by rw [Qgl];exact ⟨Qak,Qbd hv⟩
 have h3:=fun U hσ=>Qfc n.pres s.pre (by have:=hn.2.1;omega) U hσ
 rw [e_Z13]
 unfold Qff
 unfold smC Qaa at h1 h2 hw ⊢
 obtain ⟨kind,ns,pre,name,op,text,fold,mark,a,b,of⟩:=s
 simp only at h1 h2 h3 hw ⊢
 by_cases c1:ns=3
 case pos=>
  subst c1
  simp +contextual -implicitDefEqProofs (disch:=try exact X0d) only [↓reduceIte,go_sem,s_Z13,h1,h2,h3]
 by_cases c2:0≤ns
 case neg=>simp +contextual -implicitDefEqProofs (disch:=try exact X0d) only [↓reduceIte,go_sem,s_Z13,h1,h2,c1,c2]
 by_cases c3:ns<3
 case neg=>simp +contextual -implicitDefEqProofs (disch:=try exact X0d) only [↓reduceIte,go_sem,s_Z13,h1,h2,c1,c2,c3]
 simp +contextual -implicitDefEqProofs (disch:=try exact X0d) only [↓reduceIte,go_sem,s_Z13,h1,h2,c1,c2,c3]
omit hn in
def Qob (s:Sm α):Bool:=
 if s.op<1∨7<s.op∨Qej s.text=false∨s.mark<0∨2<s.mark then false
 else if s.op=1∧(¬s.text=[]∨¬s.mark=0) then false
 else decide (s.fold=decide (s.mark=1))
omit hn in
theorem Wlm (s:Sm α) (hs:SmB s) (U:Objs) (hσ:Wf U):E cx 139 [.agg (smC v s)] U=some (.bool (Qob s),U):=by
 refine Qbe Qbb ?_ (by simp only [Qag,Qa0,Qbd hv];rfl) rfl U hσ
 have h1:boxV [] (.agg (smC v s))=some (.ptr 0 0,[.cells (smC v s)]):=Qau Qf2 Qc6
 have h2:eL [.cells (smC v s)] true 3 (.ptr 0 4)=some (.agg [.int .i64 s.op,.str s.text,.bool s.fold]):=rfl
 have h3:stV [.cells (smC v s),.cells [.int .i64 0,.str [],.bool false]] 3 (.ptr 1 0) (.agg [.int .i64 s.op,.str s.text,.bool s.fold]) (.agg [.int .i64 s.op,.str s.text,.bool s.fold])=some (.undef,[.cells (smC v s),.cells [.int .i64 s.op,.str s.text,.bool s.fold]]):=rfl
 have hw:Wf [.cells (smC v s),.cells [.int .i64 s.op,.str s.text,.bool s.fold]]:=by rw [Qgl];exact ⟨Qbd hv,rfl⟩
 have h4:=fun U hσ=>Qg5 s.text (by have:=hs.2.2;omega) U hσ
 obtain ⟨kind,ns,pre,name,op,text,fold,mark,a,b,of⟩:=s
 rw [e_Z1n]
 unfold Qob
 simp only [smC] at h1 h2 h3 h4 hw ⊢
 by_cases c1:op<1
 case pos=>simp +contextual -implicitDefEqProofs (disch:=try exact X0d) only [↓reduceIte,go_sem,s_Z1n,h1,h2,h3,c1,true_or]
 by_cases c2:7<op
 case pos=>simp +contextual -implicitDefEqProofs (disch:=try exact X0d) only [↓reduceIte,go_sem,s_Z1n,h1,h2,h3,c1,c2,true_or,or_true]
 cases c3:Qej text with
 |false=>simp +contextual -implicitDefEqProofs (disch:=try exact X0d) only [↓reduceIte,go_sem,s_Z1n,h1,h2,h3,h4,c1,c2,c3,true_or,or_true]
 |true=>
  by_cases c4:mark<0
  case pos=>simp +contextual -implicitDefEqProofs (disch:=try exact X0d) only [↓reduceIte,go_sem,s_Z1n,h1,h2,h3,h4,c1,c2,c3,c4,true_or,or_true]
  by_cases c5:2<mark
  case pos=>simp +contextual -implicitDefEqProofs (disch:=try exact X0d) only [↓reduceIte,go_sem,s_Z1n,h1,h2,h3,h4,c1,c2,c3,c4,c5,true_or,or_true]
  by_cases c6:op=1
  case neg=>simp +contextual -implicitDefEqProofs (disch:=try exact X0d) only [↓reduceIte,go_sem,s_Z1n,h1,h2,h3,h4,c1,c2,c3,c4,c5,c6]
  subst c6
  by_cases c7:text=[]
  case neg=>simp +contextual -implicitDefEqProofs (disch:=try exact X0d) only [↓reduceIte,go_sem,s_Z1n,h1,h2,h3,h4,c1,c2,c3,c4,c5,c7]
  subst c7
  by_cases c8:mark=0
  case neg=>simp +contextual -implicitDefEqProofs (disch:=try exact X0d) only [↓reduceIte,go_sem,s_Z1n,h1,h2,h3,h4,c1,c2,c3,c4,c5,c8]
  subst c8
  simp +contextual -implicitDefEqProofs (disch:=try exact X0d) only [↓reduceIte,go_sem,s_Z1n,h1,h2,h3,h4,c1,c2,c3,c4,c5]
omit hn hv in
def nthS (a b:Int):Bool:=decide (a≤1000000)&&decide (b≤1000000)&&(decide (-1000000≤a)&&decide (-1000000≤b))
omit hn hv in
theorem Woc (a b:Int) (U:Objs) (hσ:Wf U):E cx 142 [.agg [.int .i64 a,.int .i64 b]] U=some (.bool (nthS a b),U):=by
 refine Qbe Qbb ?_ rfl rfl U hσ
 have h1:mmV true [.int .i64 a,.int .i64 b]=some (.int .i64 (if b > a then b else a)):=rfl
 have h2:mmV false [.int .i64 a,.int .i64 b]=some (.int .i64 (if b<a then b else a)):=rfl
 rw [e_Z1r]
 unfold nthS
 have k1:decide ((if b > a then b else a)≤1000000)=(decide (a≤1000000)&&decide (b≤1000000)):=by
  split <;> (by_cases q1:a≤1000000 <;> by_cases q2:b≤1000000 <;> simp [q1,q2] <;> omega)
 have k2:decide (-1000000≤(if b<a then b else a))=(decide (-1000000≤a)&&decide (-1000000≤b)):=by
  split <;> (by_cases q1:-1000000≤a <;> by_cases q2:-1000000≤b <;> simp [q1,q2] <;> omega)
 rw [←k1,←k2]
 generalize (if b > a then b else a)=x at h1
 generalize (if b<a then b else a)=y at h2
 by_cases c1:x≤1000000
 case neg=>simp +contextual -implicitDefEqProofs (disch:=try exact X0d) only [↓reduceIte,go_sem,s_Z1r,h1,h2,c1]
 simp +contextual -implicitDefEqProofs (disch:=try exact X0d) only [↓reduceIte,go_sem,s_Z1r,h1,h2,c1]
end
section
variable {α:Type} {v:α→V} (hv:∀n x,V.rb n (v x)=true) {n:Nms} (hn:NmB n)
def Qek (n:Nms) (okl:Bool) (s:Sm α):Bool:=
 if s.kind=1 then Qff n s&&Qir s.name&&Qcr (rOne s)
 else if s.kind=2 then Qff n s&&Qcr (Qef s)
 else if s.kind=3∨s.kind=4 then Qir s.name&&Qcr (Qfe s)
 else if s.kind=11 then Qhh s.name&&Qcr (Qfe s)
 else if s.kind=13 then Qoa s.name&&Qcr (Qfe s)
 else if s.kind=5 then Qff n s&&Qir s.name&&Qob s&&Qcr (rTwo s)
 else if s.kind=6∨s.kind=12 then Qcr s
 else if s.kind=7 then nthS s.a s.b&&(decide ((s.of.l.length:Int)=0)||okl)&&Qcr (Qn8 s)
 else if s.kind=8∨s.kind=9∨s.kind=10 then okl&&Qcr (Qhg s)
 else false
include hv hn
theorem Wdm (s:Sm α) (hs:SmB s) (okl:Bool) (hL:∀U,Wf U→E cx 54 [.agg (Qaa n),vSl v s.of,.bool false] U=some (.bool okl,U)) (U:Objs) (hσ:Wf U):
  E cx 98 [.agg (Qaa n),.agg (smC v s)] U=some (.bool (Qek n okl s),U):=by
 refine Qbe Qbb ?_ (by simp only [Qag,Qa0,Qbd hv,Qak];rfl) rfl U hσ
 have h1:boxV [] (.agg (Qaa n))=some (.ptr 0 0,[.cells (Qaa n)]):=Qau ok_n no_n
 have h2:boxV [.cells (Qaa n)] (.agg (smC v s))=some (.ptr 1 0,[.cells (Qaa n),.cells (smC v s)]):=Qau Qf2 Qc6
 have h3:eL [.cells (Qaa n),.cells (smC v s)] true 4 (.ptr 0 0)=some (.agg (Qaa n)):=Qbf rfl rfl no_n
 have h4:eL [.cells (Qaa n),.cells (smC v s)] true 11 (.ptr 1 0)=some (.agg (smC v s)):=Qbf rfl rfl Qc6
 have h5:eL [.cells (Qaa n),.cells (smC v s)] true 2 (.ptr 1 8)=some (.agg [.int .i64 s.a,.int .i64 s.b]):=rfl
 have hw:Wf [.cells (Qaa n),.cells (smC v s)]:=by rw [Qgl];exact ⟨Qak,Qbd hv⟩
 have hA:V.rbs 2 (smC v s)=true:=Qbd hv
 have k1:=Whw hv hn s _ hw
 have k2:=Qp0 s.name (by have:=hs.2.1;omega) _ hw
 have k3:=Whv s.name _ hw
 have k4:=Qzx s.name _ hw
 have k5:=Wlm hv s hs _ hw
 have k6:=Woc s.a s.b _ hw
 have k7:=hL _ hw
 have o1:=Qlk hv s (rOne s) _ (d_s1 hv _ hA s) _ hw
 have o2:=Qlk hv s (Qef s) _ (Qn9 hv _ hA s) _ hw
 have o3:=Qlk hv s (Qfe s) _ (Qrv hv _ hA s) _ hw
 have o4:=Qlk hv s (rTwo s) _ (d_s2 hv _ hA s) _ hw
 have o5:=Qlk hv s s _ (d_s3 hv _ hA s) _ hw
 have o6:=Qlk hv s (Qn8 s) _ (d_s4 hv _ hA s) _ hw
 have o7:=Qlk hv s (Qhg s) _ (Qzw hv _ hA s) _ hw
 clear hL hA
 obtain ⟨kind,ns,pre,name,op,text,fold,mark,a,b,of⟩:=s
 simp only at k1 k2 k3 k4 k5 k6 k7 h5
 rw [e_Zy]
 unfold Qek
 generalize Qff n _=q1 at k1 ⊢
 generalize Qir _=q2 at k2 ⊢
 generalize Qhh _=q3 at k3 ⊢
 generalize Qoa _=q4 at k4 ⊢
 generalize Qob _=q5 at k5 ⊢
 generalize nthS _ _=q6 at k6 ⊢
 generalize Qcr (rOne _)=p1 at o1 ⊢
 generalize Qcr (Qef _)=p2 at o2 ⊢
 generalize Qcr (Qfe _)=p3 at o3 ⊢
 generalize Qcr (rTwo _)=p4 at o4 ⊢
 generalize Qcr (Qn8 _)=p6 at o6 ⊢
 generalize Qcr (Qhg _)=p7 at o7 ⊢
 generalize Qcr _=p5 at o5 ⊢
 unfold smC at h1 h2 h3 h4 h5 hw k1 k2 k3 k4 k5 k6 k7 o1 o2 o3 o4 o5 o6 o7 ⊢
 simp only at h1 h2 h3 h4 h5 hw k1 k2 k3 k4 k5 k6 k7 o1 o2 o3 o4 o5 o6 o7 ⊢
 by_cases c1:kind=1
 case pos=>subst c1;cases q1 <;> cases q2 <;> simp +contextual -implicitDefEqProofs (disch:=try exact X0d) only [↓reduceIte,go_sem,s_Zy,h1,h2,h3,h4,k1,k2,o1]
 by_cases c2:kind=2
 case pos=>subst c2;cases q1 <;> simp +contextual -implicitDefEqProofs (disch:=try exact X0d) only [↓reduceIte,go_sem,s_Zy,h1,h2,h3,h4,k1,o2]
 by_cases c3:kind=3
 case pos=>subst c3;cases q2 <;> simp +contextual -implicitDefEqProofs (disch:=try exact X0d) only [↓reduceIte,go_sem,s_Zy,j_Zy_0,h1,h2,h3,h4,k2,o3]
 by_cases c4:kind=4
 case pos=>subst c4;cases q2 <;> simp +contextual -implicitDefEqProofs (disch:=try exact X0d) only [↓reduceIte,go_sem,s_Zy,j_Zy_0,h1,h2,h3,h4,k2,o3]
 by_cases c5:kind=11
 case pos=>subst c5;cases q3 <;> simp +contextual -implicitDefEqProofs (disch:=try exact X0d) only [↓reduceIte,go_sem,s_Zy,j_Zy_0,h1,h2,h3,h4,k3,o3]
 by_cases c6:kind=13
 case pos=>subst c6;cases q4 <;> simp +contextual -implicitDefEqProofs (disch:=try exact X0d) only [↓reduceIte,go_sem,s_Zy,j_Zy_0,h1,h2,h3,h4,k4,o3]
 by_cases c7:kind=5
 case pos=>subst c7;cases q1 <;> cases q2 <;> cases q5 <;> simp +contextual -implicitDefEqProofs (disch:=try exact X0d) only [↓reduceIte,go_sem,s_Zy,j_Zy_0,h1,h2,h3,h4,k1,k2,k5,o4]
 by_cases c8:kind=6
 case pos=>subst c8;simp +contextual -implicitDefEqProofs (disch:=try exact X0d) only [↓reduceIte,go_sem,s_Zy,j_Zy_0,j_Zy_1,h1,h2,h3,h4,o5]
 by_cases c9:kind=12
 case pos=>subst c9;simp +contextual -implicitDefEqProofs (disch:=try exact X0d) only [↓reduceIte,go_sem,s_Zy,j_Zy_0,j_Zy_1,h1,h2,h3,h4,o5]
 by_cases c10:kind=7
 case pos=>
  subst c10
  cases q6 with
  |false=>simp +contextual -implicitDefEqProofs (disch:=try exact X0d) only [↓reduceIte,go_sem,s_Zy,j_Zy_0,j_Zy_1,h1,h2,h3,h4,h5,k6]
  |true=>
   by_cases c11:(of.l.length:Int)=0
   ·simp +contextual -implicitDefEqProofs (disch:=try exact X0d) only [↓reduceIte,go_sem,s_Zy,j_Zy_0,j_Zy_1,h1,h2,h3,h4,h5,k6,c11,o6]
   ·cases okl <;> simp +contextual -implicitDefEqProofs (disch:=try exact X0d) only [↓reduceIte,go_sem,s_Zy,j_Zy_0,j_Zy_1,h1,h2,h3,h4,h5,k6,k7,c11,o6]
 by_cases c12:kind=8
 case pos=>subst c12;cases okl <;> simp +contextual -implicitDefEqProofs (disch:=try exact X0d) only [↓reduceIte,go_sem,s_Zy,j_Zy_0,j_Zy_1,j_Zy_2,h1,h2,h3,h4,k7,o7]
 by_cases c13:kind=9
 case pos=>subst c13;cases okl <;> simp +contextual -implicitDefEqProofs (disch:=try exact X0d) only [↓reduceIte,go_sem,s_Zy,j_Zy_0,j_Zy_1,j_Zy_2,h1,h2,h3,h4,k7,o7]
 by_cases c14:kind=10
 case pos=>subst c14;cases okl <;> simp +contextual -implicitDefEqProofs (disch:=try exact X0d) only [↓reduceIte,go_sem,s_Zy,j_Zy_0,j_Zy_1,j_Zy_2,h1,h2,h3,h4,k7,o7]
 simp +contextual -implicitDefEqProofs (disch:=try exact X0d) only [↓reduceIte,go_sem,s_Zy,j_Zy_0,j_Zy_1,j_Zy_2,h1,h2,h3,h4,c1,c2,c3,c4,c5,c6,c7,c8,c9,c10,c12,c13,c14]
end
section
variable {α:Type} {v:α→V} (hv:∀n x,V.rb n (v x)=true) {n:Nms} (hn:NmB n)
def cmpR (n:Nms) (okl:Sl α→Bool) (pseudo:Bool) (len:Nat):Nat→List (Sm α)→Bool
 |i,[]=>decide (0<(len:Int))
 |i,s::r=>
  if Qek n (okl s.of) s=false then false
  else if 0<(i:Int)∧(s.kind=1∨s.kind=2) then false
  else if s.kind=13∧(pseudo=false∨(i:Int)<len - 1) then false
  else cmpR n okl pseudo len (i+1) r
def Qoc (n:Nms) (okl:Sl α→Bool) (pseudo:Bool) (c:Cp α):Bool:=cmpR n okl pseudo c.list.l.length 0 c.list.l
def cpC (v:α→V) (c:Cp α):List V:=[.int .i64 c.comb,vSl (vSm v) c.list]
def SmG (v:α→V) (n:Nms) (okl:Sl α→Bool) (s:Sm α):Prop:=SmB s∧∀U,Wf U→E cx 54 [.agg (Qaa n),vSl v s.of,.bool false] U=some (.bool (okl s.of),U)
include hv
theorem Qj0 {c:Cp α} {k:Nat} : V.rbs k (cpC v c)=true:=by simp only [cpC,Qag,Qdh,Qaj (Qjw hv),Qby,Xau]
omit hv in
theorem Whx {c:Cp α} : Qan (cpC v c)=true:=by simp only [cpC,Qcb,Qdm,Qc9,Qc2,Xau]
omit hv in
theorem Qv3 {c:Cp α} : (cpC v c).map V.ng=cpC v c:=by simp only [cpC,Xak,Xa8,Ql2,Qaf]
omit hv in
theorem Qc3 {U:Objs} {k:Nat} {ds:List V} (hd:ds.length=k) (hn:ds.map V.ng=ds):eL U true k (.eptr ds 0)=some (.agg ds):=by
 show Ev.part true k ds 0=_
 unfold Ev.part
 rw [if_pos rfl,if_pos X0o,Xb0,Xbl X0o,hn]
include hn
theorem Qp4 (okl:Sl α→Bool) (pseudo:Bool) (c:Cp α) (hc:c.list.l.length≤1000) (hl:∀s∈c.list.l,SmG v n okl s):∀(r p:List (Sm α)),c.list.l=p++r→
  l_Zw_0 (Mi cx) 0 2 [.bool pseudo,.ptr 0 0,.ptr 1 0,vSl (vSm v) c.list,.int .i64 c.list.l.length,.int .i64 p.length] [.cells (Qaa n),.cells (cpC v c)]=some (.bool (cmpR n okl pseudo c.list.l.length p.length r),[])
 |[],p,hp=>by
  have hlen:c.list.l.length=p.length:=by rw [hp];simp
  have hN:V.rbs 2 (Qaa n)=true:=Qak
  have hC:V.rbs 2 (cpC v c)=true:=Qj0 hv
  have hw:Wf [.cells (Qaa n),.cells (cpC v c)]:=by rw [Qgl];exact ⟨hN,hC⟩
  have hct:=Qru hN hC
  have e1:¬(p.length:Int)<c.list.l.length:=by omega
  have e2:eL [.cells (Qaa n),.cells (cpC v c)] false 1 (.ptr 1 1)=some (vSl (vSm v) c.list):=by
   show Option.map V.ng (some (vSl (vSm v) c.list))=_
   rw [Qal,Qaf]
  rw [u_Zw_0]
  unfold cmpR
  simp +contextual -implicitDefEqProofs (disch:=try exact X0d) only [↓reduceIte,go_sem,b_Zw_0,e1,e2,hct]
 |s::r,p,hp=>by
  have hlen:c.list.l.length=p.length+r.length+1:=by rw [hp];simp;omega
  obtain ⟨hs,hL⟩:=hl s (by rw [hp];simp)
  have hN:V.rbs 2 (Qaa n)=true:=Qak
  have hC:V.rbs 2 (cpC v c)=true:=Qj0 hv
  have hct:∀H:Objs,cuO 2 (.cells (Qaa n) :: .cells (cpC v c)::H)=some [.cells (Qaa n),.cells (cpC v c)]:=fun H=>Qn7 hN hC
  have hw:Wf [.cells (Qaa n),.cells (cpC v c),.cells (smC v s)]:=by rw [Qkn];exact ⟨Qak,Qj0 hv,Qbd hv⟩
  have e1:(p.length:Int)<c.list.l.length:=by omega
  have i1:eI 11 (.int .i64 p.length) (vSl (vSm v) c.list)=some (.eptr (smC v s) 0):=Qax (f:=vSm v) hp rfl rfl
  have i2:∀U,eL U true 11 (.eptr (smC v s) 0)=some (.agg (smC v s)):=fun U=>Qc3 rfl Qc6
  have i3:stV [.cells (Qaa n),.cells (cpC v c),.cells [.int .i64 0,.int .i64 0,.str [],.str [],.int .i64 0,.str [],.bool false,.int .i64 0,.int .i64 0,.int .i64 0,.nils]] 11 (.ptr 2 0) (.agg (smC v s)) (.agg (smC v s))=some (.undef,[.cells (Qaa n),.cells (cpC v c),.cells (smC v s)]):=Qc7 rfl rfl rfl Qf2 Qc6
  have i4:eL [.cells (Qaa n),.cells (cpC v c),.cells (smC v s)] true 4 (.ptr 0 0)=some (.agg (Qaa n)):=Qbf rfl rfl no_n
  have i5:eL [.cells (Qaa n),.cells (cpC v c),.cells (smC v s)] true 11 (.ptr 2 0)=some (.agg (smC v s)):=Qbf rfl rfl Qc6
  have i6:eL [.cells (Qaa n),.cells (cpC v c),.cells (smC v s)] false 1 (.ptr 2 0)=some (.int .i64 s.kind):=rfl
  have i7:eL [.cells (Qaa n),.cells (cpC v c),.cells (smC v s)] false 1 (.ptr 1 1)=some (vSl (vSm v) c.list):=by
   show Option.map V.ng (some (vSl (vSm v) c.list))=_
   rw [Qal,Qaf]
  have k1:=Wdm hv hn s hs (okl s.of) hL _ hw
  have e3:∀U,fz 2 U fzD (vSl (vSm v) c.list)=some (vSl (vSm v) c.list):=fun U=>Qar (Qaj (Qjw hv))
  have ih:=Qp4 okl pseudo c hc hl r (p++[s]) (by rw [hp];simp)
  rw [show ((p++[s]).length:Int)=p.length+1 by simp,show (p++[s]).length=p.length+1 by simp] at ih
  rw [u_Zw_0]
  unfold cmpR
  generalize Qek n (okl s.of) s=q at k1 ⊢
  generalize Qaa n=N at *
  generalize cpC v c=C at *
  generalize smC v s=S at *
  clear hl hL
  generalize s.kind=kind at i6 ⊢
  cases q with
  |false=>simp +contextual -implicitDefEqProofs (disch:=try exact X0d) only [↓reduceIte,go_sem,b_Zw_0,j_Zw_0,e1,i1,i2,i3,i4,i5,hct,k1]
  |true=>
   by_cases c1:0<(p.length:Int)∧(kind=1∨kind=2)
   ·obtain ⟨c2,c3⟩:=c1
    rcases c3 with rfl|rfl <;> simp +contextual -implicitDefEqProofs (disch:=try exact X0d) only [↓reduceIte,go_sem,b_Zw_0,j_Zw_0,e1,i1,i2,i3,i4,i5,i6,hct,k1,c2]
   ·by_cases c2:0<(p.length:Int)
    ·have c3:¬kind=1:=fun h=>c1 ⟨c2,.inl h⟩
     have c4:¬kind=2:=fun h=>c1 ⟨c2,.inr h⟩
     clear c1
     by_cases c5:kind=13
     ·subst c5
      cases pseudo with
      |false=>simp +contextual -implicitDefEqProofs (disch:=try exact X0d) only [↓reduceIte,go_sem,b_Zw_0,j_Zw_0,e1,i1,i2,i3,i4,i5,i6,i7,hct,k1,Qah,e3,c2]
      |true=>
       by_cases c6:(p.length:Int)<c.list.l.length - 1
       ·simp +contextual -implicitDefEqProofs (disch:=try exact X0d) only [↓reduceIte,go_sem,b_Zw_0,j_Zw_0,e1,i1,i2,i3,i4,i5,i6,i7,hct,k1,Qah,e3,c2,c6]
       ·simp +contextual -implicitDefEqProofs (disch:=try exact X0d) only [↓reduceIte,go_sem,b_Zw_0,j_Zw_0,e1,i1,i2,i3,i4,i5,i6,i7,hct,k1,Qah,e3,c2,c6,ih]
     ·simp +contextual -implicitDefEqProofs (disch:=try exact X0d) only [↓reduceIte,go_sem,b_Zw_0,j_Zw_0,e1,i1,i2,i3,i4,i5,i6,i7,hct,k1,Qah,e3,c2,c3,c4,c5,ih]
    ·clear c1
     by_cases c5:kind=13
     ·subst c5
      cases pseudo with
      |false=>simp +contextual -implicitDefEqProofs (disch:=try exact X0d) only [↓reduceIte,go_sem,b_Zw_0,j_Zw_0,e1,i1,i2,i3,i4,i5,i6,i7,hct,k1,Qah,e3,c2]
      |true=>
       by_cases c6:(p.length:Int)<c.list.l.length - 1
       ·simp +contextual -implicitDefEqProofs (disch:=try exact X0d) only [↓reduceIte,go_sem,b_Zw_0,j_Zw_0,e1,i1,i2,i3,i4,i5,i6,i7,hct,k1,Qah,e3,c2,c6]
       ·simp +contextual -implicitDefEqProofs (disch:=try exact X0d) only [↓reduceIte,go_sem,b_Zw_0,j_Zw_0,e1,i1,i2,i3,i4,i5,i6,i7,hct,k1,Qah,e3,c2,c6,ih]
     ·simp +contextual -implicitDefEqProofs (disch:=try exact X0d) only [↓reduceIte,go_sem,b_Zw_0,j_Zw_0,e1,i1,i2,i3,i4,i5,i6,i7,hct,k1,Qah,e3,c2,c5,ih]
theorem Qv4 (okl:Sl α→Bool) (pseudo:Bool) (c:Cp α) (hc:c.list.l.length≤1000) (hl:∀s∈c.list.l,SmG v n okl s) (U:Objs) (hσ:Wf U):
  E cx 74 [.agg (Qaa n),.agg (cpC v c),.bool pseudo] U=some (.bool (Qoc n okl pseudo c),U):=by
 refine Qbe Qbb ?_ (by simp only [Qag,Qa0,Qj0 hv,Qak];rfl) rfl U hσ
 have h1:boxV [] (.agg (Qaa n))=some (.ptr 0 0,[.cells (Qaa n)]):=Qau ok_n no_n
 have h2:boxV [.cells (Qaa n)] (.agg (cpC v c))=some (.ptr 1 0,[.cells (Qaa n),.cells (cpC v c)]):=Qau Whx Qv3
 have e2:eL [.cells (Qaa n),.cells (cpC v c)] false 1 (.ptr 1 1)=some (vSl (vSm v) c.list):=by
  show Option.map V.ng (some (vSl (vSm v) c.list))=_
  rw [Qal,Qaf]
 have e3:∀U,fz 2 U fzD (vSl (vSm v) c.list)=some (vSl (vSm v) c.list):=fun U=>Qar (Qaj (Qjw hv))
 have hl':=Qp4 hv hn okl pseudo c hc hl c.list.l [] rfl
 have hl'':l_Zw_0 (Mi cx) 0 2 [.bool pseudo,.ptr 0 0,.ptr 1 0,vSl (vSm v) c.list,.int .i64 c.list.l.length,.int .i64 0] [.cells (Qaa n),.cells (cpC v c)]=some (.bool (Qoc n okl pseudo c),[]):=hl'
 rw [e_Zw]
 simp +contextual -implicitDefEqProofs (disch:=try exact X0d) only [↓reduceIte,go_sem,s_Zw,h1,h2,e2,e3,Qah,hl'']
omit hv hn in
def innR (n:Nms) (okl:Sl α→Bool) (outer:Bool) (len:Nat):Nat→List (Cp α)→Bool
 |k,[]=>true
 |k,x::r=>
  if x.comb<0∨4<x.comb then false
  else if ¬(decide (x.comb=0)=decide ((k:Int)=0)) then false
  else if Qoc n okl (outer&&decide ((k:Int)=len - 1)) x=false then false
  else innR n okl outer len (k+1) r
omit hv hn in
def lstR (n:Nms) (okl:Sl α→Bool) (outer:Bool) (tot:Nat):List (Co α)→Bool
 |[]=>decide (0<(tot:Int))
 |c::r=>if (c.list.l.length:Int)=0 then false else if innR n okl outer c.list.l.length 0 c.list.l=true then lstR n okl outer tot r else false
omit hv hn in
def coC (v:α→V) (c:Co α):List V:=[vSl (vCp v) c.list]
omit hn in
theorem Qc1 {c:Co α} {k:Nat} : V.rbs k (coC v c)=true:=by simp only [coC,Qag,Qaj (Qe8 hv),Qby,Xau]
omit hv hn in
theorem Qv5 {c:Co α} : Qan (coC v c)=true:=by simp only [coC,Qcb,Qdm,Qc2,Xau]
omit hv hn in
theorem Qj6 {c:Co α} : (coC v c).map V.ng=coC v c:=by simp only [coC,Xak,Xa8,Qaf]
omit hv hn in
def CpG (v:α→V) (n:Nms) (okl:Sl α→Bool) (x:Cp α):Prop:=x.list.l.length≤1000∧∀s∈x.list.l,SmG v n okl s
omit hv hn in
def CoG (v:α→V) (n:Nms) (okl:Sl α→Bool) (c:Co α):Prop:=c.list.l.length≤1000∧∀x∈c.list.l,CpG v n okl x
theorem Qp5 (okl:Sl α→Bool) (outer:Bool) (c:Co α) (hc:CoG v n okl c) (LV:V) (hLV:∀k,V.rb k LV=true) (hLn:LV.ng=LV) (L i:Int) (hi:0≤i∧i≤100000) (r1:Rk):∀(r p:List (Cp α)),c.list.l=p++r→
  l_Zx_1 (Mi cx) 0 1 r1 2 [LV,.bool outer,.ptr 0 0,.ptr 1 0,LV,.int .i64 L,.int .i64 i,vSl (vCp v) c.list,.int .i64 c.list.l.length,.int .i64 p.length] [.cells (Qaa n),.cells (coC v c)]=
   if innR n okl outer c.list.l.length p.length r=true then r1 [LV,.bool outer,.ptr 0 0,LV,.int .i64 L,.int .i64 (i+1)] [.cells (Qaa n)] else some (.bool false,[])
 |[],p,hp=>by
  have hlen:c.list.l.length=p.length:=by rw [hp];simp
  have e1:¬(p.length:Int)<c.list.l.length:=by omega
  have hN:V.rbs 2 (Qaa n)=true:=Qak
  have hN1:V.rbs 1 (Qaa n)=true:=Qak
  have hC:V.rbs 2 (coC v c)=true:=Qc1 hv
  have c2:cuO 2 [.cells (Qaa n),.cells (coC v c)]=some [.cells (Qaa n),.cells (coC v c)]:=Qru hN hC
  have c1:cuO 1 [.cells (Qaa n),.cells (coC v c)]=some [.cells (Qaa n)]:=Qda hN1
  have f1:∀k U,fz k U fzD LV=some LV:=fun k U=>Qar (hLV k)
  rw [u_Zx_1]
  unfold innR
  simp +contextual -implicitDefEqProofs (disch:=try exact X0d) only [↓reduceIte,go_sem,b_Zx_1,e1,c1,c2,f1]
 |x::r,p,hp=>by
  have hlen:c.list.l.length=p.length+r.length+1:=by rw [hp];simp;omega
  have hcl:=hc.1
  obtain ⟨hx1,hx2⟩:=hc.2 x (by rw [hp];simp)
  have e1:(p.length:Int)<c.list.l.length:=by omega
  have hN:V.rbs 2 (Qaa n)=true:=Qak
  have hN1:V.rbs 1 (Qaa n)=true:=Qak
  have hC:V.rbs 2 (coC v c)=true:=Qc1 hv
  have c2:∀H:Objs,cuO 2 (.cells (Qaa n) :: .cells (coC v c)::H)=some [.cells (Qaa n),.cells (coC v c)]:=fun H=>Qn7 hN hC
  have c1:∀H:Objs,cuO 1 (.cells (Qaa n)::H)=some [.cells (Qaa n)]:=fun H=>Qda hN1
  have f1:∀k U,fz k U fzD LV=some LV:=fun k U=>Qar (hLV k)
  have f2:∀k U,fz k U fzD (vSl (vCp v) c.list)=some (vSl (vCp v) c.list):=fun k U=>Qar (Qaj (Qe8 hv))
  have hw:Wf [.cells (Qaa n),.cells (coC v c),.cells (cpC v x)]:=by rw [Qkn];exact ⟨Qak,Qc1 hv,Qj0 hv⟩
  have i1:eI 2 (.int .i64 p.length) (vSl (vCp v) c.list)=some (.eptr (cpC v x) 0):=Qax (f:=vCp v) hp rfl rfl
  have i2:∀U,eL U true 2 (.eptr (cpC v x) 0)=some (.agg (cpC v x)):=fun U=>Qc3 rfl Qv3
  have i3:stV [.cells (Qaa n),.cells (coC v c),.cells [.int .i64 0,.nils]] 2 (.ptr 2 0) (.agg (cpC v x)) (.agg (cpC v x))=some (.undef,[.cells (Qaa n),.cells (coC v c),.cells (cpC v x)]):=Qc7 rfl rfl rfl Whx Qv3
  have i4:eL [.cells (Qaa n),.cells (coC v c),.cells (cpC v x)] true 4 (.ptr 0 0)=some (.agg (Qaa n)):=Qbf rfl rfl no_n
  have i5:eL [.cells (Qaa n),.cells (coC v c),.cells (cpC v x)] true 2 (.ptr 2 0)=some (.agg (cpC v x)):=Qbf rfl rfl Qv3
  have i6:eL [.cells (Qaa n),.cells (coC v c),.cells (cpC v x)] false 1 (.ptr 2 0)=some (.int .i64 x.comb):=rfl
  have i7:eL [.cells (Qaa n),.cells (coC v c),.cells (cpC v x)] false 1 (.ptr 1 0)=some (vSl (vCp v) c.list):=by
   show Option.map V.ng (some (vSl (vCp v) c.list))=_
   rw [Qal,Qaf]
  have k1:=fun pseudo=>Qv4 hv hn okl pseudo x hx1 hx2 _ hw
  have ih:=Qp5 okl outer c hc LV hLV hLn L i hi r1 r (p++[x]) (by rw [hp];simp)
  rw [show ((p++[x]).length:Int)=p.length+1 by simp,show (p++[x]).length=p.length+1 by simp] at ih
  rw [u_Zx_1]
  unfold innR
  have q1:=k1 (outer&&decide ((p.length:Int)=c.list.l.length - 1))
  generalize Qoc n okl (outer&&decide ((p.length:Int)=c.list.l.length - 1)) x=q at q1 ⊢
  clear k1 hc hx2
  generalize Qaa n=N at *
  generalize coC v c=C at *
  generalize cpC v x=X at *
  generalize x.comb=comb at i6 ⊢
  have hK1:0≤(p.length:Int):=Int.natCast_nonneg _
  generalize (p.length:Int)=KI at e1 i1 ih q1 hK1 ⊢
  by_cases d1:comb<0
  case pos=>simp +contextual -implicitDefEqProofs (disch:=try exact X0d) only [↓reduceIte,go_sem,b_Zx_1,j_Zx_0,e1,i1,i2,i3,i4,i5,i6,c1,c2,f1,f2,d1,true_or]
  by_cases d2:4<comb
  case pos=>simp +contextual -implicitDefEqProofs (disch:=try exact X0d) only [↓reduceIte,go_sem,b_Zx_1,j_Zx_0,e1,i1,i2,i3,i4,i5,i6,c1,c2,f1,f2,d1,d2,or_true]
  by_cases d3:comb=0
  ·subst d3
   by_cases d4:KI=0
   case neg=>simp +contextual -implicitDefEqProofs (disch:=try exact X0d) only [↓reduceIte,go_sem,b_Zx_1,j_Zx_0,e1,i1,i2,i3,i4,i5,i6,i7,c1,c2,f1,f2,Qah,d1,d2,d4]
   subst d4
   rw [Int.zero_add] at ih
   cases outer with
   |false=>
    rw [Xbt] at q1
    cases q with
    |false=>simp +contextual -implicitDefEqProofs (disch:=try exact X0d) only [↓reduceIte,go_sem,b_Zx_1,j_Zx_0,e1,i1,i2,i3,i4,i5,i6,i7,c1,c2,f1,f2,Qah,d1,d2,q1]
    |true=>simp +contextual -implicitDefEqProofs (disch:=try exact X0d) only [↓reduceIte,go_sem,b_Zx_1,j_Zx_0,e1,i1,i2,i3,i4,i5,i6,i7,c1,c2,f1,f2,Qah,d1,d2,q1,ih]
   |true=>
    rw [Xa0] at q1
    cases d5:decide ((0:Int)=(c.list.l.length:Int) - 1) with
    |true=>
     rw [d5] at q1
     cases q with
     |false=>simp +contextual -implicitDefEqProofs (disch:=try exact X0d) only [↓reduceIte,go_sem,b_Zx_1,j_Zx_0,e1,i1,i2,i3,i4,i5,i6,i7,c1,c2,f1,f2,Qah,d1,d2,q1,d5]
     |true=>simp +contextual -implicitDefEqProofs (disch:=try exact X0d) only [↓reduceIte,go_sem,b_Zx_1,j_Zx_0,e1,i1,i2,i3,i4,i5,i6,i7,c1,c2,f1,f2,Qah,d1,d2,q1,ih,d5]
    |false=>
     rw [d5] at q1
     cases q with
     |false=>simp +contextual -implicitDefEqProofs (disch:=try exact X0d) only [↓reduceIte,go_sem,b_Zx_1,j_Zx_0,e1,i1,i2,i3,i4,i5,i6,i7,c1,c2,f1,f2,Qah,d1,d2,q1,d5]
     |true=>simp +contextual -implicitDefEqProofs (disch:=try exact X0d) only [↓reduceIte,go_sem,b_Zx_1,j_Zx_0,e1,i1,i2,i3,i4,i5,i6,i7,c1,c2,f1,f2,Qah,d1,d2,q1,ih,d5]
  ·by_cases d4:KI=0
   case pos=>
    subst d4
    simp +contextual -implicitDefEqProofs (disch:=try exact X0d) only [↓reduceIte,go_sem,b_Zx_1,j_Zx_0,e1,i1,i2,i3,i4,i5,i6,i7,c1,c2,f1,f2,Qah,d1,d2,d3]
   cases outer with
   |false=>
    rw [Xbt] at q1
    cases q with
    |false=>simp +contextual -implicitDefEqProofs (disch:=try exact X0d) only [↓reduceIte,go_sem,b_Zx_1,j_Zx_0,e1,i1,i2,i3,i4,i5,i6,i7,c1,c2,f1,f2,Qah,d1,d2,q1,d3,d4]
    |true=>simp +contextual -implicitDefEqProofs (disch:=try exact X0d) only [↓reduceIte,go_sem,b_Zx_1,j_Zx_0,e1,i1,i2,i3,i4,i5,i6,i7,c1,c2,f1,f2,Qah,d1,d2,q1,ih,d3,d4]
   |true=>
    rw [Xa0] at q1
    cases d5:decide (KI=(c.list.l.length:Int) - 1) with
    |true=>
     rw [d5] at q1
     cases q with
     |false=>simp +contextual -implicitDefEqProofs (disch:=try exact X0d) only [↓reduceIte,go_sem,b_Zx_1,j_Zx_0,e1,i1,i2,i3,i4,i5,i6,i7,c1,c2,f1,f2,Qah,d1,d2,q1,d5,d3,d4]
     |true=>simp +contextual -implicitDefEqProofs (disch:=try exact X0d) only [↓reduceIte,go_sem,b_Zx_1,j_Zx_0,e1,i1,i2,i3,i4,i5,i6,i7,c1,c2,f1,f2,Qah,d1,d2,q1,ih,d5,d3,d4]
    |false=>
     rw [d5] at q1
     cases q with
     |false=>simp +contextual -implicitDefEqProofs (disch:=try exact X0d) only [↓reduceIte,go_sem,b_Zx_1,j_Zx_0,e1,i1,i2,i3,i4,i5,i6,i7,c1,c2,f1,f2,Qah,d1,d2,q1,d5,d3,d4]
     |true=>simp +contextual -implicitDefEqProofs (disch:=try exact X0d) only [↓reduceIte,go_sem,b_Zx_1,j_Zx_0,e1,i1,i2,i3,i4,i5,i6,i7,c1,c2,f1,f2,Qah,d1,d2,q1,ih,d5,d3,d4]
theorem Qp6 (okl:Sl α→Bool) (outer:Bool) (s:Sl (Co α)) (hl:s.l.length≤1000) (hs:∀c∈s.l,CoG v n okl c):∀(r p:List (Co α)),s.l=p++r→
  l_Zx_0 (Mi cx) 0 1 [vSl (vCo v) s,.bool outer,.ptr 0 0,vSl (vCo v) s,.int .i64 s.l.length,.int .i64 p.length] [.cells (Qaa n)]=some (.bool (lstR n okl outer s.l.length r),[])
 |[],p,hp=>by
  have hlen:s.l.length=p.length:=by rw [hp];simp
  have e1:¬(p.length:Int)<s.l.length:=by omega
  have hN1:V.rbs 1 (Qaa n)=true:=Qak
  have c1:cuO 1 [.cells (Qaa n)]=some [.cells (Qaa n)]:=Qda (H:=[]) hN1
  have f1:∀k U,fz k U fzD (vSl (vCo v) s)=some (vSl (vCo v) s):=fun k U=>Qar (Qaj (Qc0 hv))
  rw [u_Zx_0]
  unfold lstR
  simp +contextual -implicitDefEqProofs (disch:=try exact X0d) only [↓reduceIte,go_sem,b_Zx_0,e1,c1,f1,Qah]
 |c::r,p,hp=>by
  have hlen:s.l.length=p.length+r.length+1:=by rw [hp];simp;omega
  have hc:=hs c (by rw [hp];simp)
  have e1:(p.length:Int)<s.l.length:=by omega
  have hN1:V.rbs 1 (Qaa n)=true:=Qak
  have hN:V.rbs 2 (Qaa n)=true:=Qak
  have hC:V.rbs 2 (coC v c)=true:=Qc1 hv
  have c1:∀H:Objs,cuO 1 (.cells (Qaa n)::H)=some [.cells (Qaa n)]:=fun H=>Qda hN1
  have f1:∀k U,fz k U fzD (vSl (vCo v) s)=some (vSl (vCo v) s):=fun k U=>Qar (Qaj (Qc0 hv))
  have f2:∀k U,fz k U fzD (vSl (vCp v) c.list)=some (vSl (vCp v) c.list):=fun k U=>Qar (Qaj (Qe8 hv))
  have i1:eI 1 (.int .i64 p.length) (vSl (vCo v) s)=some (.eptr (coC v c) 0):=Qax (f:=vCo v) hp rfl rfl
  have i2:∀U,eL U true 1 (.eptr (coC v c) 0)=some (.agg (coC v c)):=fun U=>Qc3 rfl Qj6
  have i3:stV [.cells (Qaa n),.cells [.nils]] 1 (.ptr 1 0) (.agg (coC v c)) (.agg (coC v c))=some (.undef,[.cells (Qaa n),.cells (coC v c)]):=Qc7 rfl rfl rfl Qv5 Qj6
  have i7:eL [.cells (Qaa n),.cells (coC v c)] false 1 (.ptr 1 0)=some (vSl (vCp v) c.list):=by
   show Option.map V.ng (some (vSl (vCp v) c.list))=_
   rw [Qal,Qaf]
  have hin:=Qp5 hv hn okl outer c hc (vSl (vCo v) s) (fun k=>Qaj (Qc0 hv)) Qaf s.l.length p.length X0o (l_Zx_0 (Mi cx) 0 1) c.list.l [] rfl
  have ih:=Qp6 okl outer s hl hs r (p++[c]) (by rw [hp];simp)
  rw [show ((p++[c]).length:Int)=p.length+1 by simp] at ih
  rw [ih] at hin
  clear hs
  have hin':l_Zx_1 (Mi cx) 0 1 (l_Zx_0 (Mi cx) 0 1) 2 [vSl (vCo v) s,.bool outer,.ptr 0 0,.ptr 1 0,vSl (vCo v) s,.int .i64 s.l.length,.int .i64 p.length,vSl (vCp v) c.list,.int .i64 c.list.l.length,.int .i64 0] [.cells (Qaa n),.cells (coC v c)]=
   if innR n okl outer c.list.l.length 0 c.list.l=true then some (.bool (lstR n okl outer s.l.length r),[]) else some (.bool false,[]):=hin
  rw [u_Zx_0]
  unfold lstR
  by_cases d1:(c.list.l.length:Int)=0
  case pos=>simp +contextual -implicitDefEqProofs (disch:=try exact X0d) only [↓reduceIte,go_sem,b_Zx_0,j_Zx_0,e1,i1,i2,i3,i7,c1,f1,f2,Qah,d1]
  cases d2:innR n okl outer c.list.l.length 0 c.list.l with
  |true=>
   rw [d2,if_pos rfl] at hin'
   simp +contextual -implicitDefEqProofs (disch:=try exact X0d) only [↓reduceIte,go_sem,b_Zx_0,j_Zx_0,e1,i1,i2,i3,i7,c1,f1,f2,Qah,d1,hin']
  |false=>
   rw [d2,if_neg (by decide)] at hin'
   simp +contextual -implicitDefEqProofs (disch:=try exact X0d) only [↓reduceIte,go_sem,b_Zx_0,j_Zx_0,e1,i1,i2,i3,i7,c1,f1,f2,Qah,d1,hin']
def lstS (n:Nms) (okl:Sl α→Bool) (outer:Bool) (s:Sl (Co α)):Bool:=lstR n okl outer s.l.length s.l
theorem Qzy (okl:Sl α→Bool) (outer:Bool) (s:Sl (Co α)) (hl:s.l.length≤1000) (hs:∀c∈s.l,CoG v n okl c) (U:Objs) (hσ:Wf U):
  E cx 54 [.agg (Qaa n),vSl (vCo v) s,.bool outer] U=some (.bool (lstS n okl outer s),U):=by
 refine Qbe Qbb ?_ (by simp only [Qag,Qa0,Qak,Qaj (Qc0 hv)];rfl) rfl U hσ
 have h1:boxV [] (.agg (Qaa n))=some (.ptr 0 0,[.cells (Qaa n)]):=Qau ok_n no_n
 have f1:∀k U,fz k U fzD (vSl (vCo v) s)=some (vSl (vCo v) s):=fun k U=>Qar (Qaj (Qc0 hv))
 have hl':=Qp6 hv hn okl outer s hl hs s.l [] rfl
 have hl'':l_Zx_0 (Mi cx) 0 1 [vSl (vCo v) s,.bool outer,.ptr 0 0,vSl (vCo v) s,.int .i64 s.l.length,.int .i64 0] [.cells (Qaa n)]=some (.bool (lstS n okl outer s),[]):=hl'
 rw [e_Zx]
 simp +contextual -implicitDefEqProofs (disch:=try exact X0d) only [↓reduceIte,go_sem,s_Zx,h1,f1,Qah,Qaf,hl'']
end
def okC (n:Nms):(k:Nat)→Bool→Sl (Cx k)→Bool
 |0,_,_=>false
 |k+1,outer,s=>lstS n (okC n k false) outer s
theorem Wez {n:Nms} (hn:NmB n):∀(k d:Nat) (s:Sl (Cx k)),Bd d k s→∀(outer:Bool) (U:Objs),Wf U→
  E cx 54 [.agg (Qaa n),vSl (vCx k) s,.bool outer] U=some (.bool (okC n k outer s),U)
 |0,d,s,hb,outer,U,hσ=>by
  have e:=sl0 (α:=Cx 0) (fun x=>Empty.elim x) s
  have ht:∃t:Sl (Co Empty),vSl (vCx 0) s=vSl (vCo (fun x:Empty=>x.elim)) t∧t.l=[]:=by
   cases s with
   |nil=>exact ⟨.nil,rfl,rfl⟩
   |row xs=>have:xs=[]:=e;subst this;exact ⟨.row [],rfl,rfl⟩
  obtain ⟨t,h1,h2⟩:=ht
  rw [h1,Qzy (α:=Empty) (v:=fun x=>x.elim) (fun n x=>x.elim) hn (fun _=>false) outer t (by rw [h2];simp) (by rw [h2];simp) U hσ]
  unfold lstS okC
  rw [h2]
  rfl
 |k+1,d,s,hb,outer,U,hσ=>by
  refine Qzy (α:=Cx k) (v:=vCx k) (Qed k · ·) hn (okC n k false) outer s hb.1 (fun c hc=>⟨(hb.2 c hc).1,fun x hx=>⟨((hb.2 c hc).2 x hx).1,fun y hy => ?_⟩⟩) U hσ
  have h:=((hb.2 c hc).2 x hx).2 y hy
  exact ⟨⟨h.1,h.2.1,h.2.2.1⟩,fun U hσ=>Wez hn k (d - 1) y.of h.2.2.2.2 false U hσ⟩
def dpS {k:Nat} (s:Sl (Cx k)):Int:=dpI (vSl (vCx k) s)
theorem Wln {k d:Nat} (s:Sl (Cx k)) (hd:d≤1000) (hb:Bd d k s) (U:Objs):E cx 53 [vSl (vCx k) s] U=some (.int .i64 (dpS s),U):=by
 have hp:cx.prim 53=some Qrk:=rfl
 have h1:=Qzj k d s hb
 have h2:=Qzk k d s hb
 rw [Qmk hp]
 show (Qrj [vSl (vCx k) s]).map _=_
 have h3:Qrj [vSl (vCx k) s]=some (.int .i64 (dpS s)):=by
  show (if (V.shp 0 (vSl (vCx k) s)&&decide (V.hh (vSl (vCx k) s)≤1000000))=true then _ else _)=_
  rw [h1,decide_eq_true (show V.hh (vSl (vCx k) s)≤1000000 by omega)]
  rfl
 rw [h3]
 rfl
def chkS (n:Nms) {k:Nat} (s:Sl (Cx k)):Int:=if okN n=false then 11 else if 32<dpS s then 12 else if okC n k true s=false then 10 else 0
def errZ (k:Int):V:=if k=0 then .nili else errN k
theorem Qc4 {k n:Nat} {s:Sl (Cx k)} : V.rb n (vSl (vCx k) s)=true:=Qaj (Qed k)
theorem Qv6 {n:Nms} (hn:NmB n) {k d:Nat} (s:Sl (Cx k)) (hd:d≤1000) (hb:Bd d k s) (U:Objs) (hσ:Wf U):
  E cx 30 [vSl (vCx k) s,.agg (Qaa n)] U=some (errZ (chkS n s),U):=by
 refine Qbe Qbb ?_ (by simp only [Qag,Qa0,Qak,Qc4];rfl) (by unfold errZ;split <;> rfl) U hσ
 have h1:boxV [] (.agg (Qaa n))=some (.ptr 0 0,[.cells (Qaa n)]):=Qau ok_n no_n
 have hw:Wf [.cells (Qaa n)]:=by rw [Qeo];exact Qak
 have h2:eL [.cells (Qaa n)] true 4 (.ptr 0 0)=some (.agg (Qaa n)):=Qbf rfl rfl no_n
 have h3:=Qjz hn _ hw
 have h3':E cx 29 [.agg (Qaa n)] [.cells (Qaa n)]=some (if okN n=true then .nili else errN 11,[.cells (Qaa n)]):=h3
 have h4:=Wln s hd hb [.cells (Qaa n)]
 have h5:=Wez hn k d s hb true _ hw
 have h6:=Qzt 12 0 _ hw
 have h7:=Qzt 10 0 _ hw
 have h8:Qaw [.bool false,.str [],.nils,.nils] [(0,4,.agg (Qaa n))]=some (.agg (Qaa n)):=by
  rw [Qke,Qkf (by rfl) (by decide) (by rw [Qbv];exact ok_n),Qnk,Qbv,no_n]
  rfl
 clear h3
 rw [e_Z1h]
 unfold chkS errZ
 generalize Qaa n=N at *
 cases c1:okN n with
 |false=>
  rw [c1,if_neg (by decide)] at h3'
  simp +contextual -implicitDefEqProofs (disch:=try exact X0d) only [↓reduceIte,go_sem,s_Z1h,h1,h2,h3',errN]
 |true=>
  rw [c1,if_pos rfl] at h3'
  by_cases c2:32<dpS s
  ·simp +contextual -implicitDefEqProofs (disch:=try exact X0d) only [↓reduceIte,go_sem,s_Z1h,h1,h2,h3',h4,h6,c2,errN,Qaf]
  ·cases c3:okC n k true s with
   |false=>
    rw [c3] at h5
    simp +contextual -implicitDefEqProofs (disch:=try exact X0d) only [↓reduceIte,go_sem,s_Z1h,h1,h2,h3',h4,h5,h7,h8,c2,errN,Qaf]
   |true=>
    rw [c3] at h5
    simp +contextual -implicitDefEqProofs (disch:=try exact X0d) only [↓reduceIte,go_sem,s_Z1h,h1,h2,h3',h4,h5,h8,c2,errN,Qaf]
section
variable {α:Type} {v:α→V} (hv:∀n x,V.rb n (v x)=true) (t0:Sl α→Nat) (b0:Sl α→Prop) (dp:Int)
def tX (t0:Sl α→Nat):List (Sm α)→Nat
 |[]=>0
 |y::r=>1+t0 y.of+tX t0 r
def tC (t0:Sl α→Nat):List (Cp α)→Nat
 |[]=>0
 |x::r=>tX t0 x.list.l+tC t0 r
def tS (t0:Sl α→Nat):List (Co α)→Nat
 |[]=>0
 |c::r=>c.list.l.length+tC t0 c.list.l+tS t0 r
def gY (b0:Sl α→Prop) (dp:Int) (y:Sm α):Prop:=y.pre.length≤100∧y.name.length≤100∧y.text.length≤100∧dp≤40∧b0 y.of
def gX (b0:Sl α→Prop) (dp:Int) (x:Cp α):Prop:=∀y∈x.list.l,gY b0 dp y
def gC (b0:Sl α→Prop) (dp:Int) (c:Co α):Prop:=∀x∈c.list.l,gX b0 dp x
def RY (y:Sm α):Prop:=y.pre.length≤140737488351232∧y.name.length≤140737488351232∧y.text.length≤140737488351232
def RX (x:Cp α):Prop:=x.list.l.length≤140737488351232∧∀y∈x.list.l,RY y
def RC (c:Co α):Prop:=c.list.l.length≤140737488351232∧∀x∈c.list.l,RX x
def bnd (dp:Int):Int:=140737488351232+102 * (43 - dp)
def Why (t0:Sl α→Nat) (b0:Sl α→Prop) (v:α→V) (dp:Int) (o:Sl α):Prop:=∃r:Int,E cx 49 [vSl v o,.int .i64 100,.int .i64 (dp+1)] []=some (.int .i64 r,[])∧0≤r∧r≤bnd (dp+1)∧(r≤100→b0 o∧r=t0 o)
include hv
theorem We0 (hdp:0≤dp∧dp≤41) (s:Sl (Co α)) (x:Cp α) (hx:RX x) (i k:Int) (r1 r2:Rk) (Post:Int→Prop) (hP:Post 101) (hE:dp≤40→∀y∈x.list.l,Why t0 b0 v dp y.of):∀(r p:List (Sm α)) (n:Int),x.list.l=p++r→0≤n→n≤bnd dp→
  (∀n',0≤n'→n'≤bnd dp→(n'≤100→(∀y∈r,gY b0 dp y)∧n'=n+tX t0 r)→∃q,r2 [vSl (vCo v) s,.int .i64 100,.int .i64 dp,.int .i64 n',.int .i64 i,.int .i64 (k+1)] []=some (.int .i64 q,[])∧Post q)→0≤k∧k≤140737488351232→
  ∃q,l_Z3j_2 (Mi cx) 0 0 r1 0 r2 0 [vSl (vCo v) s,.int .i64 100,.int .i64 dp,.int .i64 n,.int .i64 i,.int .i64 k,vSl (vSm v) x.list,.int .i64 p.length] []=some (.int .i64 q,[])∧Post q
 |[],p,n,hp,hn,hn2,hc,hk=>by
  have hlen:x.list.l.length=p.length:=by rw [hp];simp
  have e1:¬(p.length:Int)<x.list.l.length:=by omega
  have f1:∀U,fz 0 U fzD (vSl (vCo v) s)=some (vSl (vCo v) s):=fun U=>Qar (Qaj (Qc0 hv))
  obtain ⟨q,h1,h2⟩:=hc n hn hn2 (fun _=>⟨fun y hy=>(by cases hy),by show n=n+((0:Nat):Int);omega⟩)
  refine ⟨q,?_,h2⟩
  rw [u_Z3j_2]
  simp +contextual -implicitDefEqProofs (disch:=try exact X0d) only [↓reduceIte,go_sem,b_Z3j_2,e1,f1,Qah,Qaf,h1]
 |y::r,p,n,hp,hn,hn2,hc,hk=>by
  have hlen:x.list.l.length=p.length+r.length+1:=by rw [hp];simp;omega
  have e1:(p.length:Int)<x.list.l.length:=by omega
  have hxl:=hx.1
  have hy:=hx.2 y (by rw [hp];simp)
  have f1:∀U,fz 0 U fzD (vSl (vCo v) s)=some (vSl (vCo v) s):=fun U=>Qar (Qaj (Qc0 hv))
  have f2:∀U,fz 0 U fzD (vSl (vSm v) x.list)=some (vSl (vSm v) x.list):=fun U=>Qar (Qaj (Qjw hv))
  have hb:bnd dp=140737488351232+102 * (43 - dp):=rfl
  by_cases c1:n≤100
  ·have i1:eI 11 (.int .i64 p.length) (vSl (vSm v) x.list)=some (.eptr (smC v y) 0):=Qax (f:=vSm v) hp rfl rfl
   have l3:eL [] false 1 (.eptr (smC v y) 3)=some (.str y.name):=rfl
   have l2:eL [] false 1 (.eptr (smC v y) 2)=some (.str y.pre):=rfl
   have l5:eL [] false 1 (.eptr (smC v y) 5)=some (.str y.text):=rfl
   have l10:eL [] false 1 (.eptr (smC v y) 10)=some (vSl v y.of):=by
    show Option.map V.ng (some (vSl v y.of))=_
    rw [Qal,Qaf]
   generalize smC v y=C at i1 l3 l2 l5 l10
   by_cases g1:100<(y.name.length:Int)
   ·refine ⟨101,?_,hP⟩
    rw [u_Z3j_2]
    clear hE hc
    simp +contextual -implicitDefEqProofs (disch:=try exact X0d) only [↓reduceIte,go_sem,b_Z3j_2,e1,f1,f2,Qah,Qaf,c1,i1,l3,l2,l5,l10,g1]
   by_cases g2:100<(y.pre.length:Int)
   ·refine ⟨101,?_,hP⟩
    rw [u_Z3j_2]
    clear hE hc
    simp +contextual -implicitDefEqProofs (disch:=try exact X0d) only [↓reduceIte,go_sem,b_Z3j_2,e1,f1,f2,Qah,Qaf,c1,i1,l3,l2,l5,l10,g1,g2]
   by_cases g3:100<(y.text.length:Int)
   ·refine ⟨101,?_,hP⟩
    rw [u_Z3j_2]
    clear hE hc
    simp +contextual -implicitDefEqProofs (disch:=try exact X0d) only [↓reduceIte,go_sem,b_Z3j_2,e1,f1,f2,Qah,Qaf,c1,i1,l3,l2,l5,l10,g1,g2,g3]
   by_cases g4:40<dp
   ·refine ⟨101,?_,hP⟩
    rw [u_Z3j_2]
    clear hE hc
    simp +contextual -implicitDefEqProofs (disch:=try exact X0d) only [↓reduceIte,go_sem,b_Z3j_2,e1,f1,f2,Qah,Qaf,c1,i1,l3,l2,l5,l10,g1,g2,g3,g4]
   obtain ⟨m,hm1,hm2,hm3,hm4⟩:=hE X0o y (by rw [hp];simp)
   have hb2:bnd (dp+1)=140737488351232+102 * (43 - (dp+1)):=rfl
   obtain ⟨q,k1,k2⟩:=We0 hdp s x hx i k r1 r2 Post hP hE r (p++[y]) (n+1+m) (by rw [hp];simp) X0o X0o (fun n' w1 w2 w3=>hc n' w1 w2 fun w4=>by
    obtain ⟨z1,z2⟩:=w3 w4
    obtain ⟨z3,z4⟩:=hm4 X0o
    refine ⟨fun y' hy' => ?_,?_⟩
    ·rcases Xay.1 hy' with rfl|hy'
     ·exact ⟨by omega,by omega,by omega,by omega,z3⟩
     ·exact z1 y' hy'
    ·show n'=n+((1+t0 y.of+tX t0 r:Nat):Int)
     omega) hk
   refine ⟨q,?_,k2⟩
   rw [show ((p++[y]).length:Int)=p.length+1 by simp] at k1
   rw [u_Z3j_2]
   clear hE hc
   simp +contextual -implicitDefEqProofs (disch:=try exact X0d) only [↓reduceIte,go_sem,b_Z3j_2,e1,f1,f2,Qah,Qaf,c1,i1,l3,l2,l5,l10,g1,g2,g3,g4,hm1,k1]
  ·obtain ⟨q,h1,h2⟩:=hc n hn hn2 (fun h=>absurd h c1)
   refine ⟨q,?_,h2⟩
   rw [u_Z3j_2]
   simp +contextual -implicitDefEqProofs (disch:=try exact X0d) only [↓reduceIte,go_sem,b_Z3j_2,e1,f1,f2,Qah,Qaf,c1,h1]
theorem We1 (hdp:0≤dp∧dp≤41) (s:Sl (Co α)) (c:Co α) (i:Int) (hi:0≤i∧i≤140737488351232) (hic:eI 1 (.int .i64 i) (vSl (vCo v) s)=some (.eptr (coC v c) 0)) (r1:Rk) (Post:Int→Prop) (hP:Post 101) (hRc:RC c) (hE:dp≤40→∀x∈c.list.l,∀y∈x.list.l,Why t0 b0 v dp y.of):∀(r p:List (Cp α)) (n:Int),c.list.l=p++r→0≤n→n≤bnd dp→
  (∀n',0≤n'→n'≤bnd dp→(n'≤100→(∀x∈r,gX b0 dp x)∧n'=n+tC t0 r)→∃q,r1 [vSl (vCo v) s,.int .i64 100,.int .i64 dp,.int .i64 n',.int .i64 (i+1)] []=some (.int .i64 q,[])∧Post q)→
  ∃q,l_Z3j_1 (Mi cx) 0 0 r1 0 [vSl (vCo v) s,.int .i64 100,.int .i64 dp,.int .i64 n,.int .i64 i,.int .i64 p.length] []=some (.int .i64 q,[])∧Post q
 |[],p,n,hp,hn,hn2,hc=>by
  have hlen:c.list.l.length=p.length:=by rw [hp];simp
  have e1:¬(p.length:Int)<c.list.l.length:=by omega
  have f1:∀U,fz 0 U fzD (vSl (vCo v) s)=some (vSl (vCo v) s):=fun U=>Qar (Qaj (Qc0 hv))
  have l1:eL [] false 1 (.eptr (coC v c) 0)=some (vSl (vCp v) c.list):=by
   show Option.map V.ng (some (vSl (vCp v) c.list))=_
   rw [Qal,Qaf]
  obtain ⟨q,h1,h2⟩:=hc n hn hn2 (fun _=>⟨fun y hy=>(by cases hy),by show n=n+((0:Nat):Int);omega⟩)
  refine ⟨q,?_,h2⟩
  rw [u_Z3j_1]
  generalize coC v c=C at hic l1
  simp +contextual -implicitDefEqProofs (disch:=try exact X0d) only [↓reduceIte,go_sem,b_Z3j_1,e1,f1,Qah,Qaf,hic,l1,h1]
 |x::r,p,n,hp,hn,hn2,hc=>by
  have hlen:c.list.l.length=p.length+r.length+1:=by rw [hp];simp;omega
  have hcl:=hRc.1
  have e1:(p.length:Int)<c.list.l.length:=by omega
  have f1:∀U,fz 0 U fzD (vSl (vCo v) s)=some (vSl (vCo v) s):=fun U=>Qar (Qaj (Qc0 hv))
  have f2:∀U,fz 0 U fzD (vSl (vSm v) x.list)=some (vSl (vSm v) x.list):=fun U=>Qar (Qaj (Qjw hv))
  have l1:eL [] false 1 (.eptr (coC v c) 0)=some (vSl (vCp v) c.list):=by
   show Option.map V.ng (some (vSl (vCp v) c.list))=_
   rw [Qal,Qaf]
  have hx:=hRc.2 x (by rw [hp];simp)
  by_cases c1:n≤100
  ·have i1:eI 2 (.int .i64 p.length) (vSl (vCp v) c.list)=some (.eptr (cpC v x) 0):=Qax (f:=vCp v) hp rfl rfl
   have l2:eL [] false 1 (.eptr (cpC v x) 1)=some (vSl (vSm v) x.list):=by
    show Option.map V.ng (some (vSl (vSm v) x.list))=_
    rw [Qal,Qaf]
   obtain ⟨q,k1,k2⟩:=We0 hv t0 b0 dp hdp s x hx i p.length r1 (l_Z3j_1 (Mi cx) 0 0 r1 0) Post hP (fun h y hy=>hE h x (by rw [hp];simp) y hy) x.list.l [] n rfl hn hn2 (fun n' w1 w2 w3=>by
    have ih:=We1 hdp s c i hi hic r1 Post hP hRc hE r (p++[x]) n' (by rw [hp];simp) w1 w2 (fun m v1 v2 v3=>hc m v1 v2 fun v4=>by
     obtain ⟨z1,z2⟩:=v3 v4
     obtain ⟨z3,z4⟩:=w3 X0o
     refine ⟨fun x' hx' => ?_,?_⟩
     ·rcases Xay.1 hx' with rfl|hx'
      ·exact z3
      ·exact z1 x' hx'
     ·show m=n+((tX t0 x.list.l+tC t0 r:Nat):Int)
      omega)
    rw [show ((p++[x]).length:Int)=p.length+1 by simp] at ih
    exact ih) X0o
   refine ⟨q,?_,k2⟩
   have k1':l_Z3j_2 (Mi cx) 0 0 r1 0 (l_Z3j_1 (Mi cx) 0 0 r1 0) 0 [vSl (vCo v) s,.int .i64 100,.int .i64 dp,.int .i64 n,.int .i64 i,.int .i64 p.length,vSl (vSm v) x.list,.int .i64 0] []=some (.int .i64 q,[]):=k1
   clear k1 hE hc
   rw [u_Z3j_1]
   generalize coC v c=C at hic l1
   generalize cpC v x=X at i1 l2
   simp +contextual -implicitDefEqProofs (disch:=try exact X0d) only [↓reduceIte,go_sem,b_Z3j_1,e1,f1,f2,Qah,Qaf,c1,hic,l1,i1,l2,k1']
  ·obtain ⟨q,h1,h2⟩:=hc n hn hn2 (fun h=>absurd h c1)
   refine ⟨q,?_,h2⟩
   rw [u_Z3j_1]
   generalize coC v c=C at hic l1
   simp +contextual -implicitDefEqProofs (disch:=try exact X0d) only [↓reduceIte,go_sem,b_Z3j_1,e1,f1,Qah,Qaf,c1,hic,l1,h1]
theorem We2 (hdp:0≤dp∧dp≤41) (s:Sl (Co α)) (hs:s.l.length≤140737488351232) (hRc:∀c∈s.l,RC c) (hE:dp≤40→∀c∈s.l,∀x∈c.list.l,∀y∈x.list.l,Why t0 b0 v dp y.of):∀(r p:List (Co α)) (n:Int),s.l=p++r→0≤n→n≤bnd dp→
  ∃q:Int,l_Z3j_0 (Mi cx) 0 0 [vSl (vCo v) s,.int .i64 100,.int .i64 dp,.int .i64 n,.int .i64 p.length] []=some (.int .i64 q,[])∧0≤q∧q≤bnd dp∧(q≤100→(∀c∈r,c.list.l.length≤100∧gC b0 dp c)∧q=n+tS t0 r)
 |[],p,n,hp,hn,hn2=>by
  have hlen:s.l.length=p.length:=by rw [hp];simp
  have e1:¬(p.length:Int)<s.l.length:=by omega
  refine ⟨n,?_,hn,hn2,fun _=>⟨fun y hy=>(by cases hy),by show n=n+((0:Nat):Int);omega⟩⟩
  rw [u_Z3j_0]
  simp +contextual -implicitDefEqProofs (disch:=try exact X0d) only [↓reduceIte,go_sem,b_Z3j_0,e1,Qah,Qaf]
 |c::r,p,n,hp,hn,hn2=>by
  have hlen:s.l.length=p.length+r.length+1:=by rw [hp];simp;omega
  have e1:(p.length:Int)<s.l.length:=by omega
  have f1:∀U,fz 0 U fzD (vSl (vCo v) s)=some (vSl (vCo v) s):=fun U=>Qar (Qaj (Qc0 hv))
  have hc:=hRc c (by rw [hp];simp)
  have hcl:=hc.1
  have hb:bnd dp=140737488351232+102 * (43 - dp):=rfl
  by_cases c1:n≤100
  ·have i1:eI 1 (.int .i64 p.length) (vSl (vCo v) s)=some (.eptr (coC v c) 0):=Qax (f:=vCo v) hp rfl rfl
   have l1:eL [] false 1 (.eptr (coC v c) 0)=some (vSl (vCp v) c.list):=by
    show Option.map V.ng (some (vSl (vCp v) c.list))=_
    rw [Qal,Qaf]
   obtain ⟨q,k1,k2,k3,k4⟩:=We1 hv t0 b0 dp hdp s c p.length X0o i1 (l_Z3j_0 (Mi cx) 0 0) (fun q=>0≤q∧q≤bnd dp∧(q≤100→(∀c'∈c::r,c'.list.l.length≤100∧gC b0 dp c')∧q=n+tS t0 (c::r))) ⟨by omega,by omega,fun h=>by omega⟩ hc (fun h x hx y hy=>hE h c (by rw [hp];simp) x hx y hy) c.list.l [] (n+c.list.l.length) rfl X0o X0o (fun n' w1 w2 w3=>by
    obtain ⟨q,g1,g2,g3,g4⟩:=We2 hdp s hs hRc hE r (p++[c]) n' (by rw [hp];simp) w1 w2
    rw [show ((p++[c]).length:Int)=p.length+1 by simp] at g1
    refine ⟨q,g1,g2,g3,fun g5 => ?_⟩
    obtain ⟨z1,z2⟩:=g4 g5
    obtain ⟨z3,z4⟩:=w3 X0o
    refine ⟨fun c' hc' => ?_,?_⟩
    ·rcases Xay.1 hc' with rfl|hc'
     ·exact ⟨by omega,z3⟩
     ·exact z1 c' hc'
    ·show q=n+((c.list.l.length+tC t0 c.list.l+tS t0 r:Nat):Int)
     omega)
   refine ⟨q,?_,k2,k3,k4⟩
   have k1':l_Z3j_1 (Mi cx) 0 0 (l_Z3j_0 (Mi cx) 0 0) 0 [vSl (vCo v) s,.int .i64 100,.int .i64 dp,.int .i64 (n+c.list.l.length),.int .i64 p.length,.int .i64 0] []=some (.int .i64 q,[]):=k1
   clear k1 k4 hE hRc
   rw [u_Z3j_0]
   generalize coC v c=C at i1 l1
   simp +contextual -implicitDefEqProofs (disch:=try exact X0d) only [↓reduceIte,go_sem,b_Z3j_0,e1,f1,Qah,Qaf,c1,i1,l1,k1']
  ·refine ⟨n,?_,hn,hn2,fun h=>absurd h c1⟩
   rw [u_Z3j_0]
   simp +contextual -implicitDefEqProofs (disch:=try exact X0d) only [↓reduceIte,go_sem,b_Z3j_0,e1,Qah,Qaf,c1]
end
def tot:(k:Nat)→Sl (Cx k)→Nat
 |0,s=>0
 |k+1,s=>s.l.length+tS (tot k) s.l
theorem We3 {α:Type} (t0:Sl α→Nat):∀l:List (Sm α),l.length≤tX t0 l
 |[]=>Xai _
 |y::r=>by
  have:=We3 t0 r
  show r.length+1≤1+t0 y.of+tX t0 r
  omega
theorem Wlo {α:Type} (t0:Sl α→Nat) {x:Cp α} : ∀ {l:List (Cp α)},x∈l→tX t0 x.list.l≤tC t0 l
 |[],h=>by cases h
 |y::r,h=>by
  show _≤tX t0 y.list.l+tC t0 r
  rcases Xay.1 h with rfl|h
  ·omega
  ·have:=Wlo t0 h;omega
theorem Wlp {α:Type} (t0:Sl α→Nat) {c:Co α} : ∀ {l:List (Co α)},c∈l→tC t0 c.list.l≤tS t0 l
 |[],h=>by cases h
 |y::r,h=>by
  show _≤y.list.l.length+tC t0 y.list.l+tS t0 r
  rcases Xay.1 h with rfl|h
  ·omega
  ·have:=Wlp t0 h;omega
theorem Qzz:∀(k:Nat) (dp:Int) (s:Sl (Cx k)),0≤dp∧dp≤41→SlOk (CxOk k) s→∃r:Int,E cx 49 [vSl (vCx k) s,.int .i64 100,.int .i64 dp] []=some (.int .i64 r,[])∧0≤r∧r≤bnd dp∧(r≤100→Bd (41 - dp).toNat k s∧s.l.length≤100∧r=tot k s)
 |0,dp,s,hdp,hs=>by
  have e:=sl0 (α:=Cx 0) (fun x=>Empty.elim x) s
  refine ⟨0,?_,by omega,by show (0:Int)≤140737488351232+102 * (43 - dp);omega,fun _=>⟨trivial,by rw [e];simp,rfl⟩⟩
  have f1:∀U,fz 0 U fzD (vSl (vCx 0) s)=some (vSl (vCx 0) s):=fun U=>Qar Qc4
  have hl:(s.l.length:Int)=0:=by rw [e];rfl
  have h0:l_Z3j_0 (Mi cx) 0 0 [vSl (vCx 0) s,.int .i64 100,.int .i64 dp,.int .i64 0,.int .i64 0] []=some (.int .i64 0,[]):=by
   rw [u_Z3j_0]
   simp +contextual -implicitDefEqProofs (disch:=try exact X0d) only [↓reduceIte,go_sem,b_Z3j_0,Qah,Qaf,hl]
  rw [e_Z3j]
  simp +contextual -implicitDefEqProofs (disch:=try exact X0d) only [↓reduceIte,go_sem,s_Z3j,f1,Qah,Qaf,hl,h0]
 |k+1,dp,s,hdp,hs=>by
  have hRc:∀c∈s.l,RC (α:=Cx k) c:=fun c hc=>⟨(hs.2 c hc).1,fun x hx=>⟨((hs.2 c hc).2 x hx).2.1,fun y hy=>by
   have:=((hs.2 c hc).2 x hx).2.2 y hy
   exact ⟨this.2.2.1,this.2.2.2.1,this.2.2.2.2.2.1⟩⟩⟩
  have hb:bnd dp=140737488351232+102 * (43 - dp):=rfl
  have hsl:s.l.length≤140737488351232:=hs.1
  obtain ⟨q,k1,k2,k3,k4⟩:=We2 (v:=vCx k) (Qed k · ·) (tot k) (Bd (41 - (dp+1)).toNat k) dp hdp s hsl hRc (fun h c hc x hx y hy=>by
   have hy':=((hs.2 c hc).2 x hx).2.2 y hy
   obtain ⟨r,g1,g2,g3,g4⟩:=Qzz k (dp+1) y.of X0o hy'.2.2.2.2.2.2.2.2.2
   exact ⟨r,g1,g2,g3,fun h=>⟨(g4 h).1,(g4 h).2.2⟩⟩) s.l [] s.l.length rfl X0o X0o
  refine ⟨q,?_,k2,k3,fun h => ?_⟩
  ·have f1:∀U,fz 0 U fzD (vSl (vCx (k+1)) s)=some (vSl (vCx (k+1)) s):=fun U=>Qar Qc4
   have k1':l_Z3j_0 (Mi cx) 0 0 [vSl (vCx (k+1)) s,.int .i64 100,.int .i64 dp,.int .i64 s.l.length,.int .i64 0] []=some (.int .i64 q,[]):=k1
   clear k1
   rw [e_Z3j]
   simp +contextual -implicitDefEqProofs (disch:=try exact X0d) only [↓reduceIte,go_sem,s_Z3j,f1,Qah,Qaf,k1']
  ·obtain ⟨z1,z2⟩:=k4 h
   have hl:s.l.length≤100:=by omega
   refine ⟨⟨by omega,fun c hc=>⟨by have:=(z1 c hc).1;omega,fun x hx=>⟨?_,fun y hy => ?_⟩⟩⟩,hl,by show q=((s.l.length+tS (tot k) s.l:Nat):Int);omega⟩
   ·have h1:=We3 (tot k) x.list.l
    have h2:=Wlo (tot k) hx
    have h3:=Wlp (tot k) hc
    omega
   ·obtain ⟨a1,a2,a3,a4,a5⟩:=(z1 c hc).2 x hx y hy
    refine ⟨a1,a2,a3,by omega,?_⟩
    rw [show (41 - dp).toNat - 1=(41 - (dp+1)).toNat by omega]
    exact a5
theorem Whz {k:Nat} (s:Sl (Cx k)) (hs:SlOk (CxOk k) s):∃g:Bool,(∀U,Wf U→E cx 28 [vSl (vCx k) s,.int .i64 100] U=some (.bool g,U))∧(g=false→Bd 41 k s∧s.l.length≤100∧tot k s≤100):=by
 obtain ⟨r,h1,h2,h3,h4⟩:=Qzz k 0 s X0o hs
 refine ⟨decide (100<r),fun U hσ => ?_,fun h => ?_⟩
 ·refine Qbe Qbb ?_ (by rw [Qag,Qc4];rfl) rfl U hσ
  rw [e_Z3a]
  simp +contextual -implicitDefEqProofs (disch:=try exact X0d) only [↓reduceIte,go_sem,s_Z3a,h1,Qaf]
 ·have h5:r≤100:=by have:=of_decide_eq_false h;omega
  obtain ⟨a1,a2,a3⟩:=h4 h5
  exact ⟨a1,a2,by omega⟩
def vNl (n:Nms):List (List UInt8):=n.pres.l++n.spaces.l
def gnS (n:Nms):Bool:=decide (30<n.pres.l.length)||decide (30<n.spaces.l.length)||decide (100<n.dflt.length)||(vNl n).any fun s=>decide (100<s.length)
theorem Wod {n:Nms} (h:gnS n=false):NmB n:=by
 unfold gnS at h
 simp only [Bool.or_eq_false_iff,decide_eq_false_iff_not,List.any_eq_false,decide_eq_true_eq] at h
 obtain ⟨⟨⟨h1,h2⟩,h3⟩,h4⟩:=h
 refine ⟨by omega,by omega,by omega,fun x hx => ?_,fun x hx => ?_⟩
 ·have:=h4 x (Xbv _ hx);omega
 ·have:=h4 x (Xb5 _ hx);omega
theorem Qtw (l:List (List UInt8)) (hl:l.length≤60) (cb:Cap) (c:List V) (hc:V.rbs 1 c=true):∀(r p:List (List UInt8)),l=p++r→
  l_Z20_0 (Mi cx) 0 1 [.sl (l.map V.str) cb,.int .i64 l.length,.int .i64 p.length] [.cells c]=some (.bool (r.any fun s=>decide (100<s.length)),[])
 |[],p,hp=>by
  have hlen:l.length=p.length:=by rw [hp];simp
  have e1:¬(p.length:Int)<l.length:=by omega
  rw [u_Z20_0]
  simp +contextual -implicitDefEqProofs (disch:=try exact X0d) only [↓reduceIte,go_sem,b_Z20_0,e1,List.any_nil]
 |s::r,p,hp=>by
  have hlen:l.length=p.length+r.length+1:=by rw [hp];simp;omega
  have e1:(p.length:Int)<l.length:=by omega
  have i1:eI 1 (.int .i64 p.length) (.sl (l.map V.str) .no)=some (.eptr [.str s] 0):=Qax (f:=V.str) (s:=.row l) hp rfl rfl
  have f1:∀U,fz 1 U fzD (.sl (l.map V.str) cb)=some (.sl (l.map V.str) cb):=fun U=>Qar (show V.rbs 1 _=true from Qgk (s:=.row l))
  have ih:=Qtw l hl cb c hc r (p++[s]) (by rw [hp];simp)
  rw [show ((p++[s]).length:Int)=p.length+1 by simp] at ih
  rw [u_Z20_0,List.any_cons]
  by_cases c1:100<(s.length:Int)
  ·have c1':100<s.length:=by omega
   rw [decide_eq_true c1',Xco]
   simp +contextual -implicitDefEqProofs (disch:=try exact X0d) only [↓reduceIte,go_sem,b_Z20_0,e1,i1,c1]
  ·have c1':¬ 100<s.length:=by omega
   rw [decide_eq_false c1',Xc2]
   simp +contextual -implicitDefEqProofs (disch:=try exact X0d) only [↓reduceIte,go_sem,b_Z20_0,e1,i1,f1,c1,ih]
end Go.Proofs.YtapnplljnpconaaGreatDoor
namespace Go.Ev
mutual
theorem V.beq_refl:∀x:V,V.beq x x=true
 | .any | .undef | .nilp | .nils | .nili | .nilf | .nilm=>rfl
 | .bool b=>by simp [V.beq]
 | .int k n=>by simp [V.beq]
 | .str s=>by simp [V.beq]
 | .ptr o off=>by simp [V.beq]
 | .mp o=>by simp [V.beq]
 | .hs o off len sz ag=>by simp [V.beq]
 | .eptr cs off=>by simp [V.beq,V.beqs_refl cs]
 | .sl cs c=>by simp [V.beq,V.beqs_refl cs]
 | .agg cs=>by simp [V.beq,V.beqs_refl cs]
 | .tup cs=>by simp [V.beq,V.beqs_refl cs]
 | .ifc t x=>by simp [V.beq,V.beq_refl x]
 | .fn f a b=>by simp [V.beq,V.beqs_refl a,V.beqs_refl b]
theorem V.beqs_refl:∀xs:List V,V.beqs xs xs=true
 |[]=>rfl
 |x::xs=>by simp [V.beqs,V.beq_refl x,V.beqs_refl xs]
end
theorem Wh0 {ag:Bool} {sz o off:Nat} {U:Objs} : Qgd [Qcn ag sz (.ptr o off)] U=some U:=rfl
theorem Qod {ag:Bool} {sz o off:Nat} {U:Objs} {cs:List V} (h:Objs.get U o=some cs):Qei [Qcn ag sz (.ptr o off)] U U=some U:=by
 have e:stable U U (.same false o off (if ag then sz else 1))=true:=by
  simp only [stable,h,decide_true,Xa0]
  rw [if_neg (by decide)]
  exact V.beqs_refl _
 show (if (stable U U (.same false o off (if ag then sz else 1))&&true)=true then some U else none)=_
 rw [e];rfl
attribute [go_sem] Wh0
theorem Qz0 {α:Type} {f:α→V} {ag:Bool} {sz bytes:Nat} {U:Objs} {l:List α} {c:Cap} {s:Sl α} (hf:∀x,(f x).cells.length=sz) (ho:∀x,Qan (f x).cells=true) (ha:∀x,agOk ag (f x)=true) (hc:c = .fx∨c = .gr sz) (hl:(l.length+s.l.length) * bytes≤Qbj):
  ∃c',appV false ag sz bytes U (.sl (l.map f) c) (vSl f s)=some (.sl ((l++s.l).map f) c')∧(c' = .fx∨c' = .gr sz):=by
 by_cases hs:s.l=[]
 ·refine ⟨c,?_,hc⟩
  rw [hs,Xbe]
  unfold appV
  simp only [Qfj,Xaj,if_false,Qzi,hs,Xa8,Xaa,Xad]
  unfold Qd1
  rw [Qph,if_pos rfl]
 ·refine ⟨.gr sz,?_,.inr rfl⟩
  cases s with
  |nil=>exact absurd rfl hs
  |row m=>exact Qjc hf ho ha hc hs hl
end Go.Ev
namespace Go.Proofs.YtapnplljnpconaaGreatDoor
open Go.Ev
theorem Qp7 (n:Nms) (U:Objs) (hσ:Wf U):E cx 27 [.agg (Qaa n)] U=some (.bool (gnS n),U):=by
 refine Qbe Qbb ?_ (by simp only [Qag,Qa0,Qak];rfl) rfl U hσ
 have hm:Qbj=140737488355328:=rfl
 have h1:boxV [] (.agg (Qaa n))=some (.ptr 0 0,[.cells (Qaa n)]):=Qau ok_n no_n
 have l2:eL [.cells (Qaa n)] false 1 (.ptr 0 2)=some (vSl V.str n.pres):=by
  show Option.map V.ng (some (vSl V.str n.pres))=_
  rw [Qal,Qaf]
 have l3:eL [.cells (Qaa n)] false 1 (.ptr 0 3)=some (vSl V.str n.spaces):=by
  show Option.map V.ng (some (vSl V.str n.spaces))=_
  rw [Qal,Qaf]
 have l1:eL [.cells (Qaa n)] false 1 (.ptr 0 1)=some (.str n.dflt):=rfl
 have o1:Qei [Qcn false 1 (.ptr 0 3)] [.cells (Qaa n)] [.cells (Qaa n)]=some [.cells (Qaa n)]:=Qod rfl
 have hw:V.rbs 1 (Qaa n)=true:=Qak
 rw [e_Z20]
 unfold gnS
 generalize Qaa n=N at *
 by_cases c1:30<(n.pres.l.length:Int)
 case pos=>
  rw [decide_eq_true (show 30<n.pres.l.length by omega),Xco,Xco,Xco]
  simp +contextual -implicitDefEqProofs (disch:=try exact X0d) only [↓reduceIte,go_sem,s_Z20,h1,l1,l2,l3,c1,Qah,Qaf]
 rw [decide_eq_false (show ¬ 30<n.pres.l.length by omega),Xc2]
 by_cases c2:30<(n.spaces.l.length:Int)
 case pos=>
  rw [decide_eq_true (show 30<n.spaces.l.length by omega),Xco,Xco]
  simp +contextual -implicitDefEqProofs (disch:=try exact X0d) only [↓reduceIte,go_sem,s_Z20,h1,l1,l2,l3,c1,c2,Qah,Qaf]
 rw [decide_eq_false (show ¬ 30<n.spaces.l.length by omega),Xc2]
 by_cases c3:100<(n.dflt.length:Int)
 case pos=>
  rw [decide_eq_true (show 100<n.dflt.length by omega),Xco]
  simp +contextual -implicitDefEqProofs (disch:=try exact X0d) only [↓reduceIte,go_sem,s_Z20,h1,l1,l2,l3,c1,c2,c3,Qah,Qaf]
 rw [decide_eq_false (show ¬ 100<n.dflt.length by omega),Xc2]
 obtain ⟨ca,a1,a2⟩:=Qz0 (f:=V.str) (ag:=false) (sz:=1) (bytes:=16) (U:=[.cells N]) (l:=[]) (c:=.fx) (s:=n.pres) (fun _=>rfl) (fun _=>rfl) (fun _=>rfl) (.inl rfl) (by simp;omega)
 obtain ⟨cb,b1,b2⟩:=Qz0 (f:=V.str) (ag:=false) (sz:=1) (bytes:=16) (U:=[.cells N]) (l:=n.pres.l) (c:=ca) (s:=n.spaces) (fun _=>rfl) (fun _=>rfl) (fun _=>rfl) a2 X0o
 rw [Xa8,Xcn] at a1
 have hl:=Qtw (vNl n) (by unfold vNl;rw [Xas];omega) cb N hw (vNl n) [] rfl
 have hl':l_Z20_0 (Mi cx) 0 1 [.sl ((n.pres.l++n.spaces.l).map V.str) cb,.int .i64 (vNl n).length,.int .i64 0] [.cells N]=some (.bool ((vNl n).any fun s=>decide (100<s.length)),[]):=hl
 rw [show (vNl n).length=(List.map V.str (n.pres.l++n.spaces.l)).length by rw [Xao];rfl] at hl'
 have e5:Qai (.sl ((n.pres.l++n.spaces.l).map V.str) cb)=some (.int .i64 (vNl n).length):=by
  rw [Weg,Xao];rfl
 have e6:fz 1 [.cells N] fzD (.sl ((n.pres.l++n.spaces.l).map V.str) cb)=some (.sl ((n.pres.l++n.spaces.l).map V.str) cb):=Qar (by show V.rbs 1 _=true;exact Qgk (s:=.row (n.pres.l++n.spaces.l)))
 simp +contextual -implicitDefEqProofs (disch:=try exact X0d) only [↓reduceIte,go_sem,s_Z20,h1,l1,l2,l3,c1,c2,c3,Qah,Qaf,o1,a1,b1,e6,hl']
theorem Wdn (n:Nms) {k:Nat} (L:Sl (Sl (Cx k))) (hL:SlOk (SlOk (CxOk k)) L):∃g:Bool,(∀U,Wf U→E cx 7 [vSl (vSl (vCx k)) L,.agg (Qaa n),.int .i64 100] U=some (.bool g,U))∧
  (g=false→L.l.length≤4∧NmB n∧∀s∈L.l,Bd 41 k s∧s.l.length≤100∧tot k s≤100):=by
 have hLl:L.l.length≤140737488351232:=hL.1
 have hrb:∀j x,V.rb j (vSl (vCx k) x)=true:=fun j x=>Qc4
 have hw:V.rbs 1 (Qaa n)=true:=Qak
 have f1:∀U,fz 1 U fzD (vSl (vSl (vCx k)) L)=some (vSl (vSl (vCx k)) L):=fun U=>Qar (Qaj hrb)
 have loop:∀(r p:List (Sl (Cx k))),L.l=p++r→∃g:Bool,l_Z23_0 (Mi cx) 0 1 [.int .i64 100,vSl (vSl (vCx k)) L,.int .i64 L.l.length,.int .i64 p.length] [.cells (Qaa n)]=some (.bool g,[])∧(g=false→∀s∈r,Bd 41 k s∧s.l.length≤100∧tot k s≤100):=by
  intro r
  induction r with
  |nil=>
   intro p hp
   have hlen:L.l.length=p.length:=by rw [hp];simp
   have e1:¬(p.length:Int)<L.l.length:=by omega
   refine ⟨false,?_,fun _ s hs=>(by cases hs)⟩
   rw [u_Z23_0]
   generalize Qaa n=N at *
   simp +contextual -implicitDefEqProofs (disch:=try exact X0d) only [↓reduceIte,go_sem,b_Z23_0,e1]
  |cons s r ih=>
   intro p hp
   have hlen:L.l.length=p.length+r.length+1:=by rw [hp];simp;omega
   have e1:(p.length:Int)<L.l.length:=by omega
   have i1:eI 1 (.int .i64 p.length) (vSl (vSl (vCx k)) L)=some (.eptr [vSl (vCx k) s] 0):=by
    have:=Qax (f:=vSl (vCx k)) (sz:=1) (k:=.i64) hp rfl (by rw [Qbw];rfl)
    rw [Qbw] at this
    exact this
   have i2:eL [.cells (Qaa n)] false 1 (.eptr [vSl (vCx k) s] 0)=some (vSl (vCx k) s):=by
    show Option.map V.ng (some (vSl (vCx k) s))=_
    rw [Qal,Qaf]
   obtain ⟨g,h1,h2⟩:=Whz s (hL.2 s (by rw [hp];simp))
   have h1':=h1 [.cells (Qaa n)] (by rw [Qeo];exact hw)
   cases g with
   |true=>
    refine ⟨true,?_,fun h=>(by cases h)⟩
    rw [u_Z23_0]
    clear h1 ih
    generalize Qaa n=N at *
    simp +contextual -implicitDefEqProofs (disch:=try exact X0d) only [↓reduceIte,go_sem,b_Z23_0,e1,i1,i2,h1',Qaf]
   |false=>
    obtain ⟨g,k1,k2⟩:=ih (p++[s]) (by rw [hp];simp)
    rw [show ((p++[s]).length:Int)=p.length+1 by simp] at k1
    refine ⟨g,?_,fun h s' hs' => ?_⟩
    ·rw [u_Z23_0]
     clear h1 ih
     generalize Qaa n=N at *
     simp +contextual -implicitDefEqProofs (disch:=try exact X0d) only [↓reduceIte,go_sem,b_Z23_0,e1,i1,i2,f1,h1',Qaf,k1]
    ·rcases Xay.1 hs' with rfl|hs'
     ·exact h2 rfl
     ·exact k2 h s' hs'
 have h1:boxV [] (.agg (Qaa n))=some (.ptr 0 0,[.cells (Qaa n)]):=Qau ok_n no_n
 have l4:eL [.cells (Qaa n)] true 4 (.ptr 0 0)=some (.agg (Qaa n)):=Qbf rfl rfl no_n
 have hW:Wf [.cells (Qaa n)]:=by rw [Qeo];exact hw
 have hg:=Qp7 n _ hW
 have hrbL:V.rbs 0 [vSl (vSl (vCx k)) L,.agg (Qaa n),.int .i64 100]=true:=by simp only [Qag,Qa0,Qak,Qaj hrb];rfl
 by_cases c1:4<(L.l.length:Int)
 ·refine ⟨true,fun U hσ=>Qbe Qbb ?_ hrbL rfl U hσ,fun h=>(by cases h)⟩
  rw [e_Z23]
  clear loop
  generalize Qaa n=N at *
  simp +contextual -implicitDefEqProofs (disch:=try exact X0d) only [↓reduceIte,go_sem,s_Z23,h1,l4,c1,Qah,Qaf]
 ·cases c2:gnS n with
  |true=>
   rw [c2] at hg
   refine ⟨true,fun U hσ=>Qbe Qbb ?_ hrbL rfl U hσ,fun h=>(by cases h)⟩
   rw [e_Z23]
   clear loop
   generalize Qaa n=N at *
   simp +contextual -implicitDefEqProofs (disch:=try exact X0d) only [↓reduceIte,go_sem,s_Z23,h1,l4,c1,hg,Qah,Qaf]
  |false=>
   rw [c2] at hg
   obtain ⟨g,k1,k2⟩:=loop L.l [] rfl
   have k1':l_Z23_0 (Mi cx) 0 1 [.int .i64 100,vSl (vSl (vCx k)) L,.int .i64 L.l.length,.int .i64 0] [.cells (Qaa n)]=some (.bool g,[]):=k1
   refine ⟨g,fun U hσ=>Qbe Qbb ?_ hrbL rfl U hσ,fun h=>⟨by omega,Wod c2,k2 h⟩⟩
   rw [e_Z23]
   clear loop k1
   generalize Qaa n=N at *
   simp +contextual -implicitDefEqProofs (disch:=try exact X0d) only [↓reduceIte,go_sem,s_Z23,h1,l4,c1,hg,f1,Qah,Qaf,k1']
end Go.Proofs.YtapnplljnpconaaGreatDoor
namespace Go.Ev
def slo {α:Type} : List α→Sl α
 |[]=>.nil
 |x::r=>.row (x::r)
theorem Qfg {α:Type} : ∀l:List α,(slo l).l=l
 |[]=>rfl
 |_::_=>rfl
def vG {α:Type} (f:α→V) (sz:Nat):List α→V
 |[]=>.nils
 |x::r=>.sl ((x::r).map f) (.gr sz)
section
variable {α:Type} {f:α→V} {sz:Nat} {l:List α}
theorem n_vG:(vG f sz l).ng=vSl f (slo l):=by cases l <;> rfl
theorem Qdv {n:Nat} (h:∀x,V.rb n (f x)=true):V.rb n (vG f sz l)=true:=by
 cases l with
 |nil=>rfl
 |cons x r=>exact Qpr (s:=.row (x::r)) fun y _=>h y
theorem Qfh {ag:Bool} {bytes:Nat} {U:Objs} {x:α} {c:Cap} (hf:∀x,(f x).cells.length=sz) (ho:∀x,Qan (f x).cells=true) (ha:∀x,agOk ag (f x)=true) (hl:(l.length+1) * bytes≤Qbj):
  appV false ag sz bytes U (vG f sz l) (.sl [f x] c)=some (vG f sz (l++[x])):=by
 cases l with
 |nil=>
  have h4:=Qpq (l:=[x]) hf ho ha
  have h4':Qdj ag sz [f x]=true:=h4
  unfold appV
  simp only [Qfj,Xaj,if_false,Qiu,Xaa,Xad]
  show Qd1 ag sz bytes .nils [f x]=_
  unfold Qd1
  rw [h4',if_pos rfl]
  simp only [Xal,Xa9]
  rw [if_neg (by simp),if_pos (by simpa using hl)]
  rfl
 |cons y r=>exact Qjc (l:=y::r) (m:=[x]) hf ho ha (.inr rfl) (by simp) hl
theorem Qg7 {cs:List V} {H:Objs} {off:Nat} (h:cs[off]? = some (vG f sz l)):Qbt (.cells cs::H) (.ptr 0 off)=some (vG f sz l,.cells (cs.set off (vSl f (slo l)))::H):=by
 have e:Qbt (.cells cs::H) (.ptr 0 off)=match vG f sz l with
  | .sl xs (.gr s)=>some (.sl xs (.gr s),(O.cells cs::H).set 0 (.cells (cs.set off (.sl xs .no))))
  | .sl _ .lk=>none
  |v=>some (v,.cells cs::H):=by
  unfold Qbt
  simp only [Objs.get,Xb9,h,Xaa,Xad]
  cases l <;> rfl
 rw [e]
 cases l with
 |nil=>
  show some (V.nils,O.cells cs::H)=some (V.nils,O.cells (cs.set off .nils)::H)
  have:cs.set off .nils=cs:=by
   obtain ⟨hl,e⟩:=Xaf.1 h
   rw [←show cs[off]=V.nils from e]
   exact Xcb _
  rw [this]
 |cons x r=>rfl
end
structure Atm where
 kind:Int
 has:Bool
 space:List UInt8
 name:List UInt8
 op:Int
 text:List UInt8
 fold:Bool
 deriving DecidableEq
def atC (a:Atm):List V:=[.int .i64 a.kind,.bool a.has,.str a.space,.str a.name,.int .i64 a.op,.str a.text,.bool a.fold]
@[reducible] def vAtm (a:Atm):V:=.agg (atC a)
inductive Trm where
 |mk (kind n:Int) (ts:List Trm)
mutual
def vT:Trm→V
 | .mk k n ts=>.agg [.int .i64 k,.int .i64 n,vTs ts]
def vTs:List Trm→V
 |[]=>.nils
 |t::r=>.sl (vT t::vTl r) .no
def vTl:List Trm→List V
 |[]=>[]
 |t::r=>vT t::vTl r
end
theorem Qz1:∀l:List Trm,vTl l=l.map vT
 |[]=>by simp only [vTl,Xa8]
 |t::r=>by simp only [vTl,Xak,Qz1 r]
theorem Wlq:∀l:List Trm,vTs l=vSl vT (slo l)
 |[]=>by simp only [vTs];rfl
 |t::r=>by
  simp only [vTs,Qz1]
  rfl
def tmC:Trm→List V
 | .mk k n ts=>[.int .i64 k,.int .i64 n,vSl vT (slo ts)]
theorem Qhy (t:Trm):vT t = .agg (tmC t):=by
 cases t with
 |mk k n ts=>simp only [vT,Wlq,tmC]
mutual
theorem Qhz {n:Nat} : ∀t:Trm,V.rb n (vT t)=true
 | .mk k m ts=>by
  simp only [vT,Qa0,Qag,Qdh,Qby,Xau,Xa0]
  exact Wlr ts
theorem Wlr {n:Nat} : ∀l:List Trm,V.rb n (vTs l)=true
 |[]=>by simp only [vTs,Qx4]
 |t::r=>by
  simp only [vTs,Wcf,Qag,Qhz t,Xa0]
  exact Qz2 r
theorem Qz2 {n:Nat} : ∀l:List Trm,V.rbs n (vTl l)=true
 |[]=>by simp only [vTl,Qby]
 |t::r=>by simp only [vTl,Qag,Qhz t,Xa0];exact Qz2 r
end
structure Stp where
 comb:Int
 ts:List Trm
def stC (s:Stp):List V:=[.int .i64 s.comb,vSl vT (slo s.ts)]
@[reducible] def vStp (s:Stp):V:=.agg (stC s)
structure Rw where
 first:Int
 steps:List Stp
 pseudo:List UInt8
def rwC (r:Rw):List V:=[.int .i64 r.first,vSl vStp (slo r.steps),.str r.pseudo]
@[reducible] def vRw (r:Rw):V:=.agg (rwC r)
structure Ctr where
 a:Int
 b:Int
 rows:List Int
abbrev vIs (l:List Int):V:=vSl (V.int .i64) (slo l)
def ctC (c:Ctr):List V:=[.int .i64 c.a,.int .i64 c.b,vIs c.rows]
@[reducible] def vCtr (c:Ctr):V:=.agg (ctC c)
structure Pln where
 atoms:List Atm
 rows:List Rw
 ctrs:List Ctr
 steps:Int
section
variable {n:Nat}
theorem Qll {a:Atm} : V.rb n (vAtm a)=true:=rfl
theorem Qdo {a:Atm} : V.rbs n (atC a)=true:=rfl
theorem Qeg {t:Trm} : V.rbs n (tmC t)=true:=by have:=Qhz (n:=n) t;rw [Qhy] at this;exact this
theorem Wh1 {s:Stp} : V.rbs n (stC s)=true:=by simp only [stC,Qag,Qdh,Qby,Qaj (fun n t=>Qhz (n:=n) t),Xau]
theorem We4 {s:Stp} : V.rb n (vStp s)=true:=Wh1
theorem Qey {r:Rw} : V.rbs n (rwC r)=true:=by simp only [rwC,Qag,Qdh,Qju,Qby,Qaj (fun n t=>We4 (n:=n) (s:=t)),Xau]
theorem Qv7 {r:Rw} : V.rb n (vRw r)=true:=Qey
theorem Qdp {l:List Int} : V.rb n (vIs l)=true:=Qpr fun _ _=>rfl
theorem Qz3 {c:Ctr} : V.rbs n (ctC c)=true:=by simp only [ctC,Qag,Qdh,Qby,Qdp,Xau]
theorem Qtx {c:Ctr} : V.rb n (vCtr c)=true:=Qz3
end
theorem Qv8 {a:Atm} : Qan (atC a)=true:=rfl
theorem Qjg {a:Atm} : (atC a).map V.ng=atC a:=rfl
theorem Qd3 {t:Trm} : Qan (tmC t)=true:=by cases t;simp only [tmC,Qcb,Qdm,Qc9,Qc2,Xau]
theorem Qd4 {t:Trm} : (tmC t).map V.ng=tmC t:=by cases t;simp only [tmC,Xak,Xa8,Ql2,Qaf]
theorem Qbz {t:Trm} : (tmC t).length=3:=by cases t;rfl
theorem Wdo {s:Stp} : Qan (stC s)=true:=by simp only [stC,Qcb,Qdm,Qc9,Qc2,Xau]
theorem Qv9 {r:Rw} : Qan (rwC r)=true:=by simp only [rwC,Qcb,Qdm,Qc9,Qgz,Qc2,Xau]
theorem Wdp {r:Rw} : (rwC r).map V.ng=rwC r:=by simp only [rwC,Xak,Xa8,Ql2,Qva,Qaf]
theorem Wls {c:Ctr} : Qan (ctC c)=true:=by simp only [ctC,Qcb,Qdm,Qc9,Qc2,Xau]
theorem Wlt {c:Ctr} : (ctC c).map V.ng=ctC c:=by simp only [ctC,Xak,Xa8,Ql2,Qaf]
theorem rbs0 {n:Nat} {l:List V} (h:V.rbs 0 l=true):V.rbs n l=true:=Qij (Xa1 _) h
theorem rb0 {n:Nat} {x:V} (h:V.rb 0 x=true):V.rb n x=true:=Wc0 (Xa1 _) h
end Go.Ev
namespace Go.Proofs.YtapnplljnpconaaGreatDoor
open Go.Ev
def Cl0 (H:Objs):Prop:=H.all (O.rb 0)=true
theorem We5 {n:Nat} {o:O} (h:o.rb 0=true):o.rb n=true:=by
 cases o with
 |cells cs=>exact rbs0 h
 |mp es=>
  simp only [O.rb,Xac] at h ⊢
  exact ⟨rbs0 h.1,rbs0 h.2⟩
theorem Qz4 {b:Nat} {H:Objs} (h:Cl0 H):FrW b H:=by
 unfold FrW
 exact Xbb.2 fun o ho=>We5 (Xbb.1 h o ho)
theorem Qa9 {H:Objs} (h:Cl0 H):Wf H:=Xbb.2 fun o ho=>We5 (Xbb.1 h o ho)
theorem Qab {cs:List V} {H:Objs} (h1:V.rbs 0 cs=true) (h2:Cl0 H):Cl0 (.cells cs::H):=by
 unfold Cl0 at *
 rw [Xcg,h2]
 show (V.rbs 0 cs&&true)=true
 rw [h1];rfl
theorem Qaq:Cl0 []:=rfl
theorem E_on {f:FuncId} {args:List V} {cs cs':List V} {r:V} (h:E cx f (.ptr 0 0::args) [.cells cs]=some (r,[.cells cs'])) (ha:V.rbs 0 args=true) (hc:V.rbs 0 cs=true) (hc':V.rbs 0 cs'=true) (hr:V.rb 0 r=true)
  (H:Objs) (hτ:Cl0 H):E cx f (.ptr 0 0::args) (.cells cs::H)=some (r,.cells cs'::H):=by
 have h1:=Qri Qbb (b:=1) (Qz4 hτ) (Xai _) h
 rw [Xak,←Qat,Qb0 ha,Qb1 hr] at h1
 have e:∀ds:List V,V.rbs 0 ds=true→ins 1 H [.cells ds] = .cells ds::H:=by
  intro ds hd
  show (List.take 1 [O.sh 1 H.length (.cells ds)]++H)++List.drop 1 [O.sh 1 H.length (.cells ds)]=_
  have:O.sh 1 H.length (.cells ds) = .cells ds:=by show O.cells (ds.map (V.sh 1 H.length))=_;rw [←Qat,Qb0 hd]
  rw [this]
  simp
 rw [e _ hc,e _ hc'] at h1
 exact h1
theorem E_at {f:FuncId} {args:List V} {cs cs':List V} {r:V} (h:E cx f (.ptr 0 0::args) [.cells cs]=some (r,[.cells cs'])) (ha:V.rbs 0 args=true) (hc:V.rbs 0 cs=true) (hc':V.rbs 0 cs'=true) (hr:V.rb 0 r=true)
  (B:Objs) (hφ:Cl0 B):E cx f (.ptr B.length 0::args) (B++[.cells cs])=some (r,B++[.cells cs']):=by
 have h1:=Qri Qbb (b:=0) (Qz4 hφ) (Xa1 _) h
 rw [Xak,←Qat,Qb0 ha,Qb1 hr] at h1
 have e:∀ds:List V,V.rbs 0 ds=true→ins 0 B [.cells ds]=B++[.cells ds]:=by
  intro ds hd
  show (List.take 0 [O.sh 0 B.length (.cells ds)]++B)++List.drop 0 [O.sh 0 B.length (.cells ds)]=_
  have:O.sh 0 B.length (.cells ds) = .cells ds:=by show O.cells (ds.map (V.sh 0 B.length))=_;rw [←Qat,Qb0 hd]
  rw [this]
  simp
 rw [e _ hc,e _ hc'] at h1
 have e2:V.sh 0 B.length (.ptr 0 0) = .ptr B.length 0:=by
  show V.ptr (rn 0 B.length 0) 0=_
  rw [show rn 0 B.length 0=B.length from by unfold rn;simp]
 rw [e2] at h1
 exact h1
def mkC (n:Nms) (p:Pln) (X:V):List V:=[.bool n.has,.str n.dflt,Qbx n.pres,Qbx n.spaces,vG vAtm 7 p.atoms,vG vRw 3 p.rows,vG vCtr 3 p.ctrs,X,.int .i64 p.steps]
theorem Qay {n:Nms} {p:Pln} {X:V} (hX:V.rb 0 X=true):V.rbs 0 (mkC n p X)=true:=by
 simp only [mkC,Qag,Qi7,Qju,Qgk,Qdv (fun a=>Qll (a:=a)),Qdv (fun a=>Qv7 (r:=a)),Qdv (fun a=>Qtx (c:=a)),hX,Qdh,Qby,Xau]
end Go.Proofs.YtapnplljnpconaaGreatDoor
namespace Go.Ev
section
variable {α:Type} {f:α→V} {sz:Nat} {l:List α}
theorem Qwa {cs:List V} {H:Objs} {off:Nat} (h:off<cs.length):stV (.cells cs::H) 1 (.ptr 0 off) (vSl f (slo l)) (vG f sz l)=some (.undef,.cells (cs.set off (vG f sz l))::H):=by
 have h':off+1≤cs.length:=h
 cases l with
 |nil=>simp [stV,Objs.get,slo,vSl,vG,V.cells,V.isLk,Qan,h'];try rfl
 |cons x r=>simp [stV,Objs.get,slo,vSl,vG,V.cells,V.isLk,Qan,h'];try rfl
theorem Qrw {keep:Bool} : oK false (vG f sz l)=some (vSl f (slo l)):=by cases l <;> rfl
end
theorem Qty {k i:Int} : vT (.mk k i []) = .agg [.int .i64 k,.int .i64 i,.nils]:=by simp only [vT,vTs]
def posA (a:Atm):List Atm→Nat→Option Nat
 |[],_=>none
 |b::r,i=>if a=b then some i else posA a r (i+1)
def posI:Option Nat→Int
 |none => -1
 |some i=>i
def addA (p:Pln) (a:Atm):Pln:={ p with atoms:=p.atoms++[a] }
def Qa1 (p:Pln) (a:Atm):Trm×Pln:=match posA a p.atoms 0 with
 |some i=>(.mk 1 i [],p)
 |none=>(.mk 1 p.atoms.length [],addA p a)
end Go.Ev
namespace Go.Ev
open Go.Proofs.YtapnplljnpconaaGreatDoor
section
variable {O1 O2 O3:O} {cs ds:List V} {t:V} {H:Objs} {sz:Nat}
theorem Qz5 (h1:ds.length=sz) (h2:cs.length=sz) (h3:Qan ds=true) (h4:ds.map V.ng=ds):
  stV (.cells cs::H) sz (.ptr 0 0) (.agg ds) t=some (.undef,.cells ds::H):=by
 show (if (V.agg ds).cells.length=sz∧0+sz≤cs.length∧Qan (V.agg ds).cells=true then _ else _)=_
 rw [if_pos ⟨h1,by omega,h3⟩,Qbv,h4,Qfd _ _ (by rw [h1,h2])];rfl
theorem Qz6 (h1:ds.length=sz) (h2:cs.length=sz) (h3:Qan ds=true) (h4:ds.map V.ng=ds):
  stV (O1 :: .cells cs::H) sz (.ptr 1 0) (.agg ds) t=some (.undef,O1 :: .cells ds::H):=by
 show (if (V.agg ds).cells.length=sz∧0+sz≤cs.length∧Qan (V.agg ds).cells=true then _ else _)=_
 rw [if_pos ⟨h1,by omega,h3⟩,Qbv,h4,Qfd _ _ (by rw [h1,h2])];rfl
theorem Qz7 (h1:ds.length=sz) (h2:cs.length=sz) (h3:Qan ds=true) (h4:ds.map V.ng=ds):
  stV (O1::O2 :: .cells cs::H) sz (.ptr 2 0) (.agg ds) t=some (.undef,O1::O2 :: .cells ds::H):=by
 show (if (V.agg ds).cells.length=sz∧0+sz≤cs.length∧Qan (V.agg ds).cells=true then _ else _)=_
 rw [if_pos ⟨h1,by omega,h3⟩,Qbv,h4,Qfd _ _ (by rw [h1,h2])];rfl
theorem Qz8 (h1:ds.length=sz) (h2:cs.length=sz) (h3:Qan ds=true) (h4:ds.map V.ng=ds):
  stV (O1::O2::O3 :: .cells cs::H) sz (.ptr 3 0) (.agg ds) t=some (.undef,O1::O2::O3 :: .cells ds::H):=by
 show (if (V.agg ds).cells.length=sz∧0+sz≤cs.length∧Qan (V.agg ds).cells=true then _ else _)=_
 rw [if_pos ⟨h1,by omega,h3⟩,Qbv,h4,Qfd _ _ (by rw [h1,h2])];rfl
theorem Qlm (h1:ds.length=sz) (h4:ds.map V.ng=ds):Ev.part true sz ds 0=some (.agg ds):=by
 unfold Ev.part
 rw [if_pos rfl,if_pos X0o,Xb0,Xbl X0o,h4]
theorem Qrx {U:Objs} {ag:Bool} {sz o off:Nat} : resC U ag sz (.ptr o off)=(Objs.get U o).bind fun cs=>Ev.part ag sz cs off:=rfl
theorem get3 {O1 O2 O3:O} {cs:List V} {H:Objs} : Objs.get (O1::O2::O3 :: .cells cs::H) 3=some cs:=rfl
end
attribute [go_sem] Qz5 Qz6 Qz7 Qz8 Qlm Qrx get3
end Go.Ev
namespace Go.Proofs.YtapnplljnpconaaGreatDoor
open Go.Ev
def Qj1 (n:Nms) (a:Atm) (ns:Int) (pre:List UInt8):Atm:=
 let b:Atm:=if ns=0 then { a with has:=n.has,space:=n.dflt } else if ns=2 then { a with has:=true,space:=[] } else if ns=3 then { a with has:=true,space:=if 0≤idxS n.pres.l pre then n.spaces.l.getD (idxS n.pres.l pre).toNat [] else [] } else a
 if b.has=true then b else { b with space:=[] }
theorem We6 {a b:Atm} : eB .eql (.agg [.i,.b,.s,.s,.i,.s,.b]) (.agg (atC a)) (.agg (atC b))=some (.bool (decide (a=b))):=by
 obtain ⟨a1,a2,a3,a4,a5,a6,a7⟩:=a
 obtain ⟨b1,b2,b3,b4,b5,b6,b7⟩:=b
 simp only [atC,Atm.mk.injEq]
 by_cases h1:a1=b1 <;> by_cases h2:a2=b2 <;> by_cases h3:a3=b3 <;> by_cases h4:a4=b4 <;> by_cases h5:a5=b5 <;> by_cases h6:a6=b6 <;> by_cases h7:a7=b7 <;> simp [eB,eqV,Qbg,Qdq,h1,h2,h3,h4,h5,h6,h7]
theorem We7 (l:Sl Atm) (a:Atm) (hl:l.l.length≤1000000000):∀(r q:List Atm),l.l=q++r→
  l_Z1w_0 (Mi cx) 0 1 [vSl vAtm l,.ptr 0 0,.int .i64 l.l.length,.int .i64 q.length] [.cells (atC a)]=some (.int .i64 (posI (posA a r q.length)),[])
 |[],q,hq=>by
  have hlen:l.l.length=q.length:=by rw [hq];simp
  have e1:¬(q.length:Int)<l.l.length:=by omega
  have hA:V.rbs 1 (atC a)=true:=Qdo
  rw [u_Z1w_0]
  unfold posA posI
  generalize atC a=A at *
  simp +contextual -implicitDefEqProofs (disch:=try exact X0d) only [↓reduceIte,go_sem,b_Z1w_0,e1]
 |b::r,q,hq=>by
  have hlen:l.l.length=q.length+r.length+1:=by rw [hq];simp;omega
  have e1:(q.length:Int)<l.l.length:=by omega
  have i1:eI 7 (.int .i64 q.length) (vSl vAtm l)=some (.eptr (atC b) 0):=Qax (f:=vAtm) hq rfl rfl
  have i2:eL [.cells (atC a)] true 7 (.eptr (atC b) 0)=some (.agg (atC b)):=Qc3 rfl Qjg
  have i3:eL [.cells (atC a)] true 7 (.ptr 0 0)=some (.agg (atC a)):=Qbf rfl rfl Qjg
  have i4:=We6 (a:=a) (b:=b)
  have hA:V.rbs 1 (atC a)=true:=Qdo
  have f1:∀k U,fz k U fzD (vSl vAtm l)=some (vSl vAtm l):=fun k U=>Qar (Qaj fun n x=>Qll)
  have ih:=We7 l a hl r (q++[b]) (by rw [hq];simp)
  rw [show ((q++[b]).length:Int)=q.length+1 by simp,show (q++[b]).length=q.length+1 by simp] at ih
  rw [u_Z1w_0]
  unfold posA
  by_cases c:a=b
  ·rw [decide_eq_true c] at i4
   rw [if_pos c]
   unfold posI
   clear ih c
   generalize atC a=A at *
   generalize atC b=Bww at *
   simp +contextual -implicitDefEqProofs (disch:=try exact X0d) only [↓reduceIte,go_sem,b_Z1w_0,e1,i1,i2,i3,i4]
  ·rw [decide_eq_false c] at i4
   rw [if_neg c]
   clear c
   generalize posA a r (q.length+1)=P at *
   generalize atC a=A at *
   generalize atC b=Bww at *
   simp +contextual -implicitDefEqProofs (disch:=try exact X0d) only [↓reduceIte,go_sem,b_Z1w_0,e1,i1,i2,i3,i4,f1,Qaf,ih]
theorem Wdq (l:Sl Atm) (a:Atm) (hl:l.l.length≤1000000000) (U:Objs) (hσ:Wf U):E cx 145 [vSl vAtm l,.agg (atC a)] U=some (.int .i64 (posI (posA a l.l 0)),U):=by
 refine Qbe Qbb ?_ (by simp only [Qag,Qa0,Qdo,Qaj (fun n x=>Qll (n:=n) (a:=x))];rfl) rfl U hσ
 have h:=We7 l a hl l.l [] rfl
 have h':l_Z1w_0 (Mi cx) 0 1 [vSl vAtm l,.ptr 0 0,.int .i64 l.l.length,.int .i64 0] [.cells (atC a)]=some (.int .i64 (posI (posA a l.l 0)),[]):=h
 have h1:boxV [] (.agg (atC a))=some (.ptr 0 0,[.cells (atC a)]):=Qau Qv8 Qjg
 have f1:∀k U,fz k U fzD (vSl vAtm l)=some (vSl vAtm l):=fun k U=>Qar (Qaj fun n x=>Qll)
 clear h
 rw [e_Z1w]
 generalize posA a l.l 0=P at *
 generalize atC a=A at *
 simp +contextual -implicitDefEqProofs (disch:=try exact X0d) only [↓reduceIte,go_sem,s_Z1w,h1,f1,Qaf,h']
section
variable {n:Nms} {p:Pln} {X:V} (hX:V.rb 0 X=true)
theorem Qtz {H:Objs} : eL (.cells (mkC n p X)::H) false 1 (.ptr 0 4)=some (vSl vAtm (slo p.atoms)):=by
 show Option.map V.ng (some (vG vAtm 7 p.atoms))=_
 rw [Qal,n_vG]
def mkA (n:Nms) (p:Pln) (X:V):List V:=(mkC n p X).set 4 (vSl vAtm (slo p.atoms))
theorem Wdr {H:Objs} : Qbt (.cells (mkC n p X)::H) (.ptr 0 4)=some (vG vAtm 7 p.atoms,.cells (mkA n p X)::H):=Qg7 rfl
theorem Wh2 {H:Objs} {a:Atm} : stV (.cells (mkA n p X)::H) 1 (.ptr 0 4) (vSl vAtm (slo (p.atoms++[a]))) (vG vAtm 7 (p.atoms++[a]))=some (.undef,.cells (mkC n (addA p a) X)::H):=Qwa (show 4<9 by decide)
theorem Qz9 {U:Objs} {l:List Atm} {a:Atm} {c:Cap} (hl:l.length≤1000000):appV false true 7 80 U (vG vAtm 7 l) (.sl [vAtm a] c)=some (vG vAtm 7 (l++[a])):=by
 refine Qfh (fun _=>rfl) (fun _=>Qv8) (fun _=>rfl) ?_
 show _≤_
 unfold Qbj
 omega
theorem We8 {a:Atm} : Qam true 7 1 (.agg [.int .i64 0,.bool false,.str [],.str [],.int .i64 0,.str [],.bool false]) [(0,.agg (atC a))]=some (.sl [.agg (atC a)] .fx):=rfl
include hX
theorem Wh3 (a:Atm) (hp:p.atoms.length≤1000000):E cx 101 [.ptr 0 0,.agg (atC a)] [.cells (mkC n p X)]=some (vT (Qa1 p a).1,[.cells (mkC n (Qa1 p a).2 X)]):=by
 have h1:boxV [.cells (mkC n p X)] (.agg (atC a))=some (.ptr 1 0,[.cells (mkC n p X),.cells (atC a)]):=Qau Qv8 Qjg
 have l0:∀H:Objs,eL (.cells (mkC n p X)::H) false 1 (.ptr 0 4)=some (vSl vAtm (slo p.atoms)):=fun H=>Qtz
 have l1:∀(O1:O) (H:Objs),eL (O1 :: .cells (atC a)::H) true 7 (.ptr 1 0)=some (.agg (atC a)):=fun O1 H=>Qbf rfl rfl Qjg
 have hw:Wf [.cells (mkC n p X),.cells (atC a),.cells [.int .i64 0,.int .i64 0,.nils]]:=by
  refine Qa9 (Qab (Qay hX) (Qab Qdo (Qab rfl Qaq)))
 have k1:=Wdq (slo p.atoms) a (by rw [Qfg];omega) _ hw
 rw [Qfg] at k1
 have l2:∀H:Objs,Qbt (.cells (mkC n p X)::H) (.ptr 0 4)=some (vG vAtm 7 p.atoms,.cells (mkA n p X)::H):=fun H=>Wdr
 have b1:=We8 (a:=a)
 have a1:∀U,appV false true 7 80 U (vG vAtm 7 p.atoms) (.sl [.agg (atC a)] .no)=some (vG vAtm 7 (p.atoms++[a])):=fun U=>Qz9 hp
 have s1:∀H:Objs,stV (.cells (mkA n p X)::H) 1 (.ptr 0 4) (vSl vAtm (slo (p.atoms++[a]))) (vG vAtm 7 (p.atoms++[a]))=some (.undef,.cells (mkC n (addA p a) X)::H):=fun H=>Wh2
 have l3:∀H:Objs,eL (.cells (mkC n (addA p a) X)::H) false 1 (.ptr 0 4)=some (vSl vAtm (slo (p.atoms++[a]))):=fun H=>Qtz
 have hM:V.rbs 1 (mkC n p X)=true:=rbs0 (Qay hX)
 have hM':V.rbs 1 (mkC n (addA p a) X)=true:=rbs0 (Qay hX)
 have e1:(slo (p.atoms++[a])).l.length=p.atoms.length+1:=by rw [Qfg,Xas];rfl
 rw [e_Z0]
 unfold Qa1
 cases c:posA a p.atoms 0 with
 |none=>
  rw [c] at k1
  unfold posI at k1
  rw [Qty]
  generalize mkC n p X=M at *
  generalize mkC n (addA p a) X=M' at *
  generalize mkA n p X=MA at *
  generalize hAt:atC a=A at *
  have k2:((p.atoms.length+1:Nat):Int)=(p.atoms.length:Int)+1:=by omega
  simp +contextual -implicitDefEqProofs (disch:=try exact X0d) only [↓reduceIte,go_sem,s_Z0,j_Z0_0,h1,l0,l1,k1,l2,b1,a1,s1,l3,n_vG,Qaf,Qah,e1,k2,Xch]
 |some i=>
  rw [c] at k1
  unfold posI at k1
  rw [Qty]
  generalize mkC n p X=M at *
  generalize hAt:atC a=A at *
  have k2:¬((i:Int)<0):=by omega
  simp +contextual -implicitDefEqProofs (disch:=try exact X0d) only [↓reduceIte,go_sem,s_Z0,j_Z0_0,h1,l0,l1,k1,k2,n_vG,Qaf,Qah]
end
end Go.Proofs.YtapnplljnpconaaGreatDoor
