/- Regions that draw their order: a late step is run. -/
import Derived.Test.YtehbeicmmnjpfaaGreatDoorEwB
set_option linter.unusedSimpArgs false
set_option linter.unusedVariables false
namespace Go.Ev
open Go

section
variable {P : Program} {ops : Array Oper} {l : List DS} {dp : List (List Nat)} {G : Nat → V} {call : FuncId → List V → Objs → Option (V × Objs)} {R : Nat → List V} {S : Nat → Objs} {Q : Exit → Act → World → Prop}
variable {X : Nat → Prop} {L : Nat → Prop} {c : Nat} {us : List Value} {ρ : List V} {w : World} {M : Mem} {ι : Plc} {κ : Own} {rs : Nat → Option Nat} {a : Act}

theorem dly_nostore {op : Op} {i : Ins} (hd : dly i = true) (hc : chkIns P op i = true) : ∀ t p x, op ≠ .store t p x := by
  intro t p x e
  subst e
  cases i <;> first | cases hc | cases hd

theorem dly_nocall {i : Ins} (hd : dly i = true) : isCall i = false := by
  cases i <;> first | rfl | cases hd

theorem wpOp_late {σ σ' : Objs} (h : St M ι X κ w a.tmps.toList ρ σ) (hG : GOK G M ι) {i : Nat} {o : Oper} {s : Step} (ho : ops[i]? = some o) (hc : chkStep P ops o s = true) (hd : dly s.ins = true) {ρ' : List V} (he : evStep G call s ρ σ = some (ρ', σ')) {K : Act → World → Prop}
    (hn : ∀ a' w' M' ι' κ', a'.defers = a.defers → Ext X M ι w M' ι' w' → Kp ι w σ ι' w' σ' → HK ι w w' → St M' ι' X κ' w' a'.tmps.toList ρ' σ' → K a' w') : wpOp P ops Q i K a w := by
  simp only [chkStep, Bool.and_eq_true, beq_iff_eq] at hc
  obtain ⟨⟨hds, hi⟩, hg⟩ := hc
  unfold evStep at he
  simp only [Option.bind_eq_bind, Option.bind_eq_some_iff] at he
  obtain ⟨b, hb, he⟩ := he
  have hw := wanted_ok (ops := ops) h.rep hg hb
  unfold wpOp
  simp only [ho, hw]
  cases b with
  | true =>
    simp only [if_true] at he ⊢
    obtain ⟨nx, v, w', M', ι', κ', hrun, hnx, ⟨hx, hk, hh⟩, hst⟩ := step_all h hG hds hi (dly_nocall hd) he
    rw [← put_toList] at hst
    refine .inl ?_
    unfold Oper.wp
    rw [hrun]
    rcases hnx with rfl | ⟨rfl, rfl⟩
    · exact hn _ w' M' ι' κ' (put_defers' _ _ _) hx hk (hh (dly_nostore hd hi)) hst
    · exact hn _ w' M' ι' κ' (put_defers' _ _ _) hx hk (hh (dly_nostore hd hi)) hst
  | false =>
    simp only [Bool.false_eq_true, if_false, Option.some.injEq, Prod.mk.injEq] at he ⊢
    obtain ⟨rfl, rfl⟩ := he
    refine hn _ _ M ι κ (put_defers' _ _ _) (Ext.refl ..) (Kp.refl ..) (HK.refl _ _) ?_
    rw [put_toList, ← hds]
    exact h.putNone .undef rfl _

theorem GrOK.keep {M' : Mem} {w' : World} {v : Value} {x : V} {bb : Nat} (h : GrOK M w v x) (ho : ownB v x = some bb) (hm : ∀ i, M' bb i = M bb i) (hw : w'.heap[bb]? = w.heap[bb]?) : GrOK M' w' v x := by
  refine ⟨fun xs sz hxx al len cap hv => ?_⟩
  obtain ⟨g1, g2, ws, T, fz, g3, g4⟩ := h.ok xs sz hxx al len cap hv
  have hbb : al.block = bb := by subst hxx hv; simp only [ownB, Option.some.injEq] at ho; exact ho
  exact ⟨g1, fun j hj => by rw [hbb, hm j, ← hbb]; exact g2 j hj, ws, T, fz, by rw [hbb, hw, ← hbb]; exact g3, g4⟩

/-- One more has been run. -/
def also (L : Nat → Prop) (p q : Nat) : Prop := L q ∨ q = p

theorem pend_also {p q : Nat} (h : pend (also L p) c q) : pend L c q ∧ q ≠ p := ⟨⟨h.1, fun hl => h.2 (.inl hl)⟩, fun e => h.2 (.inr e)⟩

theorem Closed.also {p : Nat} (h : Closed l dp L) (hp : p < l.length) (hd : ∀ q ∈ dp.getD p [], L q) : Closed l dp (also L p) :=
  ⟨fun q hq => by rcases hq with hq | rfl; exact h.lt q hq; exact hp, fun q hq r hr => by
    rcases hq with hq | rfl
    · exact .inl (h.dep q hq r hr)
    · exact .inl (hd r hr)⟩

theorem XR_also {p b : Nat} (h : XR X (also L p) c rs b) : XR X L c rs b := by
  rcases h with h | ⟨q, hq, hb⟩
  · exact .inl h
  · exact .inr ⟨q, (pend_also hq).1, hb⟩

/-- A late step has been run. -/
theorem Inv.ran (h : Inv G l dp R S X L c us ρ w M ι κ rs) {p : Nat} (hp : pend L c p) (hd : ∀ q ∈ dp.getD p [], L q) {us' : List Value} {ρ' : List V} {w' : World} {M' : Mem} {ι' : Plc} {κ' : Own} (hslot : SlotOK l R (also L p) ρ')
    (hx : Ext (XR X L c rs) M ι w M' ι' w') (hdom : ∀ o, o < (S c).length → rdAt G l R S p ≠ .made o → ι' o = ι o) (hh : HK ι w w') (hst : St M' ι' (XR X (also L p) c rs) κ' w' us' ρ' (S c)) : Inv G l dp R S X (also L p) c us' ρ' w' M' ι' κ' rs := by
  have hpc := h.cn
  refine ⟨h.cn, h.cl.also (by have := hp.1; omega) hd, fun q hq => ?_, fun q hq hdq => .inl (h.eff q hq hdq), hslot, hst, fun q b hq => h.rsx q b (pend_also hq).1, fun q r b hq hr => h.rsi q r b (pend_also hq).1 (pend_also hr).1,
    fun q hq => h.same q (pend_also hq).1, fun q hq => h.quiet q (pend_also hq).1, fun q o hq ho => ?_, fun q r o hq hr => h.mdist q r o (pend_also hq).1 (pend_also hr).1, fun q o off hq ho => ?_⟩
  · rcases hq with hq | rfl
    · exact h.lt q hq
    · exact hp.1
  · obtain ⟨hq, hne⟩ := pend_also hq
    have hs := h.same q hq
    rw [ho] at hs
    obtain ⟨cs, _, h2⟩ := hs
    rw [hdom o (List.getElem?_eq_some_iff.1 (get_cells h2)).1 (fun e => hne (h.mdist q p o hq hp ho e))]
    exact h.made q o hq ho
  · obtain ⟨hq, hne⟩ := pend_also hq
    obtain ⟨h1, h2⟩ := h.took q o off hq ho
    refine ⟨h1, ?_⟩
    rcases h2 with ⟨h2, h3⟩ | ⟨xs, s, b, bb, v, cs, ht⟩
    · exact .inl ⟨by rw [hdom o h1 (h3 p hp)]; exact h2, fun r hr => h3 r (pend_also hr).1⟩
    · have hXb : XR X L c rs bb := .inr ⟨q, hq, ht.rs⟩
      exact .inr ⟨xs, s, b, bb, v, cs, hx.i.le _ _ ht.i, by unfold World.cell?; rw [hh o b ht.i]; exact ht.cell, ht.rep.mono hx.m hx.i, ht.own, ht.rs, ht.gr.keep ht.own (fun i => hx.mX bb i hXb) (hx.keep bb hXb), ht.obj, ht.val⟩

/-- What is known when a step may be run. -/
theorem ready_step (hk : DrwOK P ops l dp) (hc : Canon G call l R S) (h : Inv G l dp R S X L c us ρ w M ι κ rs) {p : Nat} (hpl : p < l.length) (hn : ¬ L p) (hd : ∀ q ∈ dp.getD p [], L q) :
    ρ.length = (R p).length ∧ (∀ t ∈ (dsAt l p).s.rd, ρ[t]? = (R p)[t]?) :=
  ⟨h.slot.1.trans (hc.len p (by omega)).symm, fun t ht => slot_read hk h.cl h.slot hpl hn hd (.inl ht)⟩

theorem slots_of (hk : DrwOK P ops l dp) (hc : Canon G call l R S) (h : Inv G l dp R S X L c us ρ w M ι κ rs) {p : Nat} (hpl : p < l.length) (hn : ¬ L p) {σ σ' : Objs} {τ : List V} (he : evStep G call (dsAt l p).s ρ σ = some (τ, σ'))
    (hw : ∀ t ∈ (dsAt l p).s.wr, τ[t]? = (R (p + 1))[t]?) : SlotOK l R (also L p) τ :=
  slot_step hk hc h.cl h.slot hpl hn (evStep_frame he).1 hw (evStep_frame he).2

/-- A late step that does at the objects as they are now what it did in the one order. -/
theorem Inv.exec (hk : DrwOK P ops l dp) (hc : Canon G call l R S) (hG : GOK G M ι) (h : Inv G l dp R S X L c a.tmps.toList ρ w M ι κ rs) {p : Nat} (hp : pend L c p) (hd : ∀ q ∈ dp.getD p [], L q) (hdl : dly (dsAt l p).s.ins = true)
    (hre : ∀ τ, evStep G call (dsAt l p).s ρ (S p) = some (τ, S (p + 1)) → evStep G call (dsAt l p).s ρ (S c) = some (τ, S c)) {K : Act → World → Prop}
    (hn : ∀ a' w' M' ι' κ' ρ', a'.defers = a.defers → Ext (XR X L c rs) M ι w M' ι' w' → (∀ o, o < (S c).length → rdAt G l R S p ≠ .made o → ι' o = ι o) → HK ι w w' → Inv G l dp R S X (also L p) c a'.tmps.toList ρ' w' M' ι' κ' rs → K a' w') : wpOp P ops Q (dsAt l p).op K a w := by
  have hpl : p < l.length := by have := hp.1; have := h.cn; omega
  obtain ⟨o, ho, hck⟩ := hk.step p hpl
  obtain ⟨hl, hr⟩ := ready_step hk hc h hpl hp.2 hd
  obtain ⟨τ, he, hw⟩ := evStep_congr (canon_late hk hc hpl hdl) hl hr
  have hec := hre τ he
  refine wpOp_late h.st hG ho hck hdl hec fun a' w' M' ι' κ' hdf hx hkp hh hst => ?_
  exact hn a' w' M' ι' κ' τ hdf hx (fun o ho _ => hkp.dom o ho) hh (h.ran hp hd (slots_of hk hc h hpl hp.2 hec hw) hx (fun o ho _ => hkp.dom o ho) hh (hst.lessX fun b hb => XR_also hb))
end
end Go.Ev
