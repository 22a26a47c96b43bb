/- Regions that draw their order: an effect; what is kept from the region's beginning on. -/
import Derived.Test.YtehbeicmmnjpfaaGreatDoorEwE
set_option linter.unusedSimpArgs false
set_option linter.unusedVariables false
namespace Go.Ev
open Go

section
variable {P : Program} {ops : Array Oper} {l : List DS} {dp : List (List Nat)} {G : Nat → V} {call : FuncId → List V → Objs → Option (V × Objs)} {R : Nat → List V} {S : Nat → Objs} {Q : Exit → Act → World → Prop}
variable {X : Nat → Prop} {L : Nat → Prop} {c : Nat} {us : List Value} {ρ : List V} {w w0 : World} {M M0 : Mem} {ι ι0 : Plc} {κ : Own} {rs : Nat → Option Nat} {a : Act}

theorem Kp.late (h : St M ι X κ w us ρ (S c)) {σ' : Objs} (hl : Late (S c) σ') : Kp ι w (S c) ι w σ' := by
  refine ⟨hl.len, fun _ _ => rfl, fun o b i hi hlk => ⟨?_, rfl⟩⟩
  cases hl with
  | stay => exact hlk
  | took o' off cs xs s h1 h2 =>
    rw [lkAt_set h1] at hlk
    split at hlk
    · exact absurd hlk.1 (by simp [V.isLk])
    · exact hlk
  | made cs =>
    obtain ⟨ds, x, h1, h2, h3⟩ := hlk
    rw [List.getElem?_append_left (h.wd.lt_of hi)] at h1
    exact ⟨ds, x, h1, h2, h3⟩

/-- From the region's beginning on. -/
structure Acc (G : Nat → V) (l : List DS) (R : Nat → List V) (S : Nat → Objs) (X : Nat → Prop) (L : Nat → Prop) (c : Nat) (M0 : Mem) (ι0 : Plc) (w0 : World) (M : Mem) (ι : Plc) (w : World) : Prop where
  ext : Ext X M0 ι0 w0 M ι w
  kp : Kp ι0 w0 (S 0) ι w (S c)
  mge : ∀ p o, pend L c p → rdAt G l R S p = .made o → (S 0).length ≤ o

theorem adv (hk : DrwOK P ops l dp) (hc : Canon G call l R S) : ∀ (n c : Nat) (κ : Own) (rs : Nat → Option Nat), l.length - c = n → Inv G l dp R S X L c us ρ w M ι κ rs → Acc G l R S X L c M0 ι0 w0 M ι w →
    ∃ c' κ' rs', Inv G l dp R S X L c' us ρ w M ι κ' rs' ∧ Acc G l R S X L c' M0 ι0 w0 M ι w ∧ (c' < l.length → dly (dsAt l c').s.ins = false)
  | 0, c, κ, rs, hn, h, hA => ⟨c, κ, rs, h, hA, fun hlt => by omega⟩
  | n + 1, c, κ, rs, hn, h, hA => by
    cases hd : dly (dsAt l c).s.ins with
    | false => exact ⟨c, κ, rs, h, hA, fun _ => hd⟩
    | true =>
      have hcn : c < l.length := by omega
      have hcase := late_case hk hc hcn hd
      obtain ⟨κ', rs', h'⟩ := h.advance hk hc hcn hd
      refine adv hk hc n (c + 1) κ' rs' (by omega) h' ⟨hA.ext, hA.kp.trans hA.ext.i (Kp.late h.st hcase.late), fun p o hp ho => ?_⟩
      rcases pend_succ hp with rfl | hp
      · cases hcase with
        | none _ h2 => rw [h2] at ho; cases ho
        | same _ _ _ _ _ h2 => rw [h2] at ho; cases ho
        | took _ _ _ _ _ _ _ _ h2 => rw [h2] at ho; cases ho
        | made _ _ h2 => rw [h2] at ho; cases ho; exact hA.kp.len
      · exact hA.mge p o hp ho

/-- A late step keeps it. -/
theorem Acc.ran (hA : Acc G l R S X L c M0 ι0 w0 M ι w) {p : Nat} (hp : pend L c p) {M' : Mem} {ι' : Plc} {w' : World} (hx : Ext (XR X L c rs) M ι w M' ι' w') (hdom : ∀ o, o < (S c).length → rdAt G l R S p ≠ .made o → ι' o = ι o) (hh : HK ι w w') :
    Acc G l R S X (also L p) c M0 ι0 w0 M' ι' w' := by
  refine ⟨hA.ext.trans (hx.less fun b hb => .inl hb), ⟨hA.kp.len, fun o ho => ?_, fun o b i hi hlk => ?_⟩, fun q o hq ho => hA.mge q o (pend_also hq).1 ho⟩
  · rw [hdom o (Nat.lt_of_lt_of_le ho hA.kp.len) (fun e => by have := hA.mge p o hp e; omega)]
    exact hA.kp.dom o ho
  · obtain ⟨h1, h2⟩ := hA.kp.lk o b i hi hlk
    refine ⟨h1, ?_⟩
    have : w'.cell? ⟨b, i, none⟩ = w.cell? ⟨b, i, none⟩ := by unfold World.cell?; rw [hh o b (hA.ext.i.le _ _ hi)]
    rw [this, h2]

theorem rdAt_neutral {p : Nat} (h : neutral (dsAt l p).s.ins = true) : rdAt G l R S p = .none := by
  unfold rdAt
  rw [reads_neutral h]
  split <;> rfl

/-- An effect. -/
theorem Inv.effect (hk : DrwOK P ops l dp) (hc : Canon G call l R S) (hG : GOK G M ι) (hS : ∀ f, Sound P G f (call f)) (h : Inv G l dp R S X L c a.tmps.toList ρ w M ι κ rs) (hA : Acc G l R S X L c M0 ι0 w0 M ι w) (hcl : c < l.length) (hd : ∀ q ∈ dp.getD c [], L q) (hdl : dly (dsAt l c).s.ins = false)
    {K : Act → World → Prop} (hn : ∀ a' w' M' ι' κ' ρ', a'.defers = a.defers → Inv G l dp R S X (also L c) (c + 1) a'.tmps.toList ρ' w' M' ι' κ' rs → Acc G l R S X (also L c) (c + 1) M0 ι0 w0 M' ι' w' → K a' w') : wpOp P ops Q (dsAt l c).op K a w := by
  have hLc : ¬ L c := fun hl => by have := h.lt c hl; omega
  obtain ⟨op, hop, hck⟩ := hk.step c hcl
  obtain ⟨hl, hr⟩ := ready_step hk hc h hcl hLc hd
  obtain ⟨σ0, σ1, h1, h2, h3, h4⟩ := hc c hcl
  obtain ⟨τ, he, hwr⟩ := evStep_congr h2 hl hr
  have hslot := slots_of hk hc h hcl hLc he hwr
  obtain ⟨l1, l2, l3⟩ := lock_spec (M := M) (ι := ι) (X := XR X L c rs) (κ := κ) (w := w) (us := a.tmps.toList) (ρ := ρ) _ _ _ h1
  refine wpOp_ev (l1 h.st) hG hop hck hS he fun a' w' hgot => ?_
  obtain ⟨hdf, M', ι', κ', hx, hkp, hst⟩ := hgot
  obtain ⟨o1, o2, o3, o4⟩ := open_spec (M := M') (ι := ι') (X := XR X L c rs) (κ := κ') (w := w') (us := a'.tmps.toList) (ρ := τ) _ _ _ h3
  have hst' := o1 hst
  have hlen : (S c).length ≤ (S (c + 1)).length := by have := hkp.len; omega
  have hps : ∀ {q}, pend (also L c) (c + 1) q → pend L c q := fun {q} hq => by
    rcases pend_succ hq with rfl | hq
    · exact absurd (.inr rfl) hq.2
    · exact (pend_also hq).1
  have hsp : ∀ {q}, pend L c q → pend (also L c) (c + 1) q := fun {q} hq => ⟨by have := hq.1; omega, fun hl => by
    rcases hl with hl | rfl
    · exact hq.2 hl
    · exact absurd hq.1 (Nat.lt_irrefl _)⟩
  have hun : ∀ q, pend L c q → rdAt G l R S q = .none ∨ q ∈ (dsAt l c).un := fun q hq => by
    rcases hk.pair c hcl q hq.1 with hm | ⟨_, _, hm⟩
    · exact absurd (hd q hm) hq.2
    · rcases hm with hm | hm | hm
      · rw [hdl] at hm; cases hm
      · exact .inl (rdAt_neutral hm)
      · exact .inr hm
  have hsame : ∀ q, pend L c q → Same (S c) (S (c + 1)) (rdAt G l R S q) := fun q hq => by
    rcases hun q hq with hm | hm
    · rw [hm]; trivial
    · exact stable_same (h4 q hm)
  have hdom : ∀ o, o < (S c).length → ι' o = ι o := fun o ho => hkp.dom o (by omega)
  have hkp' : Kp ι w (S c) ι' w' (S (c + 1)) := by
    refine ⟨hlen, hdom, fun o b i hi hlk => ?_⟩
    obtain ⟨q1, q2⟩ := o3 o i hlk
    obtain ⟨q3, q4⟩ := hkp.lk o b i hi q1
    exact ⟨(l3 o i q3).resolve_right q2, q4⟩
  refine hn a' w' M' ι' κ' τ hdf ⟨by omega, h.cl.also hcl hd, fun q hq => ?_, fun q hq hdq => ?_, hslot, hst'.lessX fun b hb => ?_, fun q b hq => h.rsx q b (hps hq), fun q r b hq hr => h.rsi q r b (hps hq) (hps hr),
    fun q hq => (h.same q (hps hq)).trans (hsame q (hps hq)), fun q hq => (h.quiet q (hps hq)).same (hsame q (hps hq)), fun q o hq ho => ?_, fun q r o hq hr => h.mdist q r o (hps hq) (hps hr), fun q o off hq ho => ?_⟩ ⟨hA.ext.trans (hx.less fun b hb => .inl hb), hA.kp.trans hA.ext.i hkp', fun q o hq ho => hA.mge q o (hps hq) ho⟩
  · rcases hq with hq | rfl
    · have := h.lt q hq; omega
    · omega
  · rcases Nat.lt_or_ge q c with hlt | hge
    · exact .inl (h.eff q hlt hdq)
    · exact .inr (by omega)
  · rcases hb with hb | ⟨q, hq, hb⟩
    · exact .inl hb
    · exact .inr ⟨q, hps hq, hb⟩
  · have hs := h.same q (hps hq)
    rw [ho] at hs
    obtain ⟨cs, _, g2⟩ := hs
    rw [hdom o (List.getElem?_eq_some_iff.1 (get_cells g2)).1]
    exact h.made q o (hps hq) ho
  · obtain ⟨g1, g2⟩ := h.took q o off (hps hq) ho
    refine ⟨by omega, ?_⟩
    rcases g2 with ⟨g2, g3⟩ | ⟨xs, s, b, bb, v, cs, ht⟩
    · exact .inl ⟨by rw [hdom o g1]; exact g2, fun r hr => g3 r (hps hr)⟩
    · have hXb : XR X L c rs bb := .inr ⟨q, hps hq, ht.rs⟩
      have hmem : (o, off) ∈ ((dsAt l c).un.map (rdAt G l R S)).filterMap Rd.cell := by
        refine List.mem_filterMap.2 ⟨rdAt G l R S q, List.mem_map.2 ⟨q, (hun q (hps hq)).resolve_left (fun e => by rw [ho] at e; cases e), rfl⟩, ?_⟩
        rw [ho]; rfl
      have hlk := hkp.lk o b off ht.i (o4 _ hmem)
      exact .inr ⟨xs, s, b, bb, v, cs, hx.i.le _ _ ht.i, by rw [hlk.2]; exact ht.cell, ht.rep.mono hx.m hx.i, ht.own, ht.rs, ht.gr.keep ht.own (fun i => hx.mX bb i hXb) (hx.keep bb hXb), ht.obj, ht.val⟩
end
end Go.Ev
