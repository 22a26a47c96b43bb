/- Regions that draw their order: every late step. -/
import Derived.Test.YtehbeicmmnjpfaaGreatDoorEwC
set_option linter.unusedSimpArgs false
set_option linter.unusedVariables false
namespace Go.Ev
open Go

section
variable {P : Program} {ops : Array Oper} {l : List DS} {dp : List (List Nat)} {G : Nat → V} {call : FuncId → List V → Objs → Option (V × Objs)} {R : Nat → List V} {S : Nat → Objs} {Q : Exit → Act → World → Prop}
variable {X : Nat → Prop} {L : Nat → Prop} {c : Nat} {us : List Value} {ρ : List V} {w : World} {M : Mem} {ι : Plc} {κ : Own} {rs : Nat → Option Nat} {a : Act}

theorem reads_congr {A A' : Arg → V} {σ : Objs} {i : Ins} (h : ∀ x ∈ i.args, A x = A' x) : reads A σ i = reads A' σ i := by
  cases i <;> first | rfl | (simp only [reads]; rw [h _ (List.mem_cons_self ..)])

theorem part_same {ag : Bool} {sz off : Nat} {cs ds : List V} {y : V} (hl : cs.length = ds.length) (he : ((cs.drop off).take (if ag then sz else 1)).map V.nogr = ((ds.drop off).take (if ag then sz else 1)).map V.nogr) (h : part ag sz cs off = some y) : part ag sz ds off = some y := by
  unfold part at h ⊢
  cases ag with
  | true =>
    simp only [if_true] at h he ⊢
    rw [← hl]
    split at h
    · rename_i hle
      rw [if_pos hle, ← he]
      exact h
    · cases h
  | false =>
    simp only [Bool.false_eq_true, if_false] at h he ⊢
    split at h
    · rename_i h1
      rw [if_pos h1]
      have e : ∀ es : List V, (((es.drop off).take 1).map V.nogr)[0]? = es[off]?.map V.nogr := fun es => by
        rw [List.getElem?_map, List.getElem?_take, if_pos (by omega), List.getElem?_drop, Nat.add_zero]
      rw [← e ds, ← he, e cs]
      exact h
    · cases h

/-- What was read is as it was: so the step does the same. -/
theorem relook {A T : Arg → V} {σ σ2 σ' : Objs} {i : Ins} {v : V} (hd : dly i = true) (h : evIns call A T σ i = some (v, σ')) (hs : Same σ σ2 (reads A σ i)) (hnt : ∀ o off, reads A σ i ≠ .took o off) (hnm : ∀ o, reads A σ i ≠ .made o) : evIns call A T σ2 i = some (v, σ2) := by
  by_cases hn : neutral i = true
  · exact (evIns_neutral hn h).2
  · cases i <;> (try (exact absurd hd hn)) <;> (try (cases hd; done))
    case alloc => exact absurd rfl (hnm _)
    case box => exact absurd rfl (hnm _)
    case load ag sz x =>
      simp only [evIns, evPure, Option.bind_eq_bind, Option.bind_eq_some_iff, Option.some.injEq, Prod.mk.injEq, and_true] at h ⊢
      obtain ⟨y, hy, hv, _⟩ := h
      refine ⟨y, ?_, hv⟩
      simp only [reads] at hs
      unfold evLoad at hy ⊢
      split at hy
      · rename_i o off ho
        simp only [ho] at hs ⊢
        obtain ⟨cs, ds, h1, h2, h3, h4⟩ := hs
        simp only [Bool.false_eq_true, if_false] at h4
        simp only [Option.bind_eq_bind, h1, Option.bind_some] at hy
        simp only [Option.bind_eq_bind, h2, Option.bind_some]
        exact part_same h3 h4 hy
      · exact hy
      · cases hy
    case loadT x =>
      simp only [evIns] at h ⊢
      simp only [reads] at hs hnt
      split at h
      · rename_i o off ho
        simp only [ho] at hs hnt ⊢
        simp only [Option.bind_eq_bind, Option.bind_eq_some_iff] at h
        obtain ⟨cs, hcs, y, hy, h⟩ := h
        simp only [hcs, Option.bind_some, hy] at hs hnt
        split at h
        · rename_i xs s
          exact absurd rfl (hnt o off)
        · cases h
        · rename_i hng hnl
          simp only [Option.some.injEq, Prod.mk.injEq] at h
          have hs' : Same σ σ2 (.same true o off 1) := by
            split at hs
            · rename_i xs s e
              cases e
              exact absurd rfl (hng xs s)
            · exact hs
          obtain ⟨cs', ds, h1, h2, h3, h4⟩ := hs'
          rw [hcs] at h1; cases h1
          simp only [if_true] at h4
          have e : ∀ es : List V, ((es.drop off).take 1)[0]? = es[off]? := fun es => by rw [List.getElem?_take, if_pos (by omega), List.getElem?_drop, Nat.add_zero]
          have hy2 : ds[off]? = some y := by rw [← e ds, ← h4, e cs]; exact hy
          simp only [Option.bind_eq_bind, h2, Option.bind_some, hy2]
          rw [← h.1]
      · simp only [Option.bind_eq_bind, Option.bind_eq_some_iff, Option.some.injEq, Prod.mk.injEq, and_true] at h ⊢
        obtain ⟨y, hy, hv, _⟩ := h
        exact ⟨y, hy, hv⟩
      · cases h

theorem rdAt_of (hk : DrwOK P ops l dp) (hc : Canon G call l R S) (h : Inv G l dp R S X L c us ρ w M ι κ rs) {p : Nat} (hp : pend L c p) (hd : ∀ q ∈ dp.getD p [], L q) :
    rdAt G l R S p = if (wanted ρ (dsAt l p).s.gd).getD false then reads (arg G ρ) (S p) (dsAt l p).s.ins else .none := by
  have hpl : p < l.length := by have := hp.1; have := h.cn; omega
  obtain ⟨hl, hr⟩ := ready_step hk hc h hpl hp.2 hd
  have hr' : ∀ t ∈ (dsAt l p).s.rd, ρ.getD t .undef = (R p).getD t .undef := fun t ht => by simp only [List.getD, hr t ht]
  unfold rdAt
  rw [wanted_congr (ρ' := ρ) (ρ := R p) fun n hn => hr' n (List.mem_append_right _ hn)]
  rw [reads_congr (A := arg G ρ) (A' := arg G (R p)) fun x hx => by
    unfold arg
    rw [argT_congr (ρ' := ρ) (ρ := R p) fun n hn => hr' n (List.mem_append_left _ (List.mem_filterMap.2 ⟨x, hx, hn⟩))]]

/-- A step that reads, or looks at slots alone. -/
theorem Inv.exec_same (hk : DrwOK P ops l dp) (hc : Canon G call l R S) (hG : GOK G M ι) (h : Inv G l dp R S X L c a.tmps.toList ρ w M ι κ rs) {p : Nat} (hp : pend L c p) (hd : ∀ q ∈ dp.getD p [], L q) (hdl : dly (dsAt l p).s.ins = true)
    (hS : S (p + 1) = S p) (hnt : ∀ o off, rdAt G l R S p ≠ .took o off) (hnm : ∀ o, rdAt G l R S p ≠ .made o) {K : Act → World → Prop}
    (hn : ∀ a' w' M' ι' κ' ρ', a'.defers = a.defers → Ext (XR X L c rs) M ι w M' ι' w' → (∀ o, o < (S c).length → rdAt G l R S p ≠ .made o → ι' o = ι o) → HK ι w w' → Inv G l dp R S X (also L p) c a'.tmps.toList ρ' w' M' ι' κ' rs → K a' w') : wpOp P ops Q (dsAt l p).op K a w := by
  refine h.exec hk hc hG hp hd hdl (fun τ he => ?_) hn
  have hrd := rdAt_of hk hc h hp hd
  have hsm := h.same p hp
  rw [hS] at hsm
  unfold evStep ev1 at he ⊢
  simp only [Option.bind_eq_bind, Option.bind_eq_some_iff] at he
  obtain ⟨b, hb, he⟩ := he
  simp only [Option.bind_eq_bind, hb, Option.bind_some]
  rw [hb] at hrd
  cases b with
  | false =>
    simp only [Bool.false_eq_true, if_false, Option.some.injEq, Prod.mk.injEq] at he ⊢
    exact ⟨he.1, trivial⟩
  | true =>
    simp only [if_true, Option.bind_eq_some_iff, Option.some.injEq, Prod.mk.injEq] at he ⊢
    simp only [Option.getD_some, if_true] at hrd
    obtain ⟨⟨v, σ2⟩, hi, hτ, _⟩ := he
    rw [hrd] at hsm hnt hnm
    exact ⟨(v, S c), relook hdl hi hsm hnt hnm, hτ, rfl⟩
end
end Go.Ev
