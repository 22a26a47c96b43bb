/- Regions that draw their order: late steps that take, or make. -/
import Derived.Test.YtehbeicmmnjpfaaGreatDoorEwD
set_option linter.unusedSimpArgs false
set_option linter.unusedVariables false
namespace Go.Ev
open Go

section
variable {P : Program} {ops : Array Oper} {l : List DS} {dp : List (List Nat)} {G : Nat → V} {call : FuncId → List V → Objs → Option (V × Objs)} {R : Nat → List V} {S : Nat → Objs} {Q : Exit → Act → World → Prop}
variable {X : Nat → Prop} {L : Nat → Prop} {c : Nat} {us : List Value} {ρ : List V} {w : World} {M : Mem} {ι : Plc} {κ : Own} {rs : Nat → Option Nat} {a : Act}

theorem run_load1 {o : Oper} {t : TypeId} {x : Operand} {b off : Nat} {u : Value} (ho : o.op = .load t x) (ht : chkTy P t false 1 = true) (hev : a.eval x = .pointer (some ⟨b, off, none⟩)) (hc : w.cell? ⟨b, off, none⟩ = some u) : (execOp a.eval o).run P w = .ok (.value u) w := by
  have hag : agOf P t = some false := by simp only [chkTy, Bool.and_eq_true, beq_iff_eq] at ht; exact ht.1.1
  unfold execOp
  rw [ho]
  simp only [Instr.loadAt, Instr.sureAddr, hev, loadVar, sem_bind_run, sem_pure_run, run_isAgg hag, Result.andThen, Bool.false_eq_true, if_false, run_load hc]

theorem wpOp_value {i : Nat} {o : Oper} {s : Step} {K : Act → World → Prop} {v : Value} {w' : World} (hr : Reps M ι a.tmps.toList ρ) (ho : ops[i]? = some o) (hg : chkGd ops o.guard s.gd = true) (hw : wanted ρ s.gd = some true) (hrun : (execOp a.eval o).run P w = .ok (.value v) w')
    (hK : K (a.put o.dst v) w') : wpOp P ops Q i K a w := by
  have := wanted_ok (ops := ops) hr hg hw
  unfold wpOp
  simp only [ho, this, if_true]
  refine .inl ?_
  unfold Oper.wp
  rw [hrun]
  exact hK

/-- A late step that takes what a cell's holder may do. -/
theorem Inv.exec_took (hk : DrwOK P ops l dp) (hc : Canon G call l R S) (hG : GOK G M ι) (h : Inv G l dp R S X L c a.tmps.toList ρ w M ι κ rs) {p : Nat} (hp : pend L c p) (hd : ∀ q ∈ dp.getD p [], L q) (hdl : dly (dsAt l p).s.ins = true)
    {o off : Nat} (hto : rdAt G l R S p = .took o off) {K : Act → World → Prop}
    (hn : ∀ a' w' M' ι' κ' ρ', a'.defers = a.defers → Ext (XR X L c rs) M ι w M' ι' w' → (∀ o, o < (S c).length → rdAt G l R S p ≠ .made o → ι' o = ι o) → HK ι w w' → Inv G l dp R S X (also L p) c a'.tmps.toList ρ' w' M' ι' κ' rs → K a' w') : wpOp P ops Q (dsAt l p).op K a w := by
  have hpl : p < l.length := by have := hp.1; have := h.cn; omega
  obtain ⟨op, hop, hck⟩ := hk.step p hpl
  obtain ⟨hl, hr⟩ := ready_step hk hc h hpl hp.2 hd
  obtain ⟨τ, he, hwr⟩ := evStep_congr (canon_late hk hc hpl hdl) hl hr
  have hslot := slots_of hk hc h hpl hp.2 he hwr
  simp only [chkStep, Bool.and_eq_true, beq_iff_eq] at hck
  obtain ⟨⟨hds, hi⟩, hg⟩ := hck
  have hrd := rdAt_of hk hc h hp hd
  rw [hto] at hrd
  unfold evStep ev1 at he
  simp only [Option.bind_eq_bind, Option.bind_eq_some_iff] at he
  obtain ⟨b0, hb, he⟩ := he
  rw [hb] at hrd
  cases b0 with
  | false => cases hrd
  | true =>
    simp only [if_true, Option.bind_eq_some_iff, Option.some.injEq, Prod.mk.injEq, Option.getD_some] at he hrd
    obtain ⟨⟨v, σ2⟩, hev, hτ, _⟩ := he
    generalize hins : (dsAt l p).s.ins = ins at *
    cases ins <;> (try (cases hdl; done)) <;> (try (cases hrd; done))
    case load ag sz x => simp only [reads] at hrd; split at hrd <;> cases hrd
    case loadT y =>
      simp only [reads] at hrd
      split at hrd
      · rename_i o' off' hy
        split at hrd
        · rename_i xs s hval
          cases hrd
          rw [Option.bind_eq_some_iff] at hval
          obtain ⟨cs, hcs, hcc⟩ := hval
          simp only [evIns, hy, hcs, hcc, Option.bind_eq_bind, Option.bind_some, Option.some.injEq, Prod.mk.injEq] at hev
          obtain ⟨rfl, _⟩ := hev
          cases hoo : op.op <;> rw [hoo] at hi <;> (try (cases hi; done))
          rename_i t x
          simp only [chkIns, Bool.and_eq_true] at hi
          have hA := Opd.of_state h.st.rep hG
          have hvx := hA.ok _ _ hi.2
          rw [hy] at hvx
          obtain ⟨b, hxb, hib⟩ := hvx.inv_ptr
          obtain ⟨hlen, hcase⟩ := h.took p o off hp hto
          rcases hcase with ⟨hno, _⟩ | ⟨xs', s', b', bb, u, cs', ht⟩
          · rw [hib] at hno; cases hno
          · have e1 := ht.i
            rw [hib] at e1; cases e1
            have e2 := ht.obj
            rw [get_cells hcs] at e2; cases e2
            have e3 := ht.val
            rw [hcc] at e3; cases e3
            have hrun := run_load1 (P := P) (w := w) hoo hi.1 hxb ht.cell
            have hXb : XR X L c rs bb := .inr ⟨p, hp, ht.rs⟩
            have hfree : Free M ι (XR X (also L p) c rs) κ w bb := by
              refine ⟨?_, fun hx => ?_, fun o' ho' => h.st.wd.xobj o' bb ho' hXb, h.st.wd.xlt bb hXb⟩
              · cases hkb : κ bb with
                | none => rfl
                | some q => exact absurd hXb (h.st.wd.kap bb q hkb).1
              · rcases hx with hx | ⟨q, hq, hb'⟩
                · exact h.rsx p bb hp ht.rs hx
                · obtain ⟨hq, hne⟩ := pend_also hq
                  exact hne (h.rsi q p bb hq hp hb' ht.rs)
            obtain ⟨κ', hst⟩ := (h.st.lessX (X' := XR X (also L p) c rs) fun b hb => XR_also hb).putOwn ht.rep (fun b hb' => by rw [ht.own] at hb'; cases hb'; exact ⟨hfree, ht.gr⟩) op.dst
            rw [← put_toList] at hst
            have hτ' : τ = put ρ op.dst (.sl xs (.gr s)) := by rw [hds, ← hτ]; rfl
            rw [← hτ'] at hst
            exact wpOp_value h.st.rep hop hg hb hrun (hn _ w M ι κ' τ (put_defers' _ _ _) (Ext.refl ..) (fun _ _ _ => rfl) (HK.refl _ _) (h.ran hp hd hslot (Ext.refl ..) (fun _ _ _ => rfl) (HK.refl _ _) hst))
        · cases hrd
      · cases hrd

/-- A late step that makes a variable. -/
theorem Inv.exec_made (hk : DrwOK P ops l dp) (hc : Canon G call l R S) (hG : GOK G M ι) (h : Inv G l dp R S X L c a.tmps.toList ρ w M ι κ rs) {p : Nat} (hp : pend L c p) (hd : ∀ q ∈ dp.getD p [], L q) (hdl : dly (dsAt l p).s.ins = true)
    {o : Nat} (hto : rdAt G l R S p = .made o) {K : Act → World → Prop}
    (hn : ∀ a' w' M' ι' κ' ρ', a'.defers = a.defers → Ext (XR X L c rs) M ι w M' ι' w' → (∀ o, o < (S c).length → rdAt G l R S p ≠ .made o → ι' o = ι o) → HK ι w w' → Inv G l dp R S X (also L p) c a'.tmps.toList ρ' w' M' ι' κ' rs → K a' w') : wpOp P ops Q (dsAt l p).op K a w := by
  have hpl : p < l.length := by have := hp.1; have := h.cn; omega
  obtain ⟨op, hop, hck⟩ := hk.step p hpl
  obtain ⟨hl, hr⟩ := ready_step hk hc h hpl hp.2 hd
  obtain ⟨τ, he, hwr⟩ := evStep_congr (canon_late hk hc hpl hdl) hl hr
  have hslot := slots_of hk hc h hpl hp.2 he hwr
  simp only [chkStep, Bool.and_eq_true, beq_iff_eq] at hck
  obtain ⟨⟨hds, hi⟩, hg⟩ := hck
  have hrd := rdAt_of hk hc h hp hd
  rw [hto] at hrd
  have hsm := h.same p hp
  rw [hto] at hsm
  obtain ⟨cs, hs1, hs2⟩ := hsm
  have hι0 := h.made p o hp hto
  -- how it ends, however it was made
  have fin : ∀ (as : Array Value) (T : TypeId), wanted ρ (dsAt l p).s.gd = some true → (execOp a.eval op).run P w = .ok (.value (.pointer (some ⟨w.heap.size, 0, none⟩))) (pushB w (.cells as T)) → τ = put ρ op.dst (.ptr o 0) → Reps M ι as.toList cs → (∀ x ∈ cs, x.one = true) → (∀ x ∈ cs, x.nogr = x) → wpOp P ops Q (dsAt l p).op K a w := by
    intro as T hb hrun hτ hrep hone hng
    have hcl : cs.length = as.size := by have := hrep.1; simpa using this.symm
    obtain ⟨M', ι', hx, hi', hst, hdm⟩ := h.st.mapO hι0 (get_cells hs2) as T (0, 0) (by rw [hcl, ← Array.length_toList, List.take_length]; exact hrep) (fun i _ => by unfold frozenAt; simp) hone (fun x hx v => by rw [← hng x hx]; exact ownB_nogr _ _)
    have hst2 := (hst.lessX (X' := XR X (also L p) c rs) fun b hb => XR_also hb).putNone (.ptr o 0 _ hi') rfl op.dst
    rw [← put_toList, ← hτ] at hst2
    have hdom : ∀ o', o' < (S c).length → rdAt G l R S p ≠ .made o' → ι' o' = ι o' := fun o' _ hne => hdm o' (fun e => hne (by rw [hto, e]))
    exact wpOp_value h.st.rep hop hg hb hrun (hn _ _ M' ι' κ τ (put_defers' _ _ _) hx hdom (h.st.wd.hkPush' _) (h.ran hp hd hslot hx hdom (h.st.wd.hkPush' _) hst2))
  unfold evStep ev1 at he
  simp only [Option.bind_eq_bind, Option.bind_eq_some_iff] at he
  obtain ⟨b0, hb, he⟩ := he
  rw [hb] at hrd
  cases b0 with
  | false => cases hrd
  | true =>
    simp only [if_true, Option.bind_eq_some_iff, Option.some.injEq, Prod.mk.injEq, Option.getD_some] at he hrd
    obtain ⟨⟨v, σ2⟩, hev, hτ, hσ⟩ := he
    simp only at hσ
    subst hσ
    have hA := Opd.of_state h.st.rep hG
    generalize hins : (dsAt l p).s.ins = ins at *
    have last : ∀ z, v = .ptr (S p).length 0 → S (p + 1) = S p ++ [.cells z] → cs = z := fun z _ hz => by
      cases ins <;> (try (cases hdl; done)) <;> (try (cases hrd; done))
      case load => simp only [reads] at hrd; split at hrd <;> cases hrd
      case loadT => simp only [reads] at hrd; split at hrd <;> (try (cases hrd; done)); split at hrd <;> cases hrd
      all_goals
        cases hrd
        have := get_cells hs1
        rw [hz] at this
        simp at this
        exact this.symm
    cases ins <;> (try (cases hdl; done)) <;> (try (cases hrd; done))
    case load => simp only [reads] at hrd; split at hrd <;> cases hrd
    case loadT => simp only [reads] at hrd; split at hrd <;> (try (cases hrd; done)); split at hrd <;> cases hrd
    case alloc z =>
      simp only [evIns] at hev
      split at hev
      · simp only [Option.some.injEq, Prod.mk.injEq] at hev
        have hcz := last z hev.1.symm hev.2.symm
        subst hcz
        cases hoo : op.op <;> rw [hoo] at hi <;> (try (cases hi; done))
        rename_i e
        simp only [chkIns] at hi
        split at hi
        · rename_i zv hzv
          obtain ⟨hr1, hr2, _⟩ := chkCells_reps (M := M) (ι := ι) hi
          refine fin zv.cells e hb ?_ ?_ hr1 (fun x hx => (hr2 x hx).1) (fun x hx => (hr2 x hx).2)
          · unfold execOp
            rw [hoo]
            simp only [Instr.alloc, sem_bind_run, run_zero hzv, Result.andThen, run_newVar, sem_pure_run]
          · cases hrd
            rw [hds, ← hτ, ← hev.1]; rfl
        · cases hi
      · cases hev
    case box y =>
      simp only [evIns] at hev
      split at hev
      · rename_i hok
        simp only [Option.some.injEq, Prod.mk.injEq] at hev
        have hcz := last _ hev.1.symm hev.2.symm
        subst hcz
        cases hoo : op.op <;> rw [hoo] at hi <;> (try (cases hi; done))
        rename_i e x
        simp only [chkIns] at hi
        have hvx := hA.ok _ _ hi
        refine fin (a.eval x).cells e hb ?_ ?_ ((hvx.cells (ok_one hok)).nogr) (nogr_map_one (ok_one hok)) (fun x hx => by
          obtain ⟨y', _, rfl⟩ := List.mem_map.1 hx
          exact V.nogr_nogr y')
        · unfold execOp
          rw [hoo]
          simp only [sem_bind_run, run_newVar, Result.andThen]
          rfl
        · cases hrd
          rw [hds, ← hτ, ← hev.1]; rfl
      · cases hev
end
end Go.Ev
