/- Regions that draw their order: the state where some steps have been run. -/
import Derived.Test.YtehbeicmmnjpfaaGreatDoorEwA
set_option linter.unusedSimpArgs false
set_option linter.unusedVariables false
namespace Go.Ev
open Go

section
variable {P : Program} {ops : Array Oper} {l : List DS} {dp : List (List Nat)} {G : Nat → V} {call : FuncId → List V → Objs → Option (V × Objs)} {R : Nat → List V} {S : Nat → Objs}

theorem canon_late (hk : DrwOK P ops l dp) (hc : Canon G call l R S) {p : Nat} (hp : p < l.length) (hd : dly (dsAt l p).s.ins = true) : evStep G call (dsAt l p).s (R p) (S p) = some (R (p + 1), S (p + 1)) := by
  obtain ⟨σ0, σ1, h1, h2, h3, _⟩ := hc p hp
  rw [hk.un p hp hd] at h1 h3
  simp only [List.map_nil, List.filterMap_nil, lockC, openC, Option.some.injEq] at h1 h3
  rw [h1, ← h3]; exact h2

theorem reads_neutral {A : Arg → V} {σ : Objs} {i : Ins} (h : neutral i = true) : reads A σ i = .none := by
  cases i <;> first | rfl | cases h

inductive LateCase (G : Nat → V) (l : List DS) (R : Nat → List V) (S : Nat → Objs) (p : Nat) : Prop
  | none (h1 : S (p + 1) = S p) (h2 : rdAt G l R S p = .none)
  | same (ex : Bool) (o off n : Nat) (h1 : S (p + 1) = S p) (h2 : rdAt G l R S p = .same ex o off n) (h3 : Same (S p) (S p) (.same ex o off n)) (h4 : Quiet (S p) (.same ex o off n))
  | took (o off : Nat) (cs xs : List V) (s : Nat) (h1 : (S p)[o]? = some (.cells cs)) (h2 : cs[off]? = some (.sl xs (.gr s))) (h3 : S (p + 1) = (S p).set o (.cells (cs.set off (.sl xs .no)))) (h4 : rdAt G l R S p = .took o off)
  | made (cs : List V) (h1 : S (p + 1) = S p ++ [.cells cs]) (h2 : rdAt G l R S p = .made (S p).length) (h3 : ∀ x ∈ cs, noGr x)

theorem noGr_nogr {x : V} (h : x.nogr = x) : noGr x := fun xs s e => by subst e; cases h

theorem late_case (hk : DrwOK P ops l dp) (hc : Canon G call l R S) {p : Nat} (hp : p < l.length) (hd : dly (dsAt l p).s.ins = true) : LateCase G l R S p := by
  have h := canon_late hk hc hp hd
  obtain ⟨op, hop, hcs⟩ := hk.step p hp
  simp only [chkStep, Bool.and_eq_true] at hcs
  have hci := hcs.1.2
  have hrd : ∀ b, wanted (R p) (dsAt l p).s.gd = some b → rdAt G l R S p = if b then reads (arg G (R p)) (S p) (dsAt l p).s.ins else .none := fun b hb => by unfold rdAt; rw [hb]; rfl
  unfold evStep ev1 at h
  simp only [Option.bind_eq_bind, Option.bind_eq_some_iff] at h
  obtain ⟨b, hb, h⟩ := h
  cases b with
  | false =>
    simp only [Bool.false_eq_true, if_false, Option.some.injEq, Prod.mk.injEq] at h
    exact .none h.2.symm (by rw [hrd _ hb]; rfl)
  | true =>
    simp only [if_true, Option.bind_eq_some_iff, Option.some.injEq, Prod.mk.injEq] at h
    obtain ⟨⟨v, σ2⟩, hi, -, h2⟩ := h
    simp only at h2
    subst h2
    have hr := hrd _ hb
    simp only [if_true] at hr
    by_cases hn : neutral (dsAt l p).s.ins = true
    · obtain ⟨e, _⟩ := evIns_neutral (σ2 := S p) hn hi
      exact .none e (by rw [hr, reads_neutral hn])
    · generalize hins : (dsAt l p).s.ins = ins at *
      cases ins <;> (try (exact absurd hd hn)) <;> (try (cases hd; done))
      case load ag sz x =>
        simp only [evIns, evPure, Option.bind_eq_bind, Option.bind_eq_some_iff, Option.some.injEq, Prod.mk.injEq] at hi
        obtain ⟨y, hy, _, h2⟩ := hi
        simp only [reads] at hr
        split at hr
        · rename_i o off ho
          rw [ho] at hy
          simp only [evLoad, Option.bind_eq_bind, Option.bind_eq_some_iff] at hy
          obtain ⟨cs, hcs, _⟩ := hy
          exact .same false o off _ h2.symm hr ⟨cs, cs, hcs, hcs, rfl, rfl⟩ trivial
        · exact .none h2.symm hr
      case loadT x =>
        simp only [evIns] at hi
        simp only [reads] at hr
        split at hi
        · rename_i o off ho
          rw [ho] at hr
          simp only [Option.bind_eq_bind, Option.bind_eq_some_iff] at hi
          obtain ⟨cs, hcs, c, hcc, hi⟩ := hi
          simp only [hcs, Option.bind_some, hcc] at hr
          split at hi
          · rename_i xs s
            simp only [Option.some.injEq, Prod.mk.injEq] at hi
            exact .took o off cs xs s (get_cells hcs) hcc hi.2.symm hr
          · cases hi
          · rename_i hng _
            simp only [Option.some.injEq, Prod.mk.injEq] at hi
            have hr' : rdAt G l R S p = .same true o off 1 := by
              rw [hr]
              split
              · rename_i xs s e
                cases e
                exact absurd rfl (hng xs s)
              · rfl
            refine .same true o off 1 hi.2.symm hr' ⟨cs, cs, hcs, hcs, rfl, rfl⟩ (fun ds hds y hy => ?_)
            rw [hcs] at hds; cases hds
            obtain ⟨j, hj⟩ := List.mem_iff_getElem?.1 hy
            rw [List.getElem?_take] at hj
            split at hj
            · rename_i hj1
              rw [List.getElem?_drop, show off + j = off from by omega, hcc] at hj
              cases hj
              exact fun xs s e => hng xs s e
            · cases hj
        · rename_i cs off ho
          rw [ho] at hr
          simp only [Option.bind_eq_bind, Option.bind_eq_some_iff, Option.some.injEq, Prod.mk.injEq] at hi
          obtain ⟨_, _, _, h2⟩ := hi
          exact .none h2.symm hr
        · cases hi
      case alloc z =>
        simp only [evIns] at hi
        split at hi
        · simp only [Option.some.injEq, Prod.mk.injEq] at hi
          refine .made z hi.2.symm hr (fun y hy => ?_)
          cases hoo : op.op <;> rw [hoo] at hci <;> (try (cases hci; done))
          simp only [chkIns] at hci
          split at hci
          · exact noGr_nogr ((chkCells_reps (M := fun _ _ => none) (ι := fun _ => none) hci).2.1 y hy).2
          · cases hci
        · cases hi
      case box x =>
        simp only [evIns] at hi
        split at hi
        · simp only [Option.some.injEq, Prod.mk.injEq] at hi
          refine .made _ hi.2.symm hr (fun y hy => ?_)
          obtain ⟨z, _, rfl⟩ := List.mem_map.1 hy
          exact noGr_nogr (V.nogr_nogr z)
        · cases hi

theorem LateCase.late {p : Nat} (h : LateCase G l R S p) : Late (S p) (S (p + 1)) := by
  cases h with
  | none h1 => rw [h1]; exact .stay
  | same ex o off n h1 => rw [h1]; exact .stay
  | took o off cs xs s h1 h2 h3 => rw [h3]; exact .took o off cs xs s h1 h2
  | made cs h1 => rw [h1]; exact .made cs

theorem Late.len {σ σ' : Objs} (h : Late σ σ') : σ.length ≤ σ'.length := by cases h <;> simp

/-- Steps that are late. -/
def pend (L : Nat → Prop) (c p : Nat) : Prop := p < c ∧ ¬ L p
/-- What is another's: what late steps are to take, too. -/
def XR (X : Nat → Prop) (L : Nat → Prop) (c : Nat) (rs : Nat → Option Nat) (b : Nat) : Prop := X b ∨ ∃ p, pend L c p ∧ rs p = some b

/-- What a late step is to take. -/
structure Took (S : Nat → Objs) (M : Mem) (ι : Plc) (w : World) (rs : Nat → Option Nat) (p o off : Nat) (xs : List V) (s b bb : Nat) (v : Value) (cs : List V) : Prop where
  i : ι o = some b
  cell : w.cell? ⟨b, off, none⟩ = some v
  rep : Rep M ι v (.sl xs (.gr s))
  own : ownB v (.sl xs (.gr s)) = some bb
  rs : rs p = some bb
  gr : GrOK M w v (.sl xs (.gr s))
  obj : (S p)[o]? = some (.cells cs)
  val : cs[off]? = some (.sl xs (.gr s))

structure Inv (G : Nat → V) (l : List DS) (dp : List (List Nat)) (R : Nat → List V) (S : Nat → Objs) (X : Nat → Prop) (L : Nat → Prop) (c : Nat) (us : List Value) (ρ : List V) (w : World) (M : Mem) (ι : Plc) (κ : Own) (rs : Nat → Option Nat) : Prop where
  cn : c ≤ l.length
  cl : Closed l dp L
  lt : ∀ p, L p → p < c
  eff : ∀ p, p < c → dly (dsAt l p).s.ins = false → L p
  slot : SlotOK l R L ρ
  st : St M ι (XR X L c rs) κ w us ρ (S c)
  rsx : ∀ p b, pend L c p → rs p = some b → ¬ X b
  rsi : ∀ p q b, pend L c p → pend L c q → rs p = some b → rs q = some b → p = q
  same : ∀ p, pend L c p → Same (S (p + 1)) (S c) (rdAt G l R S p)
  quiet : ∀ p, pend L c p → Quiet (S c) (rdAt G l R S p)
  made : ∀ p o, pend L c p → rdAt G l R S p = .made o → ι o = none
  mdist : ∀ p q o, pend L c p → pend L c q → rdAt G l R S p = .made o → rdAt G l R S q = .made o → p = q
  took : ∀ p o off, pend L c p → rdAt G l R S p = .took o off → o < (S c).length ∧ ((ι o = none ∧ ∀ q, pend L c q → rdAt G l R S q ≠ .made o) ∨ ∃ xs s b bb v cs, Took S M ι w rs p o off xs s b bb v cs)

section
variable {X : Nat → Prop} {L : Nat → Prop} {c : Nat} {us : List Value} {ρ : List V} {w : World} {M : Mem} {ι : Plc} {κ : Own} {rs : Nat → Option Nat}

theorem St.moreX {X' : Nat → Prop} {σ : Objs} (h : St M ι X κ w us ρ σ) (h1 : ∀ b, X' b → b < w.heap.size) (h2 : ∀ o b, ι o = some b → ¬ X' b) (h3 : ∀ b p, κ b = some p → ¬ X' b) : St M ι X' κ w us ρ σ :=
  ⟨⟨h.wd.mem, h.wd.obj, h.wd.olt, h.wd.inj, h1, h2, fun b p hp => ⟨h3 b p hp, (h.wd.kap b p hp).2⟩⟩, h.rep, h.own, h.gr⟩

theorem St.lessX {X' : Nat → Prop} {σ : Objs} (h : St M ι X κ w us ρ σ) (hX : ∀ b, X' b → X b) : St M ι X' κ w us ρ σ :=
  h.moreX (fun b hb => h.wd.xlt b (hX b hb)) (fun o b hi hb => h.wd.xobj o b hi (hX b hb)) (fun b p hp hb => (h.wd.kap b p hp).1 (hX b hb))

theorem pend_succ {L : Nat → Prop} {c p : Nat} (h : pend L (c + 1) p) : p = c ∨ pend L c p := by
  rcases Nat.lt_or_ge p c with hlt | hge
  · exact .inr ⟨hlt, h.2⟩
  · left; have := h.1; omega

/-- The one order goes on by a step that is late. -/
theorem Inv.advance (hk : DrwOK P ops l dp) (hc : Canon G call l R S) (h : Inv G l dp R S X L c us ρ w M ι κ rs) (hcn : c < l.length) (hd : dly (dsAt l c).s.ins = true) : ∃ κ' rs', Inv G l dp R S X L (c + 1) us ρ w M ι κ' rs' := by
  have hLc : ¬ L c := fun hl => by have := h.lt c hl; omega
  have hcase := late_case hk hc hcn hd
  have hlate := hcase.late
  have hlen := hlate.len
  have hsame : ∀ p, pend L c p → Same (S c) (S (c + 1)) (rdAt G l R S p) := fun p hp => same_late hlate (h.quiet p hp) ⟨_, h.same p hp⟩
  have eff' : ∀ p, p < c + 1 → dly (dsAt l p).s.ins = false → L p := fun p hp hdp => by
    rcases Nat.lt_or_ge p c with hlt | hge
    · exact h.eff p hlt hdp
    · have : p = c := by omega
      subst this
      rw [hd] at hdp; cases hdp
  have lt' : ∀ p, L p → p < c + 1 := fun p hp => by have := h.lt p hp; omega
  -- what is as it was, whatever is new
  have old : ∀ (κ' : Own) (rs' : Nat → Option Nat), (∀ p, pend L c p → rs' p = rs p) → St M ι (XR X L (c + 1) rs') κ' w us ρ (S (c + 1)) → (∀ b, rs' c = some b → ¬ X b) → (∀ p b, pend L c p → rs p = some b → rs' c = some b → False) →
      Same (S (c + 1)) (S (c + 1)) (rdAt G l R S c) → Quiet (S (c + 1)) (rdAt G l R S c) → (∀ o, rdAt G l R S c = .made o → ι o = none ∧ o = (S c).length) →
      (∀ o off, rdAt G l R S c = .took o off → o < (S (c + 1)).length ∧ ((ι o = none ∧ ∀ q, pend L c q → rdAt G l R S q ≠ .made o) ∨ ∃ xs s b bb v cs, Took S M ι w rs' c o off xs s b bb v cs)) →
      Inv G l dp R S X L (c + 1) us ρ w M ι κ' rs' := by
    intro κ' rs' hrs hst hx hxx hsm hq hmd htk
    refine ⟨by omega, h.cl, lt', eff', h.slot, hst, fun p b hp hb => ?_, fun p q b hp hq' hb hb' => ?_, fun p hp => ?_, fun p hp => ?_, fun p o hp ho => ?_, fun p q o hp hq' ho ho' => ?_, fun p o off hp ho => ?_⟩
    · rcases pend_succ hp with rfl | hp
      · exact hx b hb
      · rw [hrs p hp] at hb; exact h.rsx p b hp hb
    · rcases pend_succ hp with rfl | hp
      · rcases pend_succ hq' with rfl | hq'
        · rfl
        · rw [hrs q hq'] at hb'; exact absurd hb (fun e => hxx q b hq' hb' e)
      · rw [hrs p hp] at hb
        rcases pend_succ hq' with rfl | hq'
        · exact absurd hb' (fun e => hxx p b hp hb e)
        · rw [hrs q hq'] at hb'; exact h.rsi p q b hp hq' hb hb'
    · rcases pend_succ hp with rfl | hp
      · exact hsm
      · exact (h.same p hp).trans (hsame p hp)
    · rcases pend_succ hp with rfl | hp
      · exact hq
      · exact (h.quiet p hp).same (hsame p hp)
    · rcases pend_succ hp with rfl | hp
      · exact (hmd o ho).1
      · exact h.made p o hp ho
    · have lt1 : ∀ q o, pend L c q → rdAt G l R S q = .made o → o < (S c).length := fun q o hq ho => by
        have := h.same q hq
        rw [ho] at this
        obtain ⟨cs, _, h2⟩ := this
        exact (List.getElem?_eq_some_iff.1 (get_cells h2)).1
      rcases pend_succ hp with rfl | hp
      · rcases pend_succ hq' with rfl | hq'
        · rfl
        · have := lt1 q o hq' ho'; have := (hmd o ho).2; omega
      · rcases pend_succ hq' with rfl | hq'
        · have := lt1 p o hp ho; have := (hmd o ho').2; omega
        · exact h.mdist p q o hp hq' ho ho'
    · rcases pend_succ hp with rfl | hp
      · obtain ⟨h1, h2⟩ := htk o off ho
        refine ⟨h1, h2.imp (fun ⟨a, b⟩ => ⟨a, fun q hq' hm => ?_⟩) id⟩
        rcases pend_succ hq' with rfl | hq'
        · rw [ho] at hm; cases hm
        · exact b q hq' hm
      · obtain ⟨h1, h2⟩ := h.took p o off hp ho
        refine ⟨by omega, h2.imp (fun ⟨a, b⟩ => ⟨a, fun q hq' hm => ?_⟩) fun ⟨xs, s, b, bb, v, cs, ht⟩ => ⟨xs, s, b, bb, v, cs, ht.i, ht.cell, ht.rep, ht.own, by rw [hrs p hp]; exact ht.rs, ht.gr, ht.obj, ht.val⟩⟩
        rcases pend_succ hq' with rfl | hq'
        · have := (hmd o hm).2; omega
        · exact b q hq' hm
  -- nothing is reserved anew
  have plain : ∀ {σ' : Objs}, S (c + 1) = σ' → St M ι (XR X L c rs) κ w us ρ σ' → St M ι (XR X L (c + 1) (fun p => if p = c then none else rs p)) κ w us ρ (S (c + 1)) := by
    intro σ' e hst
    rw [e]
    refine hst.lessX fun b hb => ?_
    rcases hb with hb | ⟨p, hp, hb⟩
    · exact .inl hb
    · rcases pend_succ hp with rfl | hp
      · simp at hb
      · refine .inr ⟨p, hp, ?_⟩
        have hne : p ≠ c := by have := hp.1; omega
        simpa only [if_neg hne] using hb
  have hrs0 : ∀ p, pend L c p → (fun p => if p = c then none else rs p) p = rs p := fun p hp => by simp only; rw [if_neg (by have := hp.1; omega)]
  cases hcase with
  | none h1 h2 =>
    exact ⟨κ, _, old κ _ hrs0 (plain h1 h.st) (fun b hb => by simp at hb) (fun p b _ _ hb => by simp at hb) (by rw [h2]; trivial) (by rw [h2]; trivial) (fun o ho => by rw [h2] at ho; cases ho) (fun o off ho => by rw [h2] at ho; cases ho)⟩
  | same ex o off n h1 h2 h3 h4 =>
    exact ⟨κ, _, old κ _ hrs0 (plain h1 h.st) (fun b hb => by simp at hb) (fun p b _ _ hb => by simp at hb) (by rw [h2, h1]; exact h3) (by rw [h2, h1]; exact h4) (fun o ho => by rw [h2] at ho; cases ho) (fun o off ho => by rw [h2] at ho; cases ho)⟩
  | made cs h1 h2 h3 =>
    have hget : Objs.get (S (c + 1)) (S c).length = some cs := get_of (by rw [h1]; simp)
    exact ⟨κ, _, old κ _ hrs0 (plain h1 (h.st.snoc _)) (fun b hb => by simp at hb) (fun p b _ _ hb => by simp at hb) (by rw [h2]; exact ⟨cs, hget, hget⟩) (by
      rw [h2]
      intro ds hds
      rw [hget] at hds; cases hds
      exact h3) (fun o ho => by
      rw [h2] at ho
      cases ho
      exact ⟨h.st.wd.none_of_ge (Nat.le_refl _), rfl⟩) (fun o off ho => by rw [h2] at ho; cases ho)⟩
  | took o off cs xs s h1 h2 h3 h4 =>
    have hol : o < (S c).length := (List.getElem?_eq_some_iff.1 h1).1
    cases hi : ι o with
    | none =>
      have hst : St M ι (XR X L c rs) κ w us ρ ((S c).set o (.cells (cs.set off (.sl xs .no)))) := h.st.dropCell (x := .sl xs (.gr s)) h1 h2 rfl
      refine ⟨κ, _, old κ _ hrs0 (plain h3 hst) (fun b hb => by simp at hb) (fun p b _ _ hb => by simp at hb) (by rw [h4]; trivial) (by rw [h4]; trivial) (fun o ho => by rw [h4] at ho; cases ho) (fun o' off' ho => ?_)⟩
      rw [h4] at ho
      cases ho
      refine ⟨by omega, .inl ⟨hi, fun q hq hm => ?_⟩⟩
      have := h.quiet q hq
      rw [hm] at this
      exact this cs (get_of h1) _ (List.mem_of_getElem? h2) xs s rfl
    | some b =>
      obtain ⟨O, hO, hor⟩ := h.st.wd.obj o b hi
      rw [h1] at hO; cases hO
      obtain ⟨ws, T, fz, hb, hr2, hfz, hM, hone2⟩ := hor
      obtain ⟨v, hv, hrv⟩ := hr2.get h2
      have hv' : ws[off]? = some v := by
        rw [List.getElem?_take] at hv
        split at hv
        · simpa using hv
        · cases hv
      obtain ⟨bb, hbb⟩ : ∃ bb, ownB v (.sl xs (.gr s)) = some bb := by cases hrv; exact ⟨_, rfl⟩
      obtain ⟨κ', hs, hf, hg⟩ := h.st.takeCell hi hb h1 hv' h2 hbb
      refine ⟨κ', fun p => if p = c then some bb else rs p, old κ' _ (fun p hp => if_neg (by have := hp.1; omega)) ?_ (fun b' hb' => ?_) (fun p b' hp hb' hb'' => ?_) (by rw [h4]; trivial) (by rw [h4]; trivial) (fun o ho => by rw [h4] at ho; cases ho) (fun o' off' ho => ?_)⟩
      · rw [h3]
        have hX : ∀ b', XR X L (c + 1) (fun p => if p = c then some bb else rs p) b' → b' = bb ∨ XR X L c rs b' := fun b' hb' => by
          rcases hb' with hb' | ⟨p, hp, hb'⟩
          · exact .inr (.inl hb')
          · rcases pend_succ hp with rfl | hp
            · simp at hb'; exact .inl hb'.symm
            · have hne : p ≠ c := by have := hp.1; omega
              exact .inr (.inr ⟨p, hp, by simpa only [if_neg hne] using hb'⟩)
        refine hs.moreX (fun b' hb' => ?_) (fun o' b' hi' hb' => ?_) (fun b' p hp hb' => ?_)
        · rcases hX b' hb' with rfl | hb'
          · exact hf.lt
          · exact hs.wd.xlt b' hb'
        · rcases hX b' hb' with rfl | hb'
          · exact hf.i o' hi'
          · exact hs.wd.xobj o' b' hi' hb'
        · rcases hX b' hb' with rfl | hb'
          · rw [hf.k] at hp; cases hp
          · exact (hs.wd.kap b' p hp).1 hb'
      · simp at hb'
        subst hb'
        exact fun hx => hf.x (.inl hx)
      · simp at hb''
        subst hb''
        exact hf.x (.inr ⟨p, hp, hb'⟩)
      · rw [h4] at ho
        cases ho
        exact ⟨by omega, .inr ⟨xs, s, b, bb, v, cs, hi, by rw [cell_row hb]; exact hv', hrv, hbb, by simp, hg, h1, h2⟩⟩

theorem Inv.advance_all (hk : DrwOK P ops l dp) (hc : Canon G call l R S) : ∀ (n c : Nat) (κ : Own) (rs : Nat → Option Nat), l.length - c = n → Inv G l dp R S X L c us ρ w M ι κ rs → ∃ c' κ' rs', c ≤ c' ∧ Inv G l dp R S X L c' us ρ w M ι κ' rs' ∧ (c' < l.length → dly (dsAt l c').s.ins = false)
  | 0, c, κ, rs, hn, h => ⟨c, κ, rs, Nat.le_refl _, h, fun hlt => by omega⟩
  | n + 1, c, κ, rs, hn, h => by
    cases hd : dly (dsAt l c).s.ins with
    | false => exact ⟨c, κ, rs, Nat.le_refl _, h, fun _ => hd⟩
    | true =>
      obtain ⟨κ', rs', h'⟩ := h.advance hk hc (by omega) hd
      obtain ⟨c', κ'', rs'', h1, h2, h3⟩ := Inv.advance_all hk hc n (c + 1) κ' rs' (by omega) h'
      exact ⟨c', κ'', rs'', by omega, h2, h3⟩
end
end
end Go.Ev
