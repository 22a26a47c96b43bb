/- Regions that draw their order: slots, and what late steps read. -/
import Derived.Test.YtehbeicmmnjpfaaGreatDoorEvZ
set_option linter.unusedSimpArgs false
set_option linter.unusedVariables false
namespace Go.Ev
open Go

section
variable {P : Program} {ops : Array Oper} {l : List DS} {dp : List (List Nat)} {G : Nat → V} {call : FuncId → List V → Objs → Option (V × Objs)} {R : Nat → List V} {S : Nat → Objs}

/-- The one order, step by step. -/
def Canon (G : Nat → V) (call : FuncId → List V → Objs → Option (V × Objs)) (l : List DS) (R : Nat → List V) (S : Nat → Objs) : Prop :=
  ∀ j, j < l.length → OneStep G call (rdAt G l R S) (dsAt l j) (R j) (R (j + 1)) (S j) (S (j + 1))

theorem canon_of (hk : DrwOK P ops l dp) (h : ∀ j, j < l.length → OneStep G call (fun k => (([] : List Rd) ++ (List.range j).map (rdAt G l R S)).getD k .none) (dsAt l j) (R j) (R (j + 1)) (S j) (S (j + 1))) : Canon G call l R S := by
  intro j hj
  obtain ⟨σ0, σ1, h1, h2, h3, h4⟩ := h j hj
  have e : ∀ k ∈ (dsAt l j).un, (([] : List Rd) ++ (List.range j).map (rdAt G l R S)).getD k .none = rdAt G l R S k := fun k hk' => by
    have hlt := hk.unlt j hj k hk'
    simp [List.getD, hlt]
  have em : (dsAt l j).un.map (fun k => (([] : List Rd) ++ (List.range j).map (rdAt G l R S)).getD k .none) = (dsAt l j).un.map (rdAt G l R S) := List.map_congr_left e
  rw [em] at h1 h3
  exact ⟨σ0, σ1, h1, h2, h3, fun k hk' => by rw [← e k hk']; exact h4 k hk'⟩

theorem Canon.frame (h : Canon G call l R S) {p : Nat} (hp : p < l.length) : (R (p + 1)).length = (R p).length ∧ ∀ t, t ∉ (dsAt l p).s.wr → (R (p + 1))[t]? = (R p)[t]? := by
  obtain ⟨σ0, σ1, _, h2, _⟩ := h p hp
  exact evStep_frame h2

theorem Canon.len (h : Canon G call l R S) : ∀ p, p ≤ l.length → (R p).length = (R 0).length
  | 0, _ => rfl
  | p + 1, hp => (h.frame (by omega)).1.trans (h.len p (by omega))

/-- Slots, where the steps L have been run. -/
def SlotOK (l : List DS) (R : Nat → List V) (L : Nat → Prop) (ρ : List V) : Prop :=
  ρ.length = (R 0).length ∧ ∀ t m, m ≤ l.length → (∀ q, q < m → t ∈ (dsAt l q).s.wr → L q) → (∀ q, m ≤ q → q < l.length → t ∈ (dsAt l q).s.wr → ¬ L q) → ρ[t]? = (R m)[t]?

/-- Steps that have been run have what they need behind them. -/
structure Closed (l : List DS) (dp : List (List Nat)) (L : Nat → Prop) : Prop where
  lt : ∀ p, L p → p < l.length
  dep : ∀ p, L p → ∀ q ∈ dp.getD p [], L q

variable {L : Nat → Prop} {ρ : List V}

theorem slot_read (hk : DrwOK P ops l dp) (hL : Closed l dp L) (hs : SlotOK l R L ρ) {p : Nat} (hp : p < l.length) (hn : ¬ L p) (hd : ∀ q ∈ dp.getD p [], L q) {t : Nat} (ht : t ∈ (dsAt l p).s.rd ∨ t ∈ (dsAt l p).s.wr) : ρ[t]? = (R p)[t]? := by
  refine hs.2 t p (by omega) (fun q hq hw => ?_) (fun q hq hql hw hLq => ?_)
  · rcases hk.pair p hp q hq with h | ⟨h, _⟩
    · exact hd q h
    · have := (apart_spec h).1 t hw
      rcases ht with ht | ht
      · exact absurd ht this.2
      · exact absurd ht this.1
  · rcases Nat.lt_or_ge p q with hpq | hpq
    · rcases hk.pair q hql p hpq with h | ⟨h, _⟩
      · exact hn (hL.dep q hLq p h)
      · rcases ht with ht | ht
        · exact (apart_spec h).2 t hw ht
        · exact ((apart_spec h).1 t ht).1 hw
    · have : q = p := by omega
      subst this
      exact hn hLq

theorem slot_step (hk : DrwOK P ops l dp) (hc : Canon G call l R S) (hL : Closed l dp L) (hs : SlotOK l R L ρ) {p : Nat} (hp : p < l.length) (hn : ¬ L p) {ρ' : List V} (hlen : ρ'.length = ρ.length)
    (hw : ∀ t ∈ (dsAt l p).s.wr, ρ'[t]? = (R (p + 1))[t]?) (hnw : ∀ t, t ∉ (dsAt l p).s.wr → ρ'[t]? = ρ[t]?) : SlotOK l R (fun q => L q ∨ q = p) ρ' := by
  refine ⟨hlen.trans hs.1, fun t m hm h1 h2 => ?_⟩
  by_cases ht : t ∈ (dsAt l p).s.wr
  · have hpm : p < m := by
      rcases Nat.lt_or_ge p m with h | h
      · exact h
      · exact absurd (.inr rfl) (h2 p h hp ht)
    rw [hw t ht]
    have key : ∀ k, p + 1 + k ≤ m → (R (p + 1))[t]? = (R (p + 1 + k))[t]? := by
      intro k
      induction k with
      | zero => intro _; rfl
      | succ k ih =>
        intro hkm
        have hj : p + 1 + k < l.length := by omega
        rw [ih (by omega), show p + 1 + (k + 1) = (p + 1 + k) + 1 from rfl, (hc.frame hj).2 t ?_]
        intro hwj
        have hLj := (h1 (p + 1 + k) (by omega) hwj).resolve_right (by omega)
        rcases hk.pair (p + 1 + k) hj p (by omega) with h | ⟨h, _⟩
        · exact hn (hL.dep _ hLj p h)
        · exact ((apart_spec h).1 t ht).1 hwj
    have := key (m - (p + 1)) (by omega)
    rwa [show p + 1 + (m - (p + 1)) = m from by omega] at this
  · rw [hnw t ht]
    refine hs.2 t m hm (fun q hq hwq => ?_) (fun q hq hql hwq hLq => h2 q hq hql hwq (.inl hLq))
    rcases h1 q hq hwq with h | rfl
    · exact h
    · exact absurd hwq ht

def noGr (x : V) : Prop := ∀ xs s, x ≠ .sl xs (.gr s)

/-- What was read is as it was. -/
def Same (σ σ' : Objs) : Rd → Prop
  | .same ex o off n => ∃ cs ds, Objs.get σ o = some cs ∧ Objs.get σ' o = some ds ∧ cs.length = ds.length ∧ (if ex then (cs.drop off).take n = (ds.drop off).take n else ((cs.drop off).take n).map V.nogr = ((ds.drop off).take n).map V.nogr)
  | .made o => ∃ cs, Objs.get σ o = some cs ∧ Objs.get σ' o = some cs
  | _ => True

/-- Nothing that was read whole may be taken. -/
def Quiet (σ : Objs) : Rd → Prop
  | .same true o off n => ∀ cs, Objs.get σ o = some cs → ∀ x ∈ (cs.drop off).take n, noGr x
  | .made o => ∀ cs, Objs.get σ o = some cs → ∀ x ∈ cs, noGr x
  | _ => True

theorem stable_same {σ σ' : Objs} {r : Rd} (h : stable σ σ' r = true) : Same σ σ' r := by
  cases r with
  | none => trivial
  | took => trivial
  | same ex o off n =>
    simp only [stable] at h
    split at h
    · rename_i cs ds h1 h2
      simp only [Bool.and_eq_true, decide_eq_true_eq] at h
      refine ⟨cs, ds, h1, h2, h.1, ?_⟩
      cases ex
      · simp only [Bool.false_eq_true, if_false] at h ⊢; exact V.beqs_eq _ _ h.2
      · simp only [if_true] at h ⊢; exact V.beqs_eq _ _ h.2
    · cases h
  | made o =>
    simp only [stable] at h
    split at h
    · rename_i cs ds h1 h2
      have := V.beqs_eq _ _ h
      subst this
      exact ⟨cs, h1, h2⟩
    · cases h

theorem Same.trans {σ σ' σ'' : Objs} {r : Rd} (h : Same σ σ' r) (k : Same σ' σ'' r) : Same σ σ'' r := by
  cases r with
  | none => trivial
  | took => trivial
  | same ex o off n =>
    obtain ⟨cs, ds, h1, h2, h3, h4⟩ := h
    obtain ⟨ds', es, k1, k2, k3, k4⟩ := k
    rw [h2] at k1; cases k1
    refine ⟨cs, es, h1, k2, h3.trans k3, ?_⟩
    cases ex <;> simp only [Bool.false_eq_true, if_false, if_true] at h4 k4 ⊢ <;> exact h4.trans k4
  | made o =>
    obtain ⟨cs, h1, h2⟩ := h
    obtain ⟨ds, k1, k2⟩ := k
    rw [h2] at k1; cases k1
    exact ⟨cs, h1, k2⟩

theorem Quiet.same {σ σ' : Objs} {r : Rd} (h : Quiet σ r) (k : Same σ σ' r) : Quiet σ' r := by
  cases r with
  | none => trivial
  | took => trivial
  | same ex o off n =>
    cases ex with
    | false => trivial
    | true =>
      obtain ⟨cs, ds, k1, k2, k3, k4⟩ := k
      intro es he x hx
      rw [k2] at he; cases he
      simp only [if_true] at k4
      rw [← k4] at hx
      exact h cs k1 x hx
  | made o =>
    obtain ⟨cs, k1, k2⟩ := k
    intro es he x hx
    rw [k2] at he; cases he
    exact h cs k1 x hx

/-- What late steps do to objects, in the one order. -/
inductive Late (σ : Objs) : Objs → Prop
  | stay : Late σ σ
  | took (o off : Nat) (cs xs : List V) (s : Nat) (h : σ[o]? = some (.cells cs)) (hx : cs[off]? = some (.sl xs (.gr s))) : Late σ (σ.set o (.cells (cs.set off (.sl xs .no))))
  | made (cs : List V) : Late σ (σ ++ [.cells cs])

theorem get_of {σ : Objs} {o : Nat} {cs : List V} (h : σ[o]? = some (.cells cs)) : Objs.get σ o = some cs := by unfold Objs.get; rw [h]

theorem drop_take_set {cs : List V} {off n i : Nat} {y : V} : (((cs.set i y).drop off).take n) = if off ≤ i ∧ i < off + n then ((cs.drop off).take n).set (i - off) y else (cs.drop off).take n := by
  apply List.ext_getElem?
  intro j
  split
  · rename_i h
    rw [List.getElem?_take, List.getElem?_set, List.getElem?_take, List.getElem?_drop, List.getElem?_drop, List.getElem?_set]
    by_cases hj : j < n
    · rw [if_pos hj, if_pos hj]
      by_cases hij : i = off + j
      · subst hij
        rw [show off + j - off = j from by omega]
        simp only [if_true, List.length_take, List.length_drop]
        by_cases hl : off + j < cs.length
        · rw [if_pos hl, if_pos (by omega)]
        · rw [if_neg hl, if_neg (by omega)]
      · rw [if_neg hij, if_neg (by omega)]
    · rw [if_neg hj, if_neg hj]
      split
      · rw [if_neg (by simp; omega)]
      · rfl
  · rename_i h
    rw [List.getElem?_take, List.getElem?_take, List.getElem?_drop, List.getElem?_drop, List.getElem?_set]
    by_cases hj : j < n
    · rw [if_pos hj, if_pos hj, if_neg (by omega)]
    · rw [if_neg hj, if_neg hj]

theorem set_same_of {α : Type} {l : List α} {i : Nat} {x : α} (h : l[i]? = some x) : l.set i x = l := by
  apply List.ext_getElem?
  intro j
  rw [List.getElem?_set]
  split
  · rename_i hij
    subst hij
    rw [if_pos (List.getElem?_eq_some_iff.1 h).1, h]
  · rfl

theorem same_late {σ σ' : Objs} {r : Rd} (hl : Late σ σ') (hq : Quiet σ r) (hs : ∃ σ0, Same σ0 σ r) : Same σ σ' r := by
  obtain ⟨σ0, hs⟩ := hs
  cases r with
  | none => trivial
  | took => trivial
  | same ex o off n =>
    obtain ⟨_, cs, _, hcs, _, _⟩ := hs
    cases hl with
    | stay => exact ⟨cs, cs, hcs, hcs, rfl, by split <;> rfl⟩
    | made ds =>
      have h1 := get_cells hcs
      refine ⟨cs, cs, hcs, get_of ?_, rfl, by split <;> rfl⟩
      rw [List.getElem?_append_left (List.getElem?_eq_some_iff.1 h1).1]; exact h1
    | took o' off' ds xs s h hx =>
      by_cases ho : o' = o
      · subst ho
        have h1 := get_cells hcs
        rw [h] at h1; cases h1
        have hol := (List.getElem?_eq_some_iff.1 h).1
        refine ⟨cs, _, hcs, get_of (List.getElem?_set_self hol), by simp, ?_⟩
        rw [drop_take_set]
        by_cases hin : off ≤ off' ∧ off' < off + n
        · rw [if_pos hin]
          have hg : ((cs.drop off).take n)[off' - off]? = some (.sl xs (.gr s)) := by
            rw [List.getElem?_take, if_pos (by omega), List.getElem?_drop, show off + (off' - off) = off' from by omega]; exact hx
          cases ex with
          | true => exact absurd rfl (hq cs hcs _ (List.mem_of_getElem? hg) xs s)
          | false =>
            simp only [Bool.false_eq_true, if_false]
            rw [List.map_set]
            refine (set_same_of ?_).symm
            rw [List.getElem?_map, hg]; rfl
        · rw [if_neg hin]
          split <;> rfl
      · have h1 := get_cells hcs
        exact ⟨cs, cs, hcs, get_of (by rw [set_get_ne ho]; exact h1), rfl, by split <;> rfl⟩
  | made o =>
    obtain ⟨cs, _, hcs⟩ := hs
    have h1 := get_cells hcs
    cases hl with
    | stay => exact ⟨cs, hcs, hcs⟩
    | made ds =>
      refine ⟨cs, hcs, get_of ?_⟩
      rw [List.getElem?_append_left (List.getElem?_eq_some_iff.1 h1).1]; exact h1
    | took o' off' ds xs s h hx =>
      by_cases ho : o' = o
      · subst ho
        rw [h] at h1; cases h1
        exact absurd rfl (hq cs hcs _ (List.mem_of_getElem? hx) xs s)
      · exact ⟨cs, hcs, get_of (by rw [set_get_ne ho]; exact h1)⟩
end
end Go.Ev
