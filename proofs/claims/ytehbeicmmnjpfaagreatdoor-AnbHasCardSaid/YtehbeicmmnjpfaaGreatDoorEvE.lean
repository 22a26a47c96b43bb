/- The state behind a new block, a store, a row that grew. -/
import Derived.Test.YtehbeicmmnjpfaaGreatDoorEvD
set_option linter.unusedSimpArgs false
set_option linter.unusedVariables false
namespace Go.Ev
open Go

section
variable {M : Mem} {ι : Plc} {X : Nat → Prop} {κ : Own} {w : World} {us : List Value} {ρ : List V} {σ : Objs}

theorem pushM_old {s : Nat} {ws : List Value} {b i : Nat} (h : b ≠ s) : pushM M s ws b i = M b i := by unfold pushM; rw [if_neg h]
theorem pushM_new {s : Nat} {ws : List Value} {i : Nat} : pushM M s ws s i = ws[i]? := by unfold pushM; rw [if_pos rfl]

theorem Wd.pushM_le (h : Wd M ι X κ w σ) (ws : List Value) : MemLe M (pushM M w.heap.size ws) :=
  ⟨fun b i u hm => by rw [pushM_old (by have := h.lt hm; omega)]; exact hm⟩

/-- A new block, of whatever kind; its first cells may be such as nobody will write. -/
theorem Wd.push (h : Wd M ι X κ w σ) (o : Obj) (ws : List Value) (ho : ∀ (i : Nat) u, ws[i]? = some u → ∃ as T fz, o = .cells as T fz ∧ as[i]? = some u) :
    Wd (pushM M w.heap.size ws) ι X κ (pushB w o) σ := by
  refine ⟨fun b i u hm => ?_, fun o' b hi => ?_, fun o' b hi => ?_, h.inj, fun b hx => ?_, h.xobj, fun b p hp => ?_⟩
  · by_cases hb : b = w.heap.size
    · subst hb
      rw [pushM_new] at hm
      obtain ⟨as, T, fz, rfl, ha⟩ := ho i u hm
      rw [cell_row (pushB_new w _)]; exact ha
    · rw [pushM_old hb] at hm
      have := h.mem b i u hm
      rw [← this]
      have hlt := h.lt hm
      simp only [World.cell?, pushB_old w o hlt]
  · obtain ⟨O, hO, hr⟩ := h.obj o' b hi
    exact ⟨O, hO, hr.push h (h.pushM_le ws) (fun b i hb => pushM_old (by omega)) (.refl _) o (h.olt o' b hi)⟩
  · have := h.olt o' b hi; rw [pushB_size]; omega
  · have := h.xlt b hx; rw [pushB_size]; omega
  · obtain ⟨h1, h2, h3⟩ := h.kap b p hp
    exact ⟨h1, h2, by rw [pushB_size]; omega⟩

theorem Ext.push (h : Wd M ι X κ w σ) (o : Obj) (ws : List Value) : Ext X M ι w (pushM M w.heap.size ws) ι (pushB w o) :=
  ⟨h.pushM_le ws, .refl _, fun b i hx => pushM_old (by have := h.xlt b hx; omega), by rw [pushB_size]; omega, fun b hx => pushB_old w o (h.xlt b hx), rfl, rfl, rfl⟩

theorem At.push (h : Wd M ι X κ w σ) {o : Obj} {p : Pl} {v : Value} {x : V} (ha : At ι (pushB w o) us ρ σ p v x) : At ι w us ρ σ p v x := by
  cases p with
  | s i => exact ha
  | c q i =>
    obtain ⟨b, ws, T, fz, cs, h1, h2, h3⟩ := ha
    rw [pushB_old w o (h.olt q b h1)] at h2
    exact ⟨b, ws, T, fz, cs, h1, h2, h3⟩

theorem GrOK.push {v : Value} {x : V} (h : GrOK M w v x) (o : Obj) (ws : List Value) (hl : ∀ a len cap, v = .slice (some a) len cap → ∀ b, ownB v x = some b → b < w.heap.size) :
    GrOK (pushM M w.heap.size ws) (pushB w o) v x := by
  refine ⟨fun xs sz hx a len cap hv => ?_⟩
  obtain ⟨h1, h2, as, T, fz, h3, h4, h5⟩ := h.ok xs sz hx a len cap hv
  have hlt : a.block < w.heap.size := (Array.getElem?_eq_some_iff.1 h3).1
  exact ⟨h1, fun i hi => by rw [pushM_old (by omega)]; exact h2 i hi, as, T, fz, by rw [pushB_old w o hlt]; exact h3, h4, h5⟩

theorem St.push (h : St M ι X κ w us ρ σ) (o : Obj) (ws : List Value) (ho : ∀ (i : Nat) u, ws[i]? = some u → ∃ as T fz, o = .cells as T fz ∧ as[i]? = some u) :
    St (pushM M w.heap.size ws) ι X κ (pushB w o) us ρ σ :=
  ⟨h.wd.push o ws ho, h.rep.mono (h.wd.pushM_le ws) (.refl _), fun p v x b ha hb => h.own p v x b (At.push h.wd ha) hb, fun p v x ha =>
    (h.gr p v x (At.push h.wd ha)).push o ws fun a len cap hv b hb => (h.wd.kap b _ (h.own p v x b (At.push h.wd ha) hb)).2.2⟩

/-- A slot is written with a row that owns a block that is nobody's. -/
theorem St.setOwn (h : St M ι X κ w us ρ σ) {v : Value} {x : V} (hr : Rep M ι v x) {b : Nat} (hb : ownB v x = some b) (hk : κ b = none) (hX : ¬ X b) (hι : ∀ o, ι o ≠ some b) (hlt : b < w.heap.size)
    (hg : GrOK M w v x) (d : Nat) : ∃ κ', St M ι X κ' w (us.set d v) (ρ.set d x) σ := by
  have key : ∀ p u y, At ι w (us.set d v) (ρ.set d x) σ p u y → (p ≠ .s d ∧ At ι w us ρ σ p u y) ∨ (p = .s d ∧ u = v ∧ y = x) := by
    intro p u y ha
    cases p with
    | c o i => exact .inl ⟨by simp, ha⟩
    | s i =>
      obtain ⟨h1, h2⟩ := ha
      rw [List.getElem?_set] at h1 h2
      by_cases hd : d = i
      · subst hd
        rw [if_pos rfl] at h1 h2
        split at h1
        · split at h2
          · cases h1; cases h2; exact .inr ⟨rfl, rfl, rfl⟩
          · cases h2
        · cases h1
      · rw [if_neg hd] at h1 h2; exact .inl ⟨by simpa using fun e => hd e.symm, ⟨h1, h2⟩⟩
  refine ⟨fun b' => if b' = b then some (.s d) else κ b', ⟨h.wd.mem, h.wd.obj, h.wd.olt, h.wd.inj, h.wd.xlt, h.wd.xobj, ?_⟩, h.rep.set hr d, ?_, ?_⟩
  · intro b' p hp
    by_cases hbb : b' = b
    · subst hbb; exact ⟨hX, hι, hlt⟩
    · simp only [hbb, if_false] at hp; exact h.wd.kap b' p hp
  · intro p u y b' ha hb'
    rcases key p u y ha with ⟨hp, ha⟩ | ⟨rfl, rfl, rfl⟩
    · have hk' := h.own p u y b' ha hb'
      have hbb : b' ≠ b := fun e => by subst e; rw [hk] at hk'; cases hk'
      simp only [hbb, if_false]; exact hk'
    · rw [hb] at hb'; cases hb'; simp
  · intro p u y ha
    rcases key p u y ha with ⟨hp, ha⟩ | ⟨rfl, rfl, rfl⟩
    · exact h.gr p u y ha
    · exact hg

theorem kap_new (h : Wd M ι X κ w σ) : κ w.heap.size = none := by
  cases hk : κ w.heap.size with
  | none => rfl
  | some p => have := (h.kap _ p hk).2.2; omega

theorem inew (h : Wd M ι X κ w σ) : ∀ o, ι o ≠ some w.heap.size := fun o ho => by have := h.olt o _ ho; omega

/-- A new row that nobody else holds. -/
theorem St.newRow (h : St M ι X κ w us ρ σ) (as : Array Value) (T : TypeId) (fz : Nat × Nat) (xs : List V) (c : Cap) (cap sz : Nat)
    (hr : Reps M ι (as.toList.take (xs.flatMap V.cells).length) (xs.flatMap V.cells)) (hs : ∀ y ∈ xs, y.cells.length = sz) (hcap : xs.length ≤ cap) (hfx : c = .fx → cap = xs.length)
    (hgr : ∀ s, c = .gr s → s = sz ∧ cap * sz ≤ as.size ∧ ∀ i, (xs.flatMap V.cells).length ≤ i → i < as.size → frozenAt fz i = false) (d : Nat) :
    ∃ M' κ', Ext X M ι w M' ι (pushB w (.cells as T fz)) ∧ St M' ι X κ' (pushB w (.cells as T fz)) (us.set d (.slice (some ⟨w.heap.size, 0, none⟩) xs.length cap)) (ρ.set d (.sl xs c)) σ ∧
      Rep M' ι (.slice (some ⟨w.heap.size, 0, none⟩) xs.length cap) (.sl xs c) := by
  generalize hk : (xs.flatMap V.cells).length = k at *
  have hM := h.wd.pushM_le (as.toList.take k)
  have hst := h.push (.cells as T fz) (as.toList.take k) (fun i u hu => ⟨as, T, fz, rfl, by
    rw [List.getElem?_take] at hu
    split at hu
    · simpa using hu
    · cases hu⟩)
  have hrep : Rep (pushM M w.heap.size (as.toList.take k)) ι (.slice (some ⟨w.heap.size, 0, none⟩) xs.length cap) (.sl xs c) :=
    .sl xs c w.heap.size 0 cap sz (as.toList.take k) hs (by rw [hr.1]) (fun i u hu => by simpa [pushM_new] using hu) (fun i u y hu hy => (hr.2 i u y hu hy).mono hM (.refl _)) hcap hfx
  cases ho : ownB (.slice (some ⟨w.heap.size, 0, none⟩) xs.length cap) (.sl xs c) with
  | none => exact ⟨_, κ, Ext.push h.wd _ _, hst.setSlot hrep ho d, hrep⟩
  | some b =>
    have hb : b = w.heap.size := by cases c <;> simp [ownB] at ho; exact ho.symm
    subst hb
    obtain ⟨s, hc⟩ : ∃ s, c = .gr s := by cases c <;> simp [ownB] at ho; exact ⟨_, rfl⟩
    subst hc
    obtain ⟨rfl, hroom, hfrz⟩ := hgr s rfl
    obtain ⟨κ', hst'⟩ := hst.setOwn hrep ho (kap_new h.wd) (fun hx => by have := h.wd.xlt _ hx; omega) (inew h.wd) (by rw [pushB_size]; omega)
      ⟨fun xs' sz' hx a len cap' hv => by
        cases hx; cases hv
        refine ⟨hs, fun i hi => ?_, as, T, fz, pushB_new w _, by simpa using hroom, fun i h1 h2 => hfrz i (by simpa [hk] using h1) h2⟩
        rw [pushM_new, List.getElem?_take]
        rw [if_neg (by simp only [hk, Nat.zero_add] at hi; omega)]⟩ d
    exact ⟨_, κ', Ext.push h.wd _ _, hst', hrep⟩

/-- A new object. -/
theorem St.newObj (h : St M ι X κ w us ρ σ) (hι0 : ι σ.length = none) (as : Array Value) (T : TypeId) (fz : Nat × Nat) (cs : List V) (hr : Reps M ι (as.toList.take cs.length) cs)
    (hfz : ∀ i, i < cs.length → frozenAt fz i = false) (hone : ∀ c ∈ cs, c.one = true) (hno : ∀ c ∈ cs, ∀ v, ownB v c = none) :
    ∃ M' ι', Ext X M ι w M' ι' (pushB w (.cells as T fz)) ∧ ι' σ.length = some w.heap.size ∧ St M' ι' X κ (pushB w (.cells as T fz)) us ρ (σ ++ [.cells cs]) ∧ ∀ o, o ≠ σ.length → ι' o = ι o := by
  have hst := h.push (.cells as T fz) [] (fun i u hu => by simp at hu)
  have hM := h.wd.pushM_le []
  have hι : PlcLe ι (fun o => if o = σ.length then some w.heap.size else ι o) := ⟨fun o b hb => by
    by_cases ho : o = σ.length
    · subst ho; rw [hι0] at hb; cases hb
    · simp only [ho, if_false]; exact hb⟩
  refine ⟨pushM M w.heap.size [], fun o => if o = σ.length then some w.heap.size else ι o, ⟨hM, hι, fun b i hx => pushM_old (by have := h.wd.xlt b hx; omega), by rw [pushB_size]; omega, fun b hx => pushB_old w _ (h.wd.xlt b hx), rfl, rfl, rfl⟩, by simp, ⟨⟨hst.wd.mem, ?_, ?_, ?_, hst.wd.xlt, ?_, ?_⟩, hst.rep.mono (.refl _) hι, ?_, ?_⟩, fun o ho => by simp [ho]⟩
  · intro o b hb
    by_cases ho : o = σ.length
    · subst ho
      simp only [if_true] at hb
      cases hb
      refine ⟨.cells cs, by simp, as, T, fz, pushB_new w _, hr.mono hM hι, hfz, fun i => by rw [pushM_new]; simp, hone⟩
    · simp only [ho, if_false] at hb
      obtain ⟨O, hO, hor⟩ := h.wd.obj o b hb
      refine ⟨O, by rw [List.getElem?_append_left (List.getElem?_eq_some_iff.1 hO).1]; exact hO, ?_⟩
      exact hor.push h.wd hM (fun b i hb => pushM_old (by omega)) hι _ (h.wd.olt o b hb)
  · intro o b hb
    by_cases ho : o = σ.length
    · simp only [ho, if_true] at hb; cases hb; rw [pushB_size]; omega
    · simp only [ho, if_false] at hb; exact hst.wd.olt o b hb
  · intro o o' b hb hb'
    by_cases ho : o = σ.length
    · by_cases ho' : o' = σ.length
      · rw [ho, ho']
      · simp only [ho, if_true] at hb; simp only [ho', if_false] at hb'
        cases hb; exact absurd hb' (inew h.wd o')
    · by_cases ho' : o' = σ.length
      · simp only [ho, if_false] at hb; simp only [ho', if_true] at hb'
        cases hb'; exact absurd hb (inew h.wd o)
      · simp only [ho, if_false] at hb; simp only [ho', if_false] at hb'
        exact h.wd.inj o o' b hb hb'
  · intro o b hb
    by_cases ho : o = σ.length
    · simp only [ho, if_true] at hb; cases hb; intro hx; have := h.wd.xlt _ hx; omega
    · simp only [ho, if_false] at hb; exact h.wd.xobj o b hb
  · intro b p hp
    obtain ⟨h1, h2, h3⟩ := h.wd.kap b p hp
    refine ⟨h1, fun o ho => ?_, by rw [pushB_size]; omega⟩
    by_cases hoo : o = σ.length
    · simp only [hoo, if_true] at ho; cases ho; omega
    · simp only [hoo, if_false] at ho; exact h2 o ho
  all_goals
    have key : ∀ p v x, At (fun o => if o = σ.length then some w.heap.size else ι o) (pushB w (.cells as T fz)) us ρ (σ ++ [.cells cs]) p v x → At ι (pushB w (.cells as T fz)) us ρ σ p v x ∨ ownB v x = none := by
      intro p v x ha
      cases p with
      | s i => exact .inl ha
      | c o i =>
        obtain ⟨b, ws, T', fz', cs', h1, h2, h3, h4, h5⟩ := ha
        by_cases ho : o = σ.length
        · subst ho
          simp at h3
          subst h3
          exact .inr (hno x (List.mem_of_getElem? h5) v)
        · simp only [ho, if_false] at h1
          have hlt : o < σ.length := by
            obtain ⟨O, hO, _⟩ := h.wd.obj o b h1
            exact (List.getElem?_eq_some_iff.1 hO).1
          rw [List.getElem?_append_left hlt] at h3
          exact .inl ⟨b, ws, T', fz', cs', h1, h2, h3, h4, h5⟩
  · intro p v x b ha hb
    rcases key p v x ha with ha | hn
    · exact hst.own p v x b ha hb
    · rw [hn] at hb; cases hb
  · intro p v x ha
    rcases key p v x ha with ha | hn
    · exact hst.gr p v x ha
    · exact .of_none hn

/-- Objects that are not there yet have no place. -/
theorem Wd.none_of_ge (h : Wd M ι X κ w σ) {o : Nat} (ho : σ.length ≤ o) : ι o = none := by
  cases hi : ι o with
  | none => rfl
  | some b =>
    obtain ⟨O, hO, _⟩ := h.obj o b hi
    have := (List.getElem?_eq_some_iff.1 hO).1
    omega
end
end Go.Ev
