/- Taking what a place may do, giving it to another; a row that grows in its place. -/
import Derived.Test.YtehbeicmmnjpfaaGreatDoorEvF
set_option linter.unusedSimpArgs false
set_option linter.unusedVariables false
namespace Go.Ev
open Go

section
variable {M : Mem} {ι : Plc} {X : Nat → Prop} {κ : Own} {w : World} {us : List Value} {ρ : List V} {σ : Objs}

/-- A block that no place holds, and that is nobody's. -/
structure Free (M : Mem) (ι : Plc) (X : Nat → Prop) (κ : Own) (w : World) (b : Nat) : Prop where
  k : κ b = none
  x : ¬ X b
  i : ∀ o, ι o ≠ some b
  lt : b < w.heap.size

theorem St.release (h : St M ι X κ w us ρ σ) (b : Nat) (hn : ∀ p v x, At ι w us ρ σ p v x → ownB v x ≠ some b) : St M ι X (fun c => if c = b then none else κ c) w us ρ σ :=
  ⟨⟨h.wd.mem, h.wd.obj, h.wd.olt, h.wd.inj, h.wd.xlt, h.wd.xobj, fun c p hp => by
    by_cases hc : c = b
    · simp only [hc, if_true] at hp; cases hp
    · simp only [hc, if_false] at hp; exact h.wd.kap c p hp⟩, h.rep, fun p v x c ha hc => by
    by_cases hcb : c = b
    · subst hcb; exact absurd hc (hn p v x ha)
    · simp only [hcb, if_false]; exact h.own p v x c ha hc, h.gr⟩

/-- Taken from a slot. -/
theorem St.takeSlot (h : St M ι X κ w us ρ σ) {n b : Nat} {v : Value} {x : V} (hv : us[n]? = some v) (hx : ρ[n]? = some x) (hb : ownB v x = some b) :
    ∃ κ', St M ι X κ' w us (ρ.set n x.nogr) σ ∧ Free M ι X κ' w b ∧ GrOK M w v x := by
  have hat : At ι w us ρ σ (.s n) v x := ⟨hv, hx⟩
  have hk := h.own _ v x b hat hb
  have hd := h.dropSlot n
  have hg : ρ.getD n .undef = x := by simp [List.getD, hx]
  rw [hg] at hd
  have hnlt : n < ρ.length := (List.getElem?_eq_some_iff.1 hx).1
  refine ⟨_, hd.release b fun p u y ha hu => ?_, ⟨by simp, (h.wd.kap b _ hk).1, (h.wd.kap b _ hk).2.1, (h.wd.kap b _ hk).2.2⟩, h.gr _ _ _ hat⟩
  have := hd.own p u y b ha hu
  rw [hk] at this
  cases this
  obtain ⟨h1, h2⟩ := ha
  rw [List.getElem?_set_self hnlt] at h2
  cases h2
  rw [ownB_nogr] at hu; cases hu

/-- Taken from a cell. -/
theorem St.takeCell (h : St M ι X κ w us ρ σ) {o i b c : Nat} {cs : List V} {v : Value} {x : V} (hi : ι o = some c) {ws : Array Value} {T : TypeId} {fz : Nat × Nat} (hw : w.heap[c]? = some (.cells ws T fz))
    (ho : σ[o]? = some (.cells cs)) (hv : ws[i]? = some v) (hx : cs[i]? = some x) (hb : ownB v x = some b) :
    ∃ κ', St M ι X κ' w us ρ (σ.set o (.cells (cs.set i x.nogr))) ∧ Free M ι X κ' w b ∧ GrOK M w v x := by
  have hat : At ι w us ρ σ (.c o i) v x := ⟨c, ws, T, fz, cs, hi, hw, ho, hv, hx⟩
  have hk := h.own _ v x b hat hb
  have hx1 : x.nogr.one = true := by
    rw [V.nogr_one]
    cases x <;> first | rfl | simp [ownB] at hb
  have hd := h.dropCell ho hx hx1
  have hol : o < σ.length := (List.getElem?_eq_some_iff.1 ho).1
  have hil : i < cs.length := (List.getElem?_eq_some_iff.1 hx).1
  refine ⟨_, hd.release b fun p u y ha hu => ?_, ⟨by simp, (h.wd.kap b _ hk).1, (h.wd.kap b _ hk).2.1, (h.wd.kap b _ hk).2.2⟩, h.gr _ _ _ hat⟩
  have := hd.own p u y b ha hu
  rw [hk] at this
  cases this
  obtain ⟨b', ws', T', fz', cs', g1, g2, g3, g4, g5⟩ := ha
  rw [List.getElem?_set_self hol] at g3; cases g3
  rw [List.getElem?_set_self hil] at g5; cases g5
  rw [ownB_nogr] at hu; cases hu

/-- Given to a slot. -/
theorem St.giveSlot (h : St M ι X κ w us ρ σ) {v : Value} {x : V} (hr : Rep M ι v x) {b : Nat} (hb : ownB v x = some b) (hf : Free M ι X κ w b) (hg : GrOK M w v x) (d : Nat) :
    ∃ κ', St M ι X κ' w (us.set d v) (ρ.set d x) σ := h.setOwn hr hb hf.k hf.x hf.i hf.lt hg d

/-- Given to a cell that has the row already. -/
theorem St.giveCell (h : St M ι X κ w us ρ σ) {o i c : Nat} {cs : List V} {v : Value} {x : V} (hi : ι o = some c) {ws : Array Value} {T : TypeId} {fz : Nat × Nat} (hw : w.heap[c]? = some (.cells ws T fz))
    (ho : σ[o]? = some (.cells cs)) (hv : ws[i]? = some v) (hx : i < cs.length) (hr : Rep M ι v x) (hx1 : x.one = true) {b : Nat} (hb : ownB v x = some b) (hf : Free M ι X κ w b) (hg : GrOK M w v x) :
    ∃ κ', St M ι X κ' w us ρ (σ.set o (.cells (cs.set i x))) := by
  have hol : o < σ.length := (List.getElem?_eq_some_iff.1 ho).1
  have key : ∀ p u y, At ι w us ρ (σ.set o (.cells (cs.set i x))) p u y → (p ≠ .c o i ∧ At ι w us ρ σ p u y) ∨ (p = .c o i ∧ u = v ∧ y = x) := by
    intro p u y ha
    cases p with
    | s j => exact .inl ⟨by simp, ha⟩
    | c o' j =>
      obtain ⟨b', ws', T', fz', cs', g1, g2, g3, g4, g5⟩ := ha
      by_cases hoo : o = o'
      · subst hoo
        rw [hi] at g1; cases g1
        rw [hw] at g2; cases g2
        rw [List.getElem?_set_self hol] at g3; cases g3
        by_cases hij : i = j
        · subst hij
          rw [List.getElem?_set_self hx] at g5; cases g5
          rw [hv] at g4; cases g4
          exact .inr ⟨rfl, rfl, rfl⟩
        · rw [List.getElem?_set_ne hij] at g5
          exact .inl ⟨by simpa using fun e => hij e.symm, ⟨_, _, _, _, cs, hi, hw, ho, g4, g5⟩⟩
      · rw [List.getElem?_set_ne hoo] at g3
        exact .inl ⟨by simpa using fun e => absurd e.symm hoo, ⟨b', ws', T', fz', cs', g1, g2, g3, g4, g5⟩⟩
  refine ⟨fun b' => if b' = b then some (.c o i) else κ b', ⟨h.wd.mem, fun o' c' hi' => ?_, h.wd.olt, h.wd.inj, h.wd.xlt, h.wd.xobj, ?_⟩, h.rep, ?_, ?_⟩
  · obtain ⟨O, hO, hor⟩ := h.wd.obj o' c' hi'
    by_cases hoo : o = o'
    · subst hoo
      rw [hi] at hi'; cases hi'
      rw [ho] at hO; cases hO
      obtain ⟨ws', T', fz', h1, h2, h3, h4, h5⟩ := hor
      rw [hw] at h1; cases h1
      refine ⟨_, List.getElem?_set_self hol, ws, T, fz, hw, ?_, fun j hj => h3 j (by simpa using hj), h4, fun c hc => ?_⟩
      · rw [List.length_set]
        have := h2.set hr i
        rwa [set_same (show (ws.toList.take cs.length)[i]? = some v by rw [List.getElem?_take, if_pos hx]; simpa using hv)] at this
      · rcases List.mem_or_eq_of_mem_set hc with hc | rfl
        · exact h5 c hc
        · exact hx1
    · exact ⟨O, by rw [List.getElem?_set_ne hoo]; exact hO, hor⟩
  · intro b' p hp
    by_cases hbb : b' = b
    · subst hbb; exact ⟨hf.x, hf.i, hf.lt⟩
    · simp only [hbb, if_false] at hp; exact h.wd.kap b' p hp
  · intro p u y b' ha hb'
    rcases key p u y ha with ⟨hp, ha⟩ | ⟨rfl, rfl, rfl⟩
    · have hk' := h.own p u y b' ha hb'
      have hbb : b' ≠ b := fun e => by subst e; rw [hf.k] at hk'; cases hk'
      simp only [hbb, if_false]; exact hk'
    · rw [hb] at hb'; cases hb'; simp
  · intro p u y ha
    rcases key p u y ha with ⟨hp, ha⟩ | ⟨rfl, rfl, rfl⟩
    · exact h.gr p u y ha
    · exact hg

/-- Cells of a free block that nobody will write from now on. -/
def fillM (M : Mem) (b s : Nat) (vs : List Value) : Mem := fun c i => if c = b ∧ s ≤ i ∧ i < s + vs.length then vs[i - s]? else M c i

theorem fillM_le {b s : Nat} {vs : List Value} (hn : ∀ i, s ≤ i → M b i = none) : MemLe M (fillM M b s vs) :=
  ⟨fun c i u hm => by
    unfold fillM
    by_cases hc : c = b ∧ s ≤ i ∧ i < s + vs.length
    · obtain ⟨rfl, h1, _⟩ := hc; rw [hn i h1] at hm; cases hm
    · rw [if_neg hc]; exact hm⟩

theorem St.fill (h : St M ι X κ w us ρ σ) {b s : Nat} (hf : Free M ι X κ w b) {ws : Array Value} {T : TypeId} {fz : Nat × Nat} (hb : w.heap[b]? = some (.cells ws T fz)) {vs : List Value}
    (hn : ∀ i, s ≤ i → M b i = none) (hl : s + vs.length ≤ ws.size) :
    St (fillM M b s vs) ι X κ (setRow w b (layA ws s vs) T fz) us ρ σ ∧ Ext X M ι w (fillM M b s vs) ι (setRow w b (layA ws s vs) T fz) := by
  have hle := fillM_le (M := M) (vs := vs) hn
  have hget : ∀ j, (layA ws s vs)[j]? = if s ≤ j ∧ j < s + vs.length then vs[j - s]? else ws[j]? := fun j => layA_get vs ws s j hl
  have hother : ∀ c i, c ≠ b → fillM M b s vs c i = M c i := fun c i hc => by unfold fillM; rw [if_neg (fun e => hc e.1)]
  have hatb : ∀ p v x, At ι (setRow w b (layA ws s vs) T fz) us ρ σ p v x → At ι w us ρ σ p v x := by
    intro p v x ha
    cases p with
    | s i => exact ha
    | c o i =>
      obtain ⟨b', ws', T', fz', cs', g1, g2, g3⟩ := ha
      have hbb : b ≠ b' := fun e => by subst e; exact hf.i o g1
      rw [setRow_heap, if_neg hbb] at g2
      exact ⟨b', ws', T', fz', cs', g1, g2, g3⟩
  have hownb : ∀ p v x c, At ι w us ρ σ p v x → ownB v x = some c → b ≠ c := fun p v x c ha hc e => by
    subst e; have := h.own p v x _ ha hc; rw [hf.k] at this; cases this
  refine ⟨⟨⟨fun c i u hm => ?_, fun o c hi => ?_, fun o c hi => by rw [setRow_size]; exact h.wd.olt o c hi, h.wd.inj, fun c hc => by rw [setRow_size]; exact h.wd.xlt c hc, h.wd.xobj,
    fun c p hp => by rw [setRow_size]; exact h.wd.kap c p hp⟩, h.rep.mono hle (.refl _), fun p v x c ha hc => h.own p v x c (hatb p v x ha) hc, fun p v x ha => ?_⟩,
    ⟨hle, .refl _, fun c i hc => hother c i (fun e => hf.x (e ▸ hc)), by rw [setRow_size]; exact Nat.le_refl _, fun c hc => by
      have hbc : b ≠ c := fun e => by subst e; exact hf.x hc
      rw [setRow_heap, if_neg hbc], rfl, rfl, rfl⟩⟩
  · by_cases hcb : c = b
    · subst hcb
      rw [cell_row (by rw [setRow_heap, if_pos rfl, if_pos hf.lt] : (setRow w c (layA ws s vs) T fz).heap[c]? = some (.cells (layA ws s vs) T fz)), hget i]
      unfold fillM at hm
      by_cases hin : s ≤ i ∧ i < s + vs.length
      · rw [if_pos ⟨rfl, hin⟩] at hm; rw [if_pos hin]; exact hm
      · rw [if_neg (fun e => hin e.2)] at hm; rw [if_neg hin]
        have := h.wd.mem c i u hm
        rwa [cell_row hb] at this
    · rw [hother c i hcb] at hm
      have := h.wd.mem c i u hm
      simp only [World.cell?, setRow_heap, if_neg (Ne.symm hcb)]
      simpa [World.cell?] using this
  · obtain ⟨O, hO, hor⟩ := h.wd.obj o c hi
    have hcb : c ≠ b := fun e => hf.i o (e ▸ hi)
    refine ⟨O, hO, ?_⟩
    cases O with
    | cells cs =>
      obtain ⟨as, T', fz', h1, h2, h3, h4, h5⟩ := hor
      exact ⟨as, T', fz', by rw [setRow_heap, if_neg (Ne.symm hcb)]; exact h1, h2.mono hle (.refl _), h3, fun i => by rw [hother c i hcb]; exact h4 i, h5⟩
    | mp es =>
      obtain ⟨en, k, h1, h2⟩ := hor
      exact ⟨en, k, by rw [setRow_heap, if_neg (Ne.symm hcb)]; exact h1, h2.1, fun i e p he hp => ⟨(h2.2 i e p he hp).1.mono hle (.refl _), (h2.2 i e p he hp).2.mono hle (.refl _)⟩⟩
  · have ha' := hatb p v x ha
    refine ⟨fun xs sz hx a len cap hv => ?_⟩
    have hob : ownB v x = some a.block := by rw [hx, hv]; rfl
    have hne := hownb p v x _ ha' hob
    obtain ⟨h1, h2, as, T', fz', h3, h4⟩ := (h.gr p v x ha').ok xs sz hx a len cap hv
    exact ⟨h1, fun i hi => by rw [hother _ i (Ne.symm hne)]; exact h2 i hi, as, T', fz', by rw [setRow_heap, if_neg hne]; exact h3, h4⟩
end
end Go.Ev
