/- The state behind a store to an object, and behind a row that grew in its place. -/
import Derived.Test.YtehbeicmmnjpfaaGreatDoorEvE
set_option linter.unusedSimpArgs false
set_option linter.unusedVariables false
namespace Go.Ev
open Go

theorem set_same {α : Type} {l : List α} {i : Nat} {u : α} (h : l[i]? = some u) : l.set i u = l := by
  obtain ⟨hi, rfl⟩ := List.getElem?_eq_some_iff.1 h
  exact List.set_getElem_self hi

theorem putAt_length : ∀ (cs : List V) (off : Nat) (ds : List V), (putAt cs off ds).length = cs.length
  | cs, _, [] => by unfold putAt; rfl
  | [], _, _ :: _ => by simp [putAt]
  | _ :: cs, 0, x :: xs => by simp [putAt, putAt_length cs 0 xs]
  | c :: cs, n + 1, x :: xs => by simp [putAt, putAt_length cs n (x :: xs)]

theorem putAt_get : ∀ (cs : List V) (off : Nat) (ds : List V) (j : Nat), off + ds.length ≤ cs.length →
    (putAt cs off ds)[j]? = if off ≤ j ∧ j < off + ds.length then ds[j - off]? else cs[j]?
  | cs, off, [], j, _ => by
    rw [if_neg (by simp only [List.length_nil]; omega)]
    unfold putAt; rfl
  | [], off, x :: xs, j, h => by simp at h
  | c :: cs, 0, x :: xs, j, h => by
    simp only [putAt]
    cases j with
    | zero => simp
    | succ j =>
      simp only [List.getElem?_cons_succ]
      rw [putAt_get cs 0 xs j (by simp at h ⊢; exact h)]
      simp only [Nat.zero_le, true_and, Nat.zero_add, List.length_cons, Nat.sub_zero, Nat.add_lt_add_iff_right, List.getElem?_cons_succ]
  | c :: cs, n + 1, x :: xs, j, h => by
    simp only [putAt]
    cases j with
    | zero => simp
    | succ j =>
      simp only [List.getElem?_cons_succ]
      rw [putAt_get cs n (x :: xs) j (by simp at h ⊢; omega)]
      simp only [Nat.add_le_add_iff_right, Nat.add_sub_add_right]
      by_cases hc : n ≤ j ∧ j < n + (x :: xs).length
      · rw [if_pos hc, if_pos (by omega)]
      · rw [if_neg hc, if_neg (by omega)]

section
variable {M : Mem} {ι : Plc} {X : Nat → Prop} {κ : Own} {w : World} {us : List Value} {ρ : List V} {σ : Objs}

theorem Ext.setRow {b : Nat} (hX : ¬ X b) (ws : Array Value) (T : TypeId) (fz : Nat × Nat) : Ext X M ι w M ι (setRow w b ws T fz) :=
  ⟨.refl _, .refl _, fun _ _ _ => rfl, by rw [setRow_size]; exact Nat.le_refl _, fun c hc => by
    have hbc : b ≠ c := fun e => by subst e; exact hX hc
    rw [setRow_heap, if_neg hbc], rfl, rfl, rfl⟩

/-- Behind a store: what is known of another block is known still. -/
theorem ObjRep.setRow {b c : Nat} {O : O} {ws : Array Value} {T : TypeId} {fz : Nat × Nat} (h : ObjRep M ι w c O) (hbc : b ≠ c) : ObjRep M ι (setRow w b ws T fz) c O := by
  cases O with
  | cells cs =>
    obtain ⟨as, T', fz', h1, h2⟩ := h
    exact ⟨as, T', fz', by rw [setRow_heap, if_neg hbc]; exact h1, h2⟩
  | mp es =>
    obtain ⟨en, k, h1, h2⟩ := h
    exact ⟨en, k, by rw [setRow_heap, if_neg hbc]; exact h1, h2⟩

theorem GrOK.setRow {v : Value} {x : V} {b : Nat} {ws : Array Value} {T : TypeId} {fz : Nat × Nat} (h : GrOK M w v x) (hb : ∀ c, ownB v x = some c → b ≠ c) : GrOK M (setRow w b ws T fz) v x := by
  refine ⟨fun xs sz hx a len cap hv => ?_⟩
  obtain ⟨h1, h2, as, T', fz', h3, h4⟩ := h.ok xs sz hx a len cap hv
  exact ⟨h1, h2, as, T', fz', by rw [setRow_heap, if_neg (hb a.block (by rw [hx, hv]; rfl))]; exact h3, h4⟩

/-- Cells of an object are written with what owns nothing. -/
theorem St.setObj (h : St M ι X κ w us ρ σ) {o b off : Nat} {cs : List V} (hi : ι o = some b) (ho : σ[o]? = some (.cells cs)) {ws : Array Value} {T : TypeId} {fz : Nat × Nat}
    (hb : w.heap[b]? = some (.cells ws T fz)) {vs : List Value} {ds : List V} (hr : Reps M ι vs ds) (hl : off + ds.length ≤ cs.length) (hone : ∀ c ∈ ds, c.one = true) (hno : ∀ c ∈ ds, ∀ v, ownB v c = none) :
    St M ι X κ (setRow w b (layA ws off vs) T fz) us ρ (σ.set o (.cells (putAt cs off ds))) ∧ Ext X M ι w M ι (setRow w b (layA ws off vs) T fz) := by
  have hX := h.wd.xobj o b hi
  have hbl := h.wd.olt o b hi
  have hol : o < σ.length := (List.getElem?_eq_some_iff.1 ho).1
  obtain ⟨O, hO, hor⟩ := h.wd.obj o b hi
  rw [ho] at hO; cases hO
  obtain ⟨as, T', fz', h1, h2, h3, h4, h5⟩ := hor
  rw [hb] at h1; cases h1
  have hsz : cs.length ≤ ws.size := by have := h2.1; simp at this; omega
  have hvl : vs.length = ds.length := hr.1
  have hget : ∀ j, (layA ws off vs)[j]? = if off ≤ j ∧ j < off + vs.length then vs[j - off]? else ws[j]? := fun j => layA_get vs ws off j (by omega)
  have hget' : ∀ j, (putAt cs off ds)[j]? = if off ≤ j ∧ j < off + ds.length then ds[j - off]? else cs[j]? := fun j => putAt_get cs off ds j hl
  have hreps : Reps M ι ((layA ws off vs).toList.take (putAt cs off ds).length) (putAt cs off ds) := by
    refine ⟨by simp [layA_size, putAt_length]; omega, fun i u c hu hc => ?_⟩
    rw [List.getElem?_take] at hu
    split at hu
    · rename_i hlt
      rw [Array.getElem?_toList, hget i] at hu
      rw [hget' i, ← hvl] at hc
      by_cases hin : off ≤ i ∧ i < off + vs.length
      · rw [if_pos hin] at hu hc; exact hr.2 _ u c hu hc
      · rw [if_neg hin] at hu hc
        refine h2.2 i u c ?_ hc
        rw [List.getElem?_take, if_pos (by rw [putAt_length] at hlt; exact hlt)]; simpa using hu
    · cases hu
  have key : ∀ p v x, At ι (Ev.setRow w b (layA ws off vs) T fz) us ρ (σ.set o (.cells (putAt cs off ds))) p v x → At ι w us ρ σ p v x ∨ ownB v x = none := by
    intro p v x ha
    cases p with
    | s i => exact .inl ha
    | c o' i =>
      obtain ⟨b', ws', T', fz', cs', g1, g2, g3, g4, g5⟩ := ha
      by_cases hoo : o = o'
      · subst hoo
        rw [hi] at g1; cases g1
        rw [setRow_heap, if_pos rfl, if_pos hbl] at g2; cases g2
        rw [List.getElem?_set_self hol] at g3; cases g3
        rw [hget i] at g4; rw [hget' i, ← hvl] at g5
        by_cases hin : off ≤ i ∧ i < off + vs.length
        · rw [if_pos hin] at g5; exact .inr (hno x (List.mem_of_getElem? g5) v)
        · rw [if_neg hin] at g4 g5; exact .inl ⟨b, ws, _, _, cs, hi, hb, ho, g4, g5⟩
      · have hbb : b ≠ b' := fun e => hoo (h.wd.inj o o' b hi (e ▸ g1))
        rw [setRow_heap, if_neg hbb] at g2
        rw [List.getElem?_set_ne hoo] at g3
        exact .inl ⟨b', ws', T', fz', cs', g1, g2, g3, g4, g5⟩
  refine ⟨⟨⟨fun c i u hm => ?_, fun o' c hi' => ?_, fun o' c hi' => by rw [setRow_size]; exact h.wd.olt o' c hi', h.wd.inj, fun c hc => by rw [setRow_size]; exact h.wd.xlt c hc, h.wd.xobj,
    fun c p hp => by rw [setRow_size]; exact h.wd.kap c p hp⟩, h.rep, fun p v x c ha hc => ?_, fun p v x ha => ?_⟩, Ext.setRow hX _ _ _⟩
  · have hcb : b ≠ c := fun e => by subst e; rw [h4 i] at hm; cases hm
    have := h.wd.mem c i u hm
    simp only [World.cell?, setRow_heap, if_neg hcb]
    simpa [World.cell?] using this
  · by_cases hoo : o = o'
    · subst hoo
      rw [hi] at hi'; cases hi'
      refine ⟨_, List.getElem?_set_self hol, layA ws off vs, T, fz, by rw [setRow_heap, if_pos rfl, if_pos hbl], hreps, fun i hi => h3 i (by rw [putAt_length] at hi; exact hi), h4, fun c hc => ?_⟩
      obtain ⟨i, hi⟩ := List.mem_iff_getElem?.1 hc
      rw [hget' i] at hi
      split at hi
      · exact hone c (List.mem_of_getElem? hi)
      · exact h5 c (List.mem_of_getElem? hi)
    · obtain ⟨O', hO', hr'⟩ := h.wd.obj o' c hi'
      have hbb : b ≠ c := fun e => hoo (h.wd.inj o o' b hi (e ▸ hi'))
      exact ⟨O', by rw [List.getElem?_set_ne hoo]; exact hO', hr'.setRow hbb⟩
  · rcases key p v x ha with ha | hn
    · exact h.own p v x c ha hc
    · rw [hn] at hc; cases hc
  · rcases key p v x ha with ha | hn
    · exact (h.gr p v x ha).setRow fun c hc => fun e => by
        subst e
        exact (h.wd.kap _ _ (h.own p v x _ ha hc)).2.1 o hi
    · exact .of_none hn

/-- A cell's holder lets go what it may do. -/
theorem St.weakCell (h : St M ι X κ w us ρ σ) {o i : Nat} {cs : List V} {x y : V} (ho : σ[o]? = some (.cells cs)) (hx : cs[i]? = some x) (hx1 : y.one = true) (hxy : ∀ v, Rep M ι v x → Rep M ι v y) (hyo : ∀ v, ownB v y = none) :
    St M ι X κ w us ρ (σ.set o (.cells (cs.set i y))) := by
  have hol : o < σ.length := (List.getElem?_eq_some_iff.1 ho).1
  have hil : i < cs.length := (List.getElem?_eq_some_iff.1 hx).1
  have key : ∀ p v z, At ι w us ρ (σ.set o (.cells (cs.set i y))) p v z → At ι w us ρ σ p v z ∨ ownB v z = none := by
    intro p v z ha
    cases p with
    | s j => exact .inl ha
    | c o' j =>
      obtain ⟨b, ws, T, fz, cs', g1, g2, g3, g4, g5⟩ := ha
      by_cases hoo : o = o'
      · subst hoo
        rw [List.getElem?_set_self hol] at g3; cases g3
        by_cases hij : i = j
        · subst hij
          rw [List.getElem?_set_self hil] at g5; cases g5
          exact .inr (hyo _)
        · rw [List.getElem?_set_ne hij] at g5
          exact .inl ⟨b, ws, T, fz, cs, g1, g2, ho, g4, g5⟩
      · rw [List.getElem?_set_ne hoo] at g3
        exact .inl ⟨b, ws, T, fz, cs', g1, g2, g3, g4, g5⟩
  refine ⟨⟨h.wd.mem, fun o' b hi => ?_, h.wd.olt, h.wd.inj, h.wd.xlt, h.wd.xobj, h.wd.kap⟩, h.rep, fun p v z b ha hb => ?_, fun p v z ha => ?_⟩
  · obtain ⟨O, hO, hr⟩ := h.wd.obj o' b hi
    by_cases hoo : o = o'
    · subst hoo
      rw [ho] at hO; cases hO
      obtain ⟨ws, T, fz, h1, h2, h3, h4, h5⟩ := hr
      refine ⟨_, List.getElem?_set_self hol, ws, T, fz, h1, ?_, fun j hj => h3 j (by simpa using hj), h4, fun c hc => ?_⟩
      · rw [List.length_set]
        obtain ⟨u, hu, hru⟩ := h2.get hx
        have := h2.set (hxy _ hru) i
        rwa [set_same hu] at this
      · rcases List.mem_or_eq_of_mem_set hc with hc | rfl
        · exact h5 c hc
        · exact hx1
    · exact ⟨O, by rw [List.getElem?_set_ne hoo]; exact hO, hr⟩
  · rcases key p v z ha with ha | hn
    · exact h.own p v z b ha hb
    · rw [hn] at hb; cases hb
  · rcases key p v z ha with ha | hn
    · exact h.gr p v z ha
    · exact .of_none hn

theorem St.dropCell (h : St M ι X κ w us ρ σ) {o i : Nat} {cs : List V} {x : V} (ho : σ[o]? = some (.cells cs)) (hx : cs[i]? = some x) (hx1 : x.nogr.one = true) :
    St M ι X κ w us ρ (σ.set o (.cells (cs.set i x.nogr))) := h.weakCell ho hx hx1 (fun _ hr => hr.nogr) (fun _ => ownB_nogr _ _)
end
end Go.Ev
