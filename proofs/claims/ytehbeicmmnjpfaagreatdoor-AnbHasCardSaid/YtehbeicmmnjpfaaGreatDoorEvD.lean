/- Memory: reading and writing rows of cells; new blocks. -/
import Derived.Test.YtehbeicmmnjpfaaGreatDoorEvC
set_option linter.unusedSimpArgs false
set_option linter.unusedVariables false
namespace Go.Ev
open Go

theorem add_none (b off n : Nat) : (⟨b, off, none⟩ : Addr).add n = ⟨b, off + n, none⟩ := by
  unfold Addr.add
  split
  · rename_i h; subst h; rfl
  · rfl

theorem sem_pure_run {α : Type} (P : Program) (x : α) (w : World) : (pure x : Sem α).run P w = .ok x w := rfl
theorem sem_bind_run {α β : Type} (P : Program) (x : Sem α) (f : α → Sem β) (w : World) :
    (x >>= f).run P w = (x.run P w).andThen fun a w' => (f a).run P w' := Sem.run_bind' P x f w

theorem run_load {P : Program} {w : World} {a : Addr} {v : Value} (h : w.cell? a = some v) : (load a).run P w = .ok v w := by
  simp [load, Sem.run, h]

theorem run_loadCellsFrom {P : Program} {w : World} (b off : Nat) : ∀ (vs : List Value) (i : Nat) (acc : Array Value),
    (∀ (j : Nat) u, vs[j]? = some u → w.cell? ⟨b, off + (i + j), none⟩ = some u) →
    (loadCellsFrom ⟨b, off, none⟩ i vs.length acc).run P w = .ok (acc ++ vs.toArray) w
  | [], i, acc, _ => by simp [loadCellsFrom, sem_pure_run]
  | v :: vs, i, acc, h => by
    have h0 := h 0 v rfl
    simp only [List.length_cons, loadCellsFrom, add_none]
    rw [sem_bind_run, run_load (by simpa using h0)]
    simp only [Result.andThen]
    rw [run_loadCellsFrom b off vs (i + 1) (acc.push v) (fun j u hu => by
      have := h (j + 1) u (by simpa using hu)
      rw [show off + (i + 1 + j) = off + (i + (j + 1)) from by omega]
      exact this)]
    simp

theorem run_loadCells {P : Program} {w : World} (b off : Nat) (vs : List Value) (h : ∀ (j : Nat) u, vs[j]? = some u → w.cell? ⟨b, off + j, none⟩ = some u) :
    (loadCells ⟨b, off, none⟩ vs.length).run P w = .ok vs.toArray w := by
  unfold loadCells
  rw [run_loadCellsFrom b off vs 0 #[] (fun j u hu => by simpa using h j u hu)]
  simp

/-- A block's row of cells, written anew. -/
def setRow (w : World) (b : Nat) (ws : Array Value) (T : TypeId) (fz : Nat × Nat) : World := { w with heap := w.heap.setIfInBounds b (.cells ws T fz) }

theorem setRow_heap (w : World) (b : Nat) (ws : Array Value) (T : TypeId) (fz : Nat × Nat) (c : Nat) :
    (setRow w b ws T fz).heap[c]? = if b = c then (if b < w.heap.size then some (.cells ws T fz) else none) else w.heap[c]? := by
  simp only [setRow, Array.getElem?_setIfInBounds]

theorem setRow_size (w : World) (b : Nat) (ws : Array Value) (T : TypeId) (fz : Nat × Nat) : (setRow w b ws T fz).heap.size = w.heap.size := by
  simp [setRow]

theorem setRow_same {w : World} {b : Nat} {ws : Array Value} {T : TypeId} {fz : Nat × Nat} (h : w.heap[b]? = some (.cells ws T fz)) : setRow w b ws T fz = w := by
  have hb : b < w.heap.size := (Array.getElem?_eq_some_iff.1 h).1
  have he : w.heap[b] = .cells ws T fz := by rw [Array.getElem?_eq_getElem hb] at h; exact Option.some.inj h
  unfold setRow
  have : w.heap.setIfInBounds b (.cells ws T fz) = w.heap := by
    apply Array.ext
    · simp
    · intro i h1 h2
      rw [Array.getElem_setIfInBounds (by simpa using h1)]
      split
      · rename_i hbi; subst hbi; exact he.symm
      · rfl
  rw [this]

/-- Cells laid into a row. -/
def layA : Array Value → Nat → List Value → Array Value
  | ws, _, [] => ws
  | ws, i, u :: us => layA (ws.setIfInBounds i u) (i + 1) us

theorem layA_size : ∀ (us : List Value) (ws : Array Value) (i : Nat), (layA ws i us).size = ws.size
  | [], _, _ => rfl
  | u :: us, ws, i => by simp [layA, layA_size us]

theorem layA_get : ∀ (us : List Value) (ws : Array Value) (i j : Nat), i + us.length ≤ ws.size →
    (layA ws i us)[j]? = if i ≤ j ∧ j < i + us.length then us[j - i]? else ws[j]?
  | [], ws, i, j, _ => by
    have : ¬ (i ≤ j ∧ j < i + ([] : List Value).length) := by simp only [List.length_nil]; omega
    rw [if_neg this]
    rfl
  | u :: us, ws, i, j, h => by
    simp only [List.length_cons] at h
    simp only [layA]
    rw [layA_get us _ (i + 1) j (by simp; omega), Array.getElem?_setIfInBounds]
    by_cases hij : i = j
    · subst hij
      rw [if_neg (by omega), if_pos rfl, if_pos (by omega), if_pos (by simp)]
      simp
    · by_cases hc : i + 1 ≤ j ∧ j < i + 1 + us.length
      · rw [if_pos hc, if_pos (by simp; omega)]
        rw [show j - i = (j - (i + 1)) + 1 from by omega]
        simp
      · rw [if_neg hc, if_neg hij, if_neg (by simp; omega)]

theorem cell_row {w : World} {b : Nat} {ws : Array Value} {T : TypeId} {fz : Nat × Nat} (h : w.heap[b]? = some (.cells ws T fz)) (i : Nat) : w.cell? ⟨b, i, none⟩ = ws[i]? := by
  simp [World.cell?, h]

theorem frozen_row {w : World} {b : Nat} {ws : Array Value} {T : TypeId} {fz : Nat × Nat} (h : w.heap[b]? = some (.cells ws T fz)) (i : Nat) : w.frozen? ⟨b, i, none⟩ = frozenAt fz i := by
  simp [World.frozen?, h, frozenAt]

theorem setCell_row {w : World} {b : Nat} {ws : Array Value} {T : TypeId} {fz : Nat × Nat} (h : w.heap[b]? = some (.cells ws T fz)) (i : Nat) (u : Value) :
    w.setCell ⟨b, i, none⟩ u = setRow w b (ws.setIfInBounds i u) T fz := by
  have hb : b < w.heap.size := (Array.getElem?_eq_some_iff.1 h).1
  have he : w.heap[b] = .cells ws T fz := by rw [Array.getElem?_eq_getElem hb] at h; exact Option.some.inj h
  unfold World.setCell setRow
  have : w.heap.modify b (fun
      | .cells c elem frozen => .cells (if (⟨b, i, none⟩ : Addr).spot.isSome then c else c.setIfInBounds (⟨b, i, none⟩ : Addr).off u) elem frozen
      | o => o) = w.heap.setIfInBounds b (.cells (ws.setIfInBounds i u) T fz) := by
    apply Array.ext
    · simp
    · intro j h1 h2
      rw [Array.getElem_modify, Array.getElem_setIfInBounds (by simpa using h2)]
      split
      · rename_i hbj; subst hbj; simp [he]
      · rfl
  exact congrArg (fun h => ({ w with heap := h } : World)) this

theorem run_store {P : Program} {w : World} {b i : Nat} {ws : Array Value} {T : TypeId} {fz : Nat × Nat} {u : Value} (h : w.heap[b]? = some (.cells ws T fz))
    (hi : i < ws.size) (hf : frozenAt fz i = false) (hu : u.oneCell = true) : (store ⟨b, i, none⟩ u).run P w = .ok () (setRow w b (ws.setIfInBounds i u) T fz) := by
  have hc : w.cell? ⟨b, i, none⟩ = some ws[i] := by rw [cell_row h, Array.getElem?_eq_getElem hi]
  have hfz : w.frozen? ⟨b, i, none⟩ = false := by rw [frozen_row h, hf]
  rw [← setCell_row h i u]
  unfold store
  cases u <;> first | (simp [Value.oneCell] at hu; done) | simp [Sem.run, hc, hfz]

theorem run_storeCells {P : Program} (b off : Nat) (T : TypeId) (fz : Nat × Nat) : ∀ (us : List Value) (w : World) (ws : Array Value) (i : Nat),
    w.heap[b]? = some (.cells ws T fz) → off + i + us.length ≤ ws.size → (∀ j, off + i ≤ j → j < off + i + us.length → frozenAt fz j = false) → (∀ u ∈ us, u.oneCell = true) →
    (storeCells ⟨b, off, none⟩ us i).run P w = .ok () (setRow w b (layA ws (off + i) us) T fz)
  | [], w, ws, i, h, _, _, _ => by
    simp only [storeCells, layA]
    rw [setRow_same h]
    rfl
  | u :: us, w, ws, i, h, hl, hf, hu => by
    simp only [List.length_cons] at hl hf
    simp only [storeCells, add_none, layA]
    have hb : b < w.heap.size := (Array.getElem?_eq_some_iff.1 h).1
    rw [sem_bind_run, run_store h (by omega) (hf _ (by omega) (by omega)) (hu u (by simp))]
    simp only [Result.andThen]
    have h' : (setRow w b (ws.setIfInBounds (off + i) u) T fz).heap[b]? = some (.cells (ws.setIfInBounds (off + i) u) T fz) := by
      rw [setRow_heap, if_pos rfl, if_pos hb]
    rw [run_storeCells b off T fz us _ _ (i + 1) h' (by simp; omega) (fun j h1 h2 => hf j (by omega) (by omega)) (fun v hv => hu v (by simp [hv]))]
    congr 1
    unfold setRow
    simp only [Array.setIfInBounds_setIfInBounds, Nat.add_assoc]

/-- A new block. -/
def pushB (w : World) (o : Obj) : World := { w with heap := w.heap.push o }

theorem pushB_heap (w : World) (o : Obj) (c : Nat) : (pushB w o).heap[c]? = if c = w.heap.size then some o else w.heap[c]? := by
  simp only [pushB, Array.getElem?_push]
theorem pushB_size (w : World) (o : Obj) : (pushB w o).heap.size = w.heap.size + 1 := by simp [pushB]
theorem pushB_old (w : World) (o : Obj) {c : Nat} (h : c < w.heap.size) : (pushB w o).heap[c]? = w.heap[c]? := by
  rw [pushB_heap, if_neg (by omega)]
theorem pushB_new (w : World) (o : Obj) : (pushB w o).heap[w.heap.size]? = some o := by rw [pushB_heap, if_pos rfl]

/-- Cells of a new block that nobody will write. -/
def pushM (M : Mem) (s : Nat) (ws : List Value) : Mem := fun b i => if b = s then ws[i]? else M b i

section
variable {M : Mem} {ι : Plc} {X : Nat → Prop} {κ : Own} {w : World} {us : List Value} {ρ : List V} {σ : Objs}

theorem ObjRep.push (hw : Wd M ι X κ w σ) {M' : Mem} (hM : MemLe M M') (hM' : ∀ b i, b < w.heap.size → M' b i = M b i) {ι' : Plc} (hι : PlcLe ι ι') (o : Obj) {b : Nat} {O : O} (h : ObjRep M ι w b O)
    (hb : b < w.heap.size) : ObjRep M' ι' (pushB w o) b O := by
  cases O with
  | cells cs =>
    obtain ⟨ws, T, fz, h1, h2, h3, h4, h5⟩ := h
    exact ⟨ws, T, fz, by rw [pushB_old w o hb]; exact h1, h2.mono hM hι, h3, fun i => by rw [hM' b i hb]; exact h4 i, h5⟩
  | mp es =>
    obtain ⟨en, c, h1, h2⟩ := h
    exact ⟨en, c, by rw [pushB_old w o hb]; exact h1, h2.1, fun i e p he hp => ⟨(h2.2 i e p he hp).1.mono hM hι, (h2.2 i e p he hp).2.mono hM hι⟩⟩

end
end Go.Ev
