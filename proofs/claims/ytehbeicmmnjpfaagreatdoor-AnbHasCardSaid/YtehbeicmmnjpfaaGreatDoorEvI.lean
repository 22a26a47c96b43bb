/- Reading: what a step that writes nothing answers. -/
import Derived.Test.YtehbeicmmnjpfaaGreatDoorEvH
import Derived.Laws.StructEq
import Derived.Laws.BytesString
set_option linter.unusedSimpArgs false
set_option linter.unusedVariables false
namespace Go.Ev
open Go

/-- Cells of the memory, from a place on. -/
def CellsAt (w : World) (b off : Nat) (us : List Value) : Prop := ∀ (i : Nat) u, us[i]? = some u → w.cell? ⟨b, off + i, none⟩ = some u

section
variable {P : Program} {M : Mem} {ι : Plc} {X : Nat → Prop} {κ : Own} {w : World} {σ : Objs}

theorem CellsAt.drop {b off : Nat} {us : List Value} (h : CellsAt w b off us) (n : Nat) : CellsAt w b (off + n) (us.drop n) := fun i u hu => by
  rw [List.getElem?_drop] at hu
  have := h (n + i) u hu
  rwa [← Nat.add_assoc] at this
theorem CellsAt.take {b off : Nat} {us : List Value} (h : CellsAt w b off us) (n : Nat) : CellsAt w b off (us.take n) := fun i u hu => by
  rw [List.getElem?_take] at hu
  split at hu
  · exact h i u hu
  · cases hu

theorem Wd.cells (h : Wd M ι X κ w σ) {b off : Nat} {us : List Value} (hm : ∀ (i : Nat) u, us[i]? = some u → M b (off + i) = some u) : CellsAt w b off us := fun i u hu => h.mem b _ u (hm i u hu)

/-- An object's cells. -/
theorem Wd.objCells (h : Wd M ι X κ w σ) {o b : Nat} {cs : List V} (hi : ι o = some b) (ho : Objs.get σ o = some cs) : ∃ us, Reps M ι us cs ∧ CellsAt w b 0 us := by
  unfold Objs.get at ho
  obtain ⟨O, hO, hr⟩ := h.obj o b hi
  rw [hO] at ho
  cases O with
  | cells cs' =>
    simp at ho; subst ho
    obtain ⟨ws, T, fz, h1, h2, _⟩ := hr
    refine ⟨_, h2, fun i u hu => ?_⟩
    rw [cell_row h1, Nat.zero_add]
    rw [List.getElem?_take] at hu
    split at hu
    · simpa using hu
    · cases hu
  | mp es => cases ho

/-- A variable is read. -/
theorem run_loadVar {t : TypeId} {ag : Bool} {sz b base off : Nat} {cs : List V} {us : List Value} {x : V} (ht : chkTy P t ag sz = true) (hr : Reps M ι us cs) (hc : CellsAt w b base us)
    (hp : part ag sz cs off = some x) : ∃ u, (loadVar t ⟨b, base + off, none⟩).run P w = .ok u w ∧ Rep M ι u x := by
  simp only [chkTy, Bool.and_eq_true, beq_iff_eq] at ht
  obtain ⟨⟨hag, hsz⟩, hone⟩ := ht
  unfold part at hp
  cases ag with
  | true =>
    simp only [if_true] at hp
    split at hp
    · rename_i hle
      cases hp
      have hl : ((us.drop off).take sz).length = sz := by
        have := hr.1
        simp; omega
      have hrun := run_loadCells (P := P) (w := w) b (base + off) ((us.drop off).take sz) ((hc.drop off).take sz)
      rw [hl] at hrun
      refine ⟨.agg ((us.drop off).take sz).toArray, ?_, Rep.agg_iff.2 (by simpa using ((hr.drop off).take sz).nogr)⟩
      unfold loadVar
      simp only [sem_bind_run, run_isAgg hag, run_sizeOf hsz, Result.andThen, if_true, hrun]
      rfl
    · cases hp
  | false =>
    simp only [Bool.false_eq_true, if_false] at hp
    split at hp
    · rw [Option.map_eq_some_iff] at hp
      obtain ⟨c, hcx, rfl⟩ := hp
      obtain ⟨u, hu, hru⟩ := hr.get hcx
      refine ⟨u, ?_, hru.nogr⟩
      unfold loadVar
      simp only [sem_bind_run, run_isAgg hag, Result.andThen, Bool.false_eq_true, if_false]
      exact run_load (hc off u hu)
    · cases hp

theorem snd_load (h : Wd M ι X κ w σ) {t : TypeId} {ag : Bool} {sz : Nat} {v : Value} {p x : V} (ht : chkTy P t ag sz = true) (hv : Rep M ι v p)
    (hx : evLoad σ ag sz p = some x) :
    ∃ u, (Instr.loadAt t v).run P w = .ok u w ∧ Rep M ι u x := by
  unfold evLoad at hx
  cases p with
  | ptr o off =>
    obtain ⟨b, rfl, hi⟩ := hv.inv_ptr
    simp only [Option.bind_eq_bind, Option.bind_eq_some_iff] at hx
    obtain ⟨cs, hcs, hp⟩ := hx
    obtain ⟨us, hr, hc⟩ := h.objCells hi hcs
    obtain ⟨u, hrun, hu⟩ := run_loadVar ht hr hc hp
    refine ⟨u, ?_, hu⟩
    rw [Nat.zero_add] at hrun
    unfold Instr.loadAt Instr.sureAddr
    rw [sem_bind_run, sem_pure_run]
    exact hrun
  | eptr cs off =>
    obtain ⟨b, base, us, rfl, hr, hm⟩ := hv.inv_eptr
    obtain ⟨u, hrun, hu⟩ := run_loadVar ht hr (h.cells hm) hx
    refine ⟨u, ?_, hu⟩
    unfold Instr.loadAt Instr.sureAddr
    rw [sem_bind_run, sem_pure_run]
    exact hrun
  | _ => simp at hx

/-- A part of a value. -/
theorem run_part {t : TypeId} {ag : Bool} {sz off : Nat} {cs : List V} {vs : Array Value} {x : V} (ht : chkTy P t ag sz = true) (hr : Reps M ι vs.toList cs) (hp : part ag sz cs off = some x) :
    ∃ u, (Go.part t vs off).run P w = .ok u w ∧ Rep M ι u x := by
  simp only [chkTy, Bool.and_eq_true, beq_iff_eq] at ht
  obtain ⟨⟨hag, hsz⟩, hone⟩ := ht
  unfold part at hp
  cases ag with
  | true =>
    simp only [if_true] at hp
    split at hp
    · rename_i hle
      cases hp
      refine ⟨.agg (vs.extract off (off + sz)), ?_, Rep.agg_iff.2 ?_⟩
      · unfold Go.part
        simp only [sem_bind_run, run_isAgg hag, run_sizeOf hsz, Result.andThen, if_true]
        rfl
      · have := ((hr.drop off).take sz).nogr
        rw [Array.toList_extract, List.extract_eq_take_drop]
        simpa using this
    · cases hp
  | false =>
    simp only [Bool.false_eq_true, if_false] at hp
    split at hp
    · rw [Option.map_eq_some_iff] at hp
      obtain ⟨c, hcx, rfl⟩ := hp
      obtain ⟨u, hu, hru⟩ := hr.get hcx
      refine ⟨u, ?_, hru.nogr⟩
      unfold Go.part
      simp only [sem_bind_run, run_isAgg hag, Result.andThen, Bool.false_eq_true, if_false]
      rw [show vs[off]? = some u by simpa using hu]
      rfl
    · cases hp

theorem run_asInt {k : IntKind} {n : Int} : (asIntOf (.int k n)).run P w = .ok (k, n) w := rfl

theorem index_some {i : V} {n j : Nat} (h : index i n = some j) : ∃ k q, i = .int k q ∧ 0 ≤ q ∧ q < n ∧ j = q.toNat := by
  unfold index at h
  split at h
  · split at h
    · rename_i hc; cases h; exact ⟨_, _, rfl, hc.1, hc.2, rfl⟩
    · cases h
  · cases h

theorem bound_some {x : V} {hi l : Nat} (h : bound x hi = some l) : ∃ k q, x = .int k q ∧ 0 ≤ q ∧ q ≤ hi ∧ l = q.toNat := by
  unfold bound at h
  split at h
  · split at h
    · rename_i hc; cases h; exact ⟨_, _, rfl, hc.1, hc.2, rfl⟩
    · cases h
  · cases h

theorem run_sliceBound {v : Value} {x : V} {hi l : Nat} {code : BoundsCode} (hv : Rep M ι v x) (h : bound x hi = some l) : (Instr.sliceBound v hi code).run P w = .ok l w := by
  obtain ⟨k, q, rfl, h0, h1, rfl⟩ := bound_some h
  cases hv.inv_int
  unfold Instr.sliceBound
  simp only [sem_bind_run, run_asInt, Result.andThen]
  rw [if_pos ⟨h0, h1⟩]
  rfl

/-- Bounds of a piece; cap: where the row itself ends. -/
def RepO (M : Mem) (ι : Plc) : Option Value → Option V → Prop
  | none, none => True
  | some v, some x => Rep M ι v x
  | _, _ => False

theorem bound_mono {x : V} {a b l : Nat} (h : bound x a = some l) (hab : a ≤ b) : bound x b = some l := by
  obtain ⟨k, q, rfl, h0, h1, rfl⟩ := bound_some h
  show (if 0 ≤ q ∧ q ≤ (b : Int) then some q.toNat else none) = some q.toNat
  rw [if_pos ⟨h0, by omega⟩]

theorem bound_le {x : V} {a l : Nat} (h : bound x a = some l) : l ≤ a := by
  obtain ⟨k, q, rfl, h0, h1, rfl⟩ := bound_some h
  omega

theorem run_sliceBounds {isSlice : Bool} {len cap l h : Nat} {m : Option Nat} {lo hi mx : Option Value} {xlo xhi xmx : Option V} (hcap : len ≤ cap)
    (h1 : RepO M ι lo xlo) (h2 : RepO M ι hi xhi) (h3 : RepO M ι mx xmx) (hmx : xmx.isSome → xhi.isSome) (hb : bounds len xlo xhi xmx = some (l, h, m)) :
    (Instr.sliceBounds isSlice len cap lo hi mx).run P w = .ok (l, h, m.getD cap) w ∧ l ≤ h ∧ h ≤ len ∧ (∀ k, m = some k → h ≤ k ∧ k ≤ len) := by
  unfold bounds at hb
  cases xmx with
  | none =>
    cases mx with
    | some _ => exact h3.elim
    | none =>
      simp only [Option.bind_eq_bind, Option.bind_some, Option.getD_none] at hb
      cases xhi with
      | none =>
        cases hi with
        | some _ => exact h2.elim
        | none =>
          simp only [Option.bind_some] at hb
          cases xlo with
          | none =>
            cases lo with
            | some _ => exact h1.elim
            | none => simp at hb; obtain ⟨rfl, rfl, rfl⟩ := hb; exact ⟨rfl, Nat.zero_le _, Nat.le_refl _, by simp⟩
          | some xl =>
            cases lo with
            | none => exact h1.elim
            | some vl =>
              simp only [Option.bind_eq_some_iff, Option.pure_def] at hb
              obtain ⟨l', hl', he⟩ := hb
              simp at he; obtain ⟨rfl, rfl, rfl⟩ := he
              refine ⟨?_, bound_le hl', Nat.le_refl _, by simp⟩
              unfold Instr.sliceBounds
              simp only [sem_bind_run, sem_pure_run, Result.andThen, run_sliceBound (P := P) (w := w) (code := _) h1 hl']
              rfl
      | some xh =>
        cases hi with
        | none => exact h2.elim
        | some vh =>
          simp only [Option.bind_eq_some_iff] at hb
          obtain ⟨h', hh', hb⟩ := hb
          have hle := bound_le hh'
          cases xlo with
          | none =>
            cases lo with
            | some _ => exact h1.elim
            | none =>
              simp at hb; obtain ⟨rfl, rfl, rfl⟩ := hb
              refine ⟨?_, Nat.zero_le _, hle, by simp⟩
              unfold Instr.sliceBounds
              simp only [sem_bind_run, sem_pure_run, Result.andThen, run_sliceBound (P := P) (w := w) h2 (bound_mono hh' hcap)]
              rfl
          | some xl =>
            cases lo with
            | none => exact h1.elim
            | some vl =>
              simp only [Option.bind_eq_some_iff, Option.pure_def] at hb
              obtain ⟨l', hl', he⟩ := hb
              simp at he; obtain ⟨rfl, rfl, rfl⟩ := he
              refine ⟨?_, bound_le hl', hle, by simp⟩
              unfold Instr.sliceBounds
              simp only [sem_bind_run, sem_pure_run, Result.andThen, run_sliceBound (P := P) (w := w) h2 (bound_mono hh' hcap), run_sliceBound (P := P) (w := w) h1 hl']
              rfl
  | some xm =>
    cases mx with
    | none => exact h3.elim
    | some vm =>
      cases xhi with
      | none => simp at hmx
      | some xh =>
        cases hi with
        | none => exact h2.elim
        | some vh =>
          cases xlo with
          | none =>
            cases lo with
            | some _ => exact h1.elim
            | none =>
              simp only [Option.bind_eq_bind, Option.bind_eq_some_iff, Option.map_eq_some_iff, Option.bind_some, Option.pure_def] at hb
              obtain ⟨m', ⟨m0, hm', rfl⟩, h', hh', he⟩ := hb
              simp at he; obtain ⟨rfl, rfl, rfl⟩ := he
              simp only [Option.getD_some] at hh'
              have hle := bound_le hh'
              have hlm := bound_le hm'
              refine ⟨?_, Nat.zero_le _, by omega, fun k hk => by cases hk; exact ⟨hle, hlm⟩⟩
              unfold Instr.sliceBounds
              simp only [sem_bind_run, sem_pure_run, Result.andThen, run_sliceBound (P := P) (w := w) h3 (bound_mono hm' hcap), run_sliceBound (P := P) (w := w) h2 hh']
              rfl
          | some xl =>
            cases lo with
            | none => exact h1.elim
            | some vl =>
              simp only [Option.bind_eq_bind, Option.bind_eq_some_iff, Option.map_eq_some_iff, Option.pure_def] at hb
              obtain ⟨m', ⟨m0, hm', rfl⟩, h', hh', l', hl', he⟩ := hb
              simp at he; obtain ⟨rfl, rfl, rfl⟩ := he
              simp only [Option.getD_some] at hh'
              have hle := bound_le hh'
              have hlm := bound_le hm'
              refine ⟨?_, bound_le hl', by omega, fun k hk => by cases hk; exact ⟨hle, hlm⟩⟩
              unfold Instr.sliceBounds
              simp only [sem_bind_run, sem_pure_run, Result.andThen, run_sliceBound (P := P) (w := w) h3 (bound_mono hm' hcap), run_sliceBound (P := P) (w := w) h2 hh', run_sliceBound (P := P) (w := w) h1 hl']
              rfl
end
end Go.Ev
