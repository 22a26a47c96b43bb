/- Steps with what they leave in memory: rows. -/
import Derived.Test.YtehbeicmmnjpfaaGreatDoorEvM
set_option linter.unusedSimpArgs false
set_option linter.unusedVariables false
namespace Go.Ev
open Go

def putL (us : List Value) (d : Option Nat) (v : Value) : List Value :=
  match d with
  | some d => us.set d v
  | none => us

theorem put_toList (a : Act) (d : Option Nat) (v : Value) : (a.put d v).tmps.toList = putL a.tmps.toList d v := by
  cases d <;> simp [Act.put, putL]

section
variable {P : Program} {M : Mem} {ι : Plc} {X : Nat → Prop} {κ : Own} {w : World} {us : List Value} {ρ : List V} {σ : Objs}

theorem St.putNone (h : St M ι X κ w us ρ σ) {v : Value} {x : V} (hr : Rep M ι v x) (ho : ownB v x = none) (d : Option Nat) : St M ι X κ w (putL us d v) (put ρ d x) σ := by
  cases d with
  | none => exact h
  | some d => exact h.setSlot hr ho d

theorem St.putOwn (h : St M ι X κ w us ρ σ) {v : Value} {x : V} (hr : Rep M ι v x) (ho : ∀ b, ownB v x = some b → Free M ι X κ w b ∧ GrOK M w v x) (d : Option Nat) : ∃ κ', St M ι X κ' w (putL us d v) (put ρ d x) σ := by
  cases d with
  | none => exact ⟨κ, h⟩
  | some d =>
    cases hb : ownB v x with
    | none => exact ⟨κ, h.setSlot hr hb d⟩
    | some b => exact h.giveSlot hr hb (ho b hb).1 (ho b hb).2 d

/-- A row that is made. -/
theorem St.putRow (h : St M ι X κ w us ρ σ) (as : Array Value) (T : TypeId) (fz : Nat × Nat) (xs : List V) (c : Cap) (cap sz : Nat)
    (hr : Reps M ι (as.toList.take (xs.flatMap V.cells).length) (xs.flatMap V.cells)) (hs : ∀ y ∈ xs, y.cells.length = sz) (hcap : xs.length ≤ cap) (hfx : c = .fx → cap = xs.length)
    (hgr : ∀ s, c = .gr s → s = sz ∧ cap * sz ≤ as.size ∧ ∀ i, (xs.flatMap V.cells).length ≤ i → i < as.size → frozenAt fz i = false) (d : Option Nat) :
    ∃ M' κ', Ext X M ι w M' ι (pushB w (.cells as T fz)) ∧ St M' ι X κ' (pushB w (.cells as T fz)) (putL us d (.slice (some ⟨w.heap.size, 0, none⟩) xs.length cap)) (put ρ d (.sl xs c)) σ := by
  cases d with
  | some d => obtain ⟨M', κ', h1, h2, _⟩ := h.newRow as T fz xs c cap sz hr hs hcap hfx hgr d; exact ⟨M', κ', h1, h2⟩
  | none =>
    refine ⟨pushM M w.heap.size (as.toList.take (xs.flatMap V.cells).length), κ, Ext.push h.wd _ _, h.push _ _ (fun i u hu => ⟨as, T, fz, rfl, ?_⟩)⟩
    rw [List.getElem?_take] at hu
    split at hu
    · simpa using hu
    · cases hu

theorem okRow_spec {ag : Bool} {sz : Nat} {ys : List V} (h : okRow ag sz ys = true) : (∀ y ∈ ys, y.cells.length = sz) ∧ (∀ y ∈ ys, ∀ c ∈ y.cells, c.one = true) ∧ ∀ y ∈ ys, agOk ag y = true := by
  unfold okRow at h
  refine ⟨fun y hy => ?_, fun y hy => ?_, fun y hy => ?_⟩ <;> have := List.all_eq_true.1 h y hy <;> simp only [Bool.and_eq_true, decide_eq_true_eq] at this
  · exact this.1.1
  · exact ok_one this.1.2
  · exact this.2

theorem okRow_flat {ag : Bool} {sz : Nat} {ys : List V} (h : okRow ag sz ys = true) : ∀ c ∈ ys.flatMap V.cells, c.one = true := fun c hc => by
  obtain ⟨y, hy, hcy⟩ := List.mem_flatMap.1 hc
  exact (okRow_spec h).2.1 y hy c hcy

/-- What a type's zero is. -/
def chkZero (P : Program) (e : TypeId) (z : V) : Bool :=
  match zeroOf P e with
  | some zv => chkCells zv.cells.toList z.cells
  | none => false

def chkElem (P : Program) (t : TypeId) (ag : Bool) (sz : Nat) : Option TypeId :=
  match P.underlying t with
  | some (.slice e) => if chkTy P e ag sz then some e else none
  | _ => none

theorem chkElem_spec {t e : TypeId} {ag : Bool} {sz : Nat} (h : chkElem P t ag sz = some e) : P.underlying t = some (.slice e) ∧ chkTy P e ag sz = true := by
  unfold chkElem at h
  split at h
  · split at h
    · cases h; exact ⟨‹_›, ‹_›⟩
    · cases h
  · cases h

theorem szOf_info {e : TypeId} {sz : Nat} (h : szOf P e = some sz) : ∃ i, P.info? e = some i ∧ i.size = sz := by
  unfold szOf at h
  rw [Option.map_eq_some_iff] at h
  exact h

theorem chkTy_sz {e : TypeId} {ag : Bool} {sz : Nat} (h : chkTy P e ag sz = true) : szOf P e = some sz := by
  simp only [chkTy, Bool.and_eq_true, beq_iff_eq] at h; exact h.1.2

/-- The rows of zeros that a literal or a make begins with. -/
theorem zero_row {e : TypeId} {z : V} {sz n : Nat} (hz : chkZero P e z = true) (hsz : szOf P e = some sz) (hzl : z.cells.length = sz) (hpos : sz ≠ 0) :
    ∃ i zv, P.info? e = some i ∧ i.size = sz ∧ i.zero = some zv ∧ zv.cells.size = sz ∧ Reps M ι ((Array.range (n * sz)).map (zv.cells[· % zv.cells.size]!)).toList ((List.replicate n z).flatMap V.cells) := by
  unfold chkZero at hz
  split at hz
  · rename_i zv hzv
    unfold zeroOf at hzv
    rw [Option.bind_eq_some_iff] at hzv
    obtain ⟨i, hi, hiz⟩ := hzv
    obtain ⟨i', hi', his⟩ := szOf_info hsz
    rw [hi] at hi'; cases hi'
    have hr := (chkCells_reps (M := M) (ι := ι) hz).1
    have hl : zv.cells.size = sz := by
      have := hr.1
      rw [Array.length_toList] at this
      rw [this]; exact hzl
    refine ⟨i, zv, hi, his, hiz, hl, ?_⟩
    have := zeros_flat (n := n) hr (by rw [Array.length_toList, hl]; exact hpos)
    simpa [hl] using this
  · cases hz

/-- A slice literal. -/
theorem snd_buildSl (h : St M ι X κ w us ρ σ) {r : Operand → Value} {A : Arg → V} (hA : Opd M ι r A) {t e : TypeId} {ag : Bool} {sz len : Nat} {z : V} {ps : Array (Nat × Operand)} {qs : List (Nat × Arg)} {xs : List V}
    (ht : chkElem P t ag sz = some e) (hz : len = 0 ∨ chkZero P e z = true ∧ z.cells.length = sz) (hpos : sz ≠ 0) (hsmall : len * sz ≤ 16777216) (hps : chkPartsSl ps.toList qs = true)
    (hx : laySl sz (List.replicate len z) (qs.map fun (i, y) => (i, A y)) = some xs) :
    ∃ as, (Instr.buildSlice t len (ps.map fun (i, y) => (i, r y))).run P w = .ok (.slice (some ⟨w.heap.size, 0, none⟩) len len) (pushB w (.cells as e (0, 0))) ∧
      Reps M ι as.toList (xs.flatMap V.cells) ∧ xs.length = len ∧ ∀ y ∈ xs, y.cells.length = sz := by
  obtain ⟨hu, hty⟩ := chkElem_spec ht
  have hsz := chkTy_sz hty
  have hpl : (ps.map fun (i, y) => (i, r y)).toList = ps.toList.map fun p => (p.1, r p.2) := by simp
  by_cases hlen : len = 0
  · subst hlen
    obtain ⟨i, hi, his⟩ := szOf_info hsz
    have hnil : ps.toList = [] ∧ qs = [] := by
      cases qs with
      | nil =>
        cases hpp : ps.toList with
        | nil => exact ⟨rfl, rfl⟩
        | cons a b => rw [hpp] at hps; simp [chkPartsSl] at hps
      | cons q qs =>
        simp only [List.replicate_zero, List.map_cons, laySl] at hx
        rw [if_neg (by simp)] at hx
        cases hx
    obtain ⟨hn1, rfl⟩ := hnil
    simp only [List.replicate_zero, List.map_nil, laySl] at hx
    cases hx
    refine ⟨#[], ?_, by exact Reps.nil, rfl, by simp⟩
    unfold Instr.buildSlice
    simp only [sem_bind_run, run_underlying hu, run_sizeOf hsz, Result.andThen, Nat.zero_mul]
    rw [if_neg (by decide)]
    simp [sem_bind_run, sem_pure_run, Result.andThen, hpl, hn1, Instr.fill, newRow, newObj, Sem.run, pushB, Array.range_zero']
  · obtain ⟨hz1, hz2⟩ := hz.resolve_left hlen
    obtain ⟨i, zv, hi, his, hiz, hzs, hreps⟩ := zero_row (M := M) (ι := ι) (n := len) hz1 hsz hz2 hpos
    obtain ⟨us', hf, hr, hl, hs⟩ := fill_laySl hA hps (fun x hx => by rw [List.eq_of_mem_replicate hx]; exact hz2) hreps hx
    refine ⟨us'.toArray, ?_, by simpa using hr, by simpa using hl, hs⟩
    have := run_buildSlice (P := P) w t e len (ps.map fun (i, y) => (i, r y)) us'.toArray i zv hu hi hiz (by rw [his]; omega) (by rw [his]; exact Nat.mul_ne_zero hlen hpos) (by
      rw [his, hpl]
      rw [Array.toArray_toList] at hf
      exact hf)
    exact this
end
end Go.Ev
