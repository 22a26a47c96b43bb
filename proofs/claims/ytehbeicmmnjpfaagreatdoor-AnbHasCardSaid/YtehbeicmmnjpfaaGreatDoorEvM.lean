/- Structs and rows that are made. -/
import Derived.Test.YtehbeicmmnjpfaaGreatDoorEvL
import Derived.Great.BuildSlice
import Derived.Laws.MakeOwn
import Derived.Deep.AppendSrc
set_option linter.unusedSimpArgs false
set_option linter.unusedVariables false
namespace Go.Ev
open Go

theorem foldl_layA (off : Nat) : ∀ (vs : List Value) (k : Nat) (cells : Array Value), (vs.zipIdx k).foldl (fun cs (x : Value × Nat) => cs.setIfInBounds (off + x.2) x.1) cells = layA cells (off + k) vs
  | [], _, _ => rfl
  | v :: vs, k, cells => by
    simp only [List.zipIdx_cons, List.foldl_cons, layA]
    rw [foldl_layA off vs (k + 1)]
    rfl

theorem fill_cons (place : Nat → Option (Nat × Nat)) (cells : Array Value) (i : Nat) (v : Value) (rest : List (Nat × Value)) {off sz : Nat} (hp : place i = some (off, sz)) (hs : v.cells.size = sz) (hle : off + sz ≤ cells.size) :
    Instr.fill place cells ((i, v) :: rest) = Instr.fill place (layA cells off v.cells.toList) rest := by
  have h1 : v.cells.zipIdx.foldl (fun cs (x : Value × Nat) => cs.setIfInBounds (off + x.2) x.1) cells = layA cells off v.cells.toList := by
    rw [← Array.foldl_toList, Array.toList_zipIdx]
    exact foldl_layA off v.cells.toList 0 cells
  simp only [Instr.fill, hp]
  rw [if_neg (by simp [hs]; omega)]
  exact congrArg (fun c => Instr.fill place c rest) h1

def chkParts (place : Nat → Option (Nat × Nat)) : List (Nat × Operand) → List (Nat × Nat × Arg) → Bool
  | [], [] => true
  | (i, x) :: xs, (off, sz, y) :: ys => decide (place i = some (off, sz)) && chkArg x y && chkParts place xs ys
  | _, _ => false

def chkPartsSl : List (Nat × Operand) → List (Nat × Arg) → Bool
  | [], [] => true
  | (i, x) :: xs, (j, y) :: ys => i == j && chkArg x y && chkPartsSl xs ys
  | _, _ => false

def placesOf (P : Program) (t : TypeId) : Option (Nat → Option (Nat × Nat)) :=
  match P.underlying t with
  | some (.array _ e) => (P.info? e).map fun ie => fun i => some (i * ie.size, ie.size)
  | some (.struct fields) => (fields.toList.mapM (fun f => (P.info? f.type).map fun i => (f.offset, i.size))).map fun places => fun i => places.toArray[i]?
  | _ => none

def zeroOf (P : Program) (t : TypeId) : Option Value := (P.info? t).bind (·.zero)

def chkBuild (P : Program) (t : TypeId) (z : List V) (ps : List (Nat × Operand)) (qs : List (Nat × Nat × Arg)) : Bool :=
  match zeroOf P t, placesOf P t with
  | some zv, some place => chkCells zv.cells.toList z && chkParts place ps qs
  | _, _ => false

section
variable {P : Program} {M : Mem} {ι : Plc} {X : Nat → Prop} {κ : Own} {w : World} {σ : Objs}

theorem ok_one {cs : List V} (h : okCells cs = true) : ∀ c ∈ cs, c.one = true := fun c hc => by simpa using List.all_eq_true.1 h c hc

/-- Cells laid into cells. -/
theorem reps_lay {us vs : List Value} {cs ds : List V} {off : Nat} (hr : Reps M ι us cs) (hs : Reps M ι vs ds) (hle : off + ds.length ≤ cs.length) :
    Reps M ι (layA us.toArray off vs).toList (putAt cs off ds) := by
  have hl := hr.1
  have hl' := hs.1
  refine ⟨by rw [Array.length_toList, layA_size, putAt_length]; simpa using hl, fun i u c hu hc => ?_⟩
  rw [Array.getElem?_toList, layA_get vs us.toArray off i (by simp; omega)] at hu
  rw [putAt_get cs off ds i hle, ← hl'] at hc
  by_cases hin : off ≤ i ∧ i < off + vs.length
  · rw [if_pos hin] at hu hc; exact hs.2 _ u c hu hc
  · rw [if_neg hin] at hu hc; exact hr.2 i u c (by simpa using hu) hc

theorem fill_lay {r : Operand → Value} {A : Arg → V} (hA : Opd M ι r A) {place : Nat → Option (Nat × Nat)} : ∀ {ps : List (Nat × Operand)} {qs : List (Nat × Nat × Arg)} {us : List Value} {z z' : List V},
    chkParts place ps qs = true → Reps M ι us z → lay z (qs.map fun q => (q.1, q.2.1, A q.2.2)) = some z' →
    ∃ us', Instr.fill place us.toArray (ps.map fun p => (p.1, r p.2)) = some us'.toArray ∧ Reps M ι us' z'
  | [], [], us, z, z', _, hr, hz => by
    simp only [List.map_nil, lay] at hz
    cases hz
    exact ⟨us, rfl, hr⟩
  | (i, x) :: ps, (off, sz, y) :: qs, us, z, z', hc, hr, hz => by
    simp only [chkParts, Bool.and_eq_true, decide_eq_true_eq] at hc
    obtain ⟨⟨h1, h2⟩, h3⟩ := hc
    simp only [List.map_cons, lay] at hz
    split at hz
    · rename_i hcond
      obtain ⟨hlen, hle, hok⟩ := hcond
      have hrx := (hA.ok x y h2).cells (ok_one hok)
      have hsz : (r x).cells.size = sz := by have := hrx.1; simp at this; rw [this]; exact hlen
      have hl := hr.1
      have hreps := reps_lay hr hrx.nogr (off := off) (by simp; omega)
      obtain ⟨us', h4, h5⟩ := fill_lay hA h3 hreps hz
      refine ⟨us', ?_, h5⟩
      simp only [List.map_cons]
      rw [fill_cons place us.toArray i (r x) _ h1 hsz (by simp; omega)]
      simpa using h4
    · cases hz
  | [], _ :: _, _, _, _, hc, _, _ => by simp [chkParts] at hc
  | _ :: _, [], _, _, _, hc, _, _ => by simp [chkParts] at hc

theorem snd_build {r : Operand → Value} {A : Arg → V} (hA : Opd M ι r A) {t : TypeId} {z : List V} {ps : Array (Nat × Operand)} {qs : List (Nat × Nat × Arg)} {x : V} (hc : chkBuild P t z ps.toList qs = true)
    (hx : (lay z (qs.map fun (o, s, y) => (o, s, A y))).map V.agg = some x) : ∃ u, (Instr.build t (ps.map fun (i, y) => (i, r y))).run P w = .ok u w ∧ Rep M ι u x := by
  rw [Option.map_eq_some_iff] at hx
  obtain ⟨z', hz, rfl⟩ := hx
  unfold chkBuild at hc
  split at hc
  · rename_i zv place hzv hpl
    simp only [Bool.and_eq_true] at hc
    obtain ⟨us', hf, hr⟩ := fill_lay hA hc.2 (chkCells_reps (M := M) (ι := ι) hc.1).1 hz
    refine ⟨.agg us'.toArray, run_build w t _ _ ?_, Rep.agg_iff.2 hr⟩
    unfold zeroOf at hzv
    rw [Option.bind_eq_some_iff] at hzv
    obtain ⟨it, hit, hzv⟩ := hzv
    have hps : (ps.map fun (i, y) => (i, r y)).toList = ps.toList.map fun p => (p.1, r p.2) := by simp
    unfold placesOf at hpl
    unfold Program.built
    rw [hps, hit]
    split at hpl
    · rename_i n e hu
      rw [hu]
      rw [Option.map_eq_some_iff] at hpl
      obtain ⟨ie, hie, rfl⟩ := hpl
      simp only [hzv, hie]
      exact hf
    · rename_i fields hu
      rw [hu]
      rw [Option.map_eq_some_iff] at hpl
      obtain ⟨places, hpp, rfl⟩ := hpl
      simp only [hzv, hpp]
      exact hf
    · cases hpl
  · cases hc

/-! Rows by their elements. -/
theorem set_flat {xs : List V} {sz i : Nat} {y : V} (hs : ∀ x ∈ xs, x.cells.length = sz) (hy : y.cells.length = sz) (hi : i < xs.length) : (xs.set i y).flatMap V.cells = putAt (xs.flatMap V.cells) (i * sz) y.cells := by
  have hs2 : ∀ x ∈ xs.set i y, x.cells.length = sz := fun x hx => by
    rcases List.mem_or_eq_of_mem_set hx with h | rfl
    · exact hs x h
    · exact hy
  have hl := flat_len hs
  have hle : i * sz + sz ≤ xs.length * sz := by rw [← Nat.succ_mul]; exact Nat.mul_le_mul_right _ hi
  apply List.ext_getElem?
  intro j
  rw [putAt_get _ _ _ j (by rw [hy, hl]; exact hle), hy]
  by_cases hsz : sz = 0
  · subst hsz
    have h1 : (xs.set i y).flatMap V.cells = [] := List.length_eq_zero_iff.1 (by rw [flat_len hs2]; simp)
    have h2 : xs.flatMap V.cells = [] := List.length_eq_zero_iff.1 (by rw [hl]; simp)
    rw [h1, h2, if_neg (by omega)]
  -- element j / sz, cell j % sz
  have hget : ∀ (zs : List V), (∀ x ∈ zs, x.cells.length = sz) → (zs.flatMap V.cells)[j]? = (zs[j / sz]?).bind fun x => x.cells[j % sz]? := by
    intro zs hz
    by_cases hj : j / sz < zs.length
    · have he := List.getElem?_eq_getElem hj
      have := flat_get hz he
      have hm := Nat.mod_lt j (Nat.pos_of_ne_zero hsz)
      rw [he, Option.bind_some, ← this, List.getElem?_take, if_pos hm, List.getElem?_drop]
      congr 1
      rw [Nat.mul_comm]; exact (Nat.div_add_mod j sz).symm
    · rw [List.getElem?_eq_none (Nat.not_lt.1 hj), Option.bind_none, List.getElem?_eq_none]
      rw [flat_len hz]
      have h1 := Nat.not_lt.1 hj
      have h2 := Nat.div_mul_le_self j sz
      exact Nat.le_trans (Nat.mul_le_mul_right _ h1) h2
  rw [hget _ hs2, hget _ hs]
  by_cases hin : i * sz ≤ j ∧ j < i * sz + sz
  · rw [if_pos hin]
    have hd : j / sz = i := by
      apply Nat.div_eq_of_lt_le
      · exact hin.1
      · rw [Nat.succ_mul]; exact hin.2
    have hm : j % sz = j - i * sz := by
      have := Nat.div_add_mod j sz
      rw [hd, Nat.mul_comm] at this
      omega
    rw [hd, List.getElem?_set_self hi, Option.bind_some, hm]
  · rw [if_neg hin]
    have hd : j / sz ≠ i := by
      intro e
      apply hin
      subst e
      have := Nat.div_add_mod j sz
      have hm := Nat.mod_lt j (Nat.pos_of_ne_zero hsz)
      rw [Nat.mul_comm] at this
      omega
    rw [List.getElem?_set_ne (Ne.symm hd)]

theorem fill_laySl {r : Operand → Value} {A : Arg → V} (hA : Opd M ι r A) {sz : Nat} : ∀ {ps : List (Nat × Operand)} {qs : List (Nat × Arg)} {us : List Value} {z z' : List V},
    chkPartsSl ps qs = true → (∀ x ∈ z, x.cells.length = sz) → Reps M ι us (z.flatMap V.cells) → laySl sz z (qs.map fun q => (q.1, A q.2)) = some z' →
    ∃ us', Instr.fill (fun i => some (i * sz, sz)) us.toArray (ps.map fun p => (p.1, r p.2)) = some us'.toArray ∧ Reps M ι us' (z'.flatMap V.cells) ∧ z'.length = z.length ∧ ∀ x ∈ z', x.cells.length = sz
  | [], [], us, z, z', _, hs, hr, hz => by
    simp only [List.map_nil, laySl] at hz
    cases hz
    exact ⟨us, rfl, hr, rfl, hs⟩
  | (i, x) :: ps, (j, y) :: qs, us, z, z', hc, hs, hr, hz => by
    simp only [chkPartsSl, Bool.and_eq_true, beq_iff_eq] at hc
    obtain ⟨⟨rfl, h2⟩, h3⟩ := hc
    simp only [List.map_cons, laySl] at hz
    split at hz
    · rename_i hcond
      obtain ⟨hlen, hlt, hok⟩ := hcond
      have hrx := (hA.ok x y h2).cells (ok_one hok)
      have hsz : (r x).cells.size = sz := by have := hrx.1; simp at this; rw [this]; exact hlen
      have hl := hr.1
      rw [flat_len hs] at hl
      have hle : i * sz + sz ≤ z.length * sz := by rw [← Nat.succ_mul]; exact Nat.mul_le_mul_right _ hlt
      have hny : (A y).nogr.cells = (A y).cells ∨ ∃ q, (A y).cells = [q] ∧ (A y).nogr.cells = [q.nogr] := by
        cases A y <;> first | exact .inl rfl | exact .inr ⟨_, rfl, rfl⟩
      have hrx' : Reps M ι (r x).cells.toList (A y).nogr.cells := by
        rcases hny with h | ⟨q, h1, h2⟩
        · rw [h]; exact hrx
        · rw [h2]; rw [h1] at hrx; exact hrx.nogr
      have hnl : (A y).nogr.cells.length = sz := by rw [V.nogr_cells_length]; exact hlen
      have hreps := reps_lay hr hrx' (off := i * sz) (by rw [hnl, flat_len hs]; exact hle)
      rw [← set_flat hs hnl hlt] at hreps
      obtain ⟨us', h4, h5, h6, h7⟩ := fill_laySl hA h3 (fun q hq => by
        rcases List.mem_or_eq_of_mem_set hq with h | rfl
        · exact hs q h
        · exact hnl) hreps hz
      refine ⟨us', ?_, h5, by simpa using h6, h7⟩
      simp only [List.map_cons]
      rw [fill_cons _ us.toArray i (r x) _ rfl hsz (by simp; omega)]
      simpa using h4
    · cases hz
  | [], _ :: _, _, _, _, hc, _, _, _ => by simp [chkPartsSl] at hc
  | _ :: _, [], _, _, _, hc, _, _, _ => by simp [chkPartsSl] at hc

/-- So many zeros. -/
theorem zeros_flat {zv : List Value} {z : V} {n : Nat} (hr : Reps M ι zv z.cells) (h0 : zv.length ≠ 0) :
    Reps M ι ((Array.range (n * zv.length)).map (zv.toArray[· % zv.length]!)).toList ((List.replicate n z).flatMap V.cells) := by
  have hs : ∀ x ∈ List.replicate n z, x.cells.length = zv.length := fun x hx => by rw [List.eq_of_mem_replicate hx]; exact hr.1.symm
  refine ⟨by simp [flat_len hs], fun i u c hu hc => ?_⟩
  have hi : i < n * zv.length := by
    have := (List.getElem?_eq_some_iff.1 hc).1
    rw [flat_len hs] at this
    simpa using this
  have hm := Nat.mod_lt i (Nat.pos_of_ne_zero h0)
  have hu' : u = zv[i % zv.length] := by
    simp [hi] at hu
    rw [← hu]
    simp [hm]
  have hd : i / zv.length < n := Nat.div_lt_of_lt_mul (by rw [Nat.mul_comm]; exact hi)
  have he : (List.replicate n z)[i / zv.length]? = some z := by simp [hd]
  have hg := flat_get hs he
  have hc' : z.cells[i % zv.length]? = some c := by
    rw [← hg, List.getElem?_take, if_pos hm, List.getElem?_drop]
    rw [← hc]
    congr 1
    rw [Nat.mul_comm]; exact Nat.div_add_mod i zv.length
  exact hr.2 _ u c (by rw [hu']; exact List.getElem?_eq_getElem hm) hc'
end
end Go.Ev
