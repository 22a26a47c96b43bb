/- Reading, further: addresses, pieces, numbers, texts. -/
import Derived.Test.YtehbeicmmnjpfaaGreatDoorEvI
import Derived.Laws.Pointers
set_option linter.unusedSimpArgs false
set_option linter.unusedVariables false
namespace Go.Ev
open Go

section
variable {P : Program} {M : Mem} {ι : Plc} {X : Nat → Prop} {κ : Own} {w : World} {σ : Objs}

/-- An address stands for a place in a variable. -/
theorem addr_inv {v : Value} {p : V} (hv : Rep M ι v p) (hp : (∃ o a, p = .ptr o a) ∨ ∃ cs a, p = .eptr cs a) :
    ∃ b a, v = .pointer (some ⟨b, a, none⟩) ∧ ∀ k, Rep M ι (.pointer (some ⟨b, a + k, none⟩)) (match p with | .ptr o x => .ptr o (x + k) | .eptr cs x => .eptr cs (x + k) | y => y) := by
  rcases hp with ⟨o, a, rfl⟩ | ⟨cs, a, rfl⟩
  · obtain ⟨b, rfl, hi⟩ := hv.inv_ptr
    exact ⟨b, a, rfl, fun k => .ptr o (a + k) b hi⟩
  · obtain ⟨b, base, us, rfl, hr, hm⟩ := hv.inv_eptr
    exact ⟨b, base + a, rfl, fun k => by rw [Nat.add_assoc]; exact .eptr cs (a + k) b base us hr.1 hm hr.2⟩

/-- A field's place. -/
def chkField (P : Program) (s : TypeId) (f off : Nat) : Option TypeId :=
  match P.underlying s with
  | some (.struct fs) => match fs[f]? with
    | some fd => if fd.offset = off then some fd.type else none
    | none => none
  | _ => none

theorem chkField_spec {s : TypeId} {f off : Nat} {t : TypeId} (h : chkField P s f off = some t) : ∃ fs fd, P.underlying s = some (.struct fs) ∧ fs[f]? = some fd ∧ fd.offset = off ∧ fd.type = t := by
  unfold chkField at h
  split at h
  · split at h
    · split at h
      · cases h; exact ⟨_, _, ‹_›, ‹_›, ‹_›, rfl⟩
      · cases h
    · cases h
  · cases h

theorem snd_faddr {s : TypeId} {f off sz : Nat} {t : TypeId} {v : Value} {p x : V} (hs : chkField P s f off = some t) (hz : szOf P t = some sz) (hz0 : sz ≠ 0) (hv : Rep M ι v p)
    (hx : evFaddr off p = some x) :
    ∃ u, (Instr.fieldAt s v f).run P w = .ok u w ∧ Rep M ι u x := by
  unfold evFaddr at hx
  obtain ⟨fs, fd, h1, h2, rfl, rfl⟩ := chkField_spec hs
  have hp : (∃ o a, p = .ptr o a) ∨ ∃ cs a, p = .eptr cs a := by
    split at hx
    · exact .inl ⟨_, _, rfl⟩
    · exact .inr ⟨_, _, rfl⟩
    · cases hx
  obtain ⟨b, a, rfl, hk⟩ := addr_inv hv hp
  refine ⟨.pointer (some ⟨b, a + fd.offset, none⟩), ?_, ?_⟩
  · unfold Instr.fieldAt Instr.sureAddr fieldPlace
    simp only [sem_bind_run, run_underlying h1, Result.andThen, h2, sem_pure_run, run_sizeOf hz, hz0, if_false, add_none]
  · have := hk fd.offset
    rcases hp with ⟨o, a', rfl⟩ | ⟨cs, a', rfl⟩
    · cases hx; exact this
    · cases hx; exact this

theorem snd_field {s : TypeId} {f off sz : Nat} {ag : Bool} {t : TypeId} {v : Value} {p x : V} (hs : chkField P s f off = some t) (ht : chkTy P t ag sz = true) (hv : Rep M ι v p)
    (hx : evField ag off sz p = some x) : ∃ u, (Instr.field s v f).run P w = .ok u w ∧ Rep M ι u x := by
  unfold evField at hx
  obtain ⟨fs, fd, h1, h2, rfl, rfl⟩ := chkField_spec hs
  cases p with
  | agg cs =>
    cases hv with
    | agg vs _ hl hr =>
      obtain ⟨u, hrun, hu⟩ := run_part (P := P) (w := w) ht (Rep.agg_iff.1 (.agg vs cs hl hr)) hx
      refine ⟨u, ?_, hu⟩
      unfold Instr.field
      simp only [sem_bind_run, run_underlying h1, Result.andThen, h2, asAgg, sem_pure_run]
      exact hrun
  | _ => cases hx

theorem flat_len {xs : List V} {sz : Nat} (hs : ∀ x ∈ xs, x.cells.length = sz) : (xs.flatMap V.cells).length = xs.length * sz := by
  induction xs with
  | nil => simp
  | cons x xs ih =>
    simp only [List.flatMap_cons, List.length_append, List.length_cons]
    rw [hs x (by simp), ih (fun y hy => hs y (by simp [hy])), Nat.add_mul, Nat.one_mul, Nat.add_comm]

theorem flat_drop {xs : List V} {sz : Nat} (hs : ∀ x ∈ xs, x.cells.length = sz) (n : Nat) : (xs.drop n).flatMap V.cells = (xs.flatMap V.cells).drop (n * sz) := by
  induction n generalizing xs with
  | zero => simp
  | succ n ih =>
    cases xs with
    | nil => simp
    | cons x xs =>
      simp only [List.drop_succ_cons, List.flatMap_cons]
      rw [ih (fun y hy => hs y (by simp [hy])), Nat.succ_mul, Nat.add_comm, ← List.drop_drop, List.drop_left' (hs x (by simp))]

theorem flat_take {xs : List V} {sz : Nat} (hs : ∀ x ∈ xs, x.cells.length = sz) (n : Nat) : (xs.take n).flatMap V.cells = (xs.flatMap V.cells).take (n * sz) := by
  induction n generalizing xs with
  | zero => simp
  | succ n ih =>
    cases xs with
    | nil => simp
    | cons x xs =>
      have hx := hs x (by simp)
      simp only [List.take_succ_cons, List.flatMap_cons]
      rw [ih (fun y hy => hs y (by simp [hy])), Nat.succ_mul, Nat.add_comm, ← hx, List.take_length_add_append]

theorem flat_get {xs : List V} {sz j : Nat} {e : V} (hs : ∀ x ∈ xs, x.cells.length = sz) (he : xs[j]? = some e) : ((xs.flatMap V.cells).drop (j * sz)).take sz = e.cells := by
  rw [← flat_drop hs, List.drop_eq_getElem_cons (List.getElem?_eq_some_iff.1 he).1, List.flatMap_cons]
  have h1 := (List.getElem?_eq_some_iff.1 he).2
  rw [h1, List.take_left' (hs e (List.mem_of_getElem? he))]

/-- What an index of a row tells. -/
theorem snd_iaddr (h : Wd M ι X κ w σ) {t e : TypeId} {sz : Nat} {v vi : Value} {p i x : V} (ht : P.underlying t = some (.slice e)) (hz : szOf P e = some sz) (hv : Rep M ι v p) (hi : Rep M ι vi i)
    (hx : evIaddr sz i p = some x) : ∃ u, (Instr.indexAt t v vi).run P w = .ok u w ∧ Rep M ι u x := by
  unfold evIaddr at hx
  cases p with
  | sl xs c =>
    simp only [Option.bind_eq_bind, Option.bind_eq_some_iff] at hx
    obtain ⟨j, hj, el, hel, hx⟩ := hx
    split at hx
    · rename_i hlen
      cases hx
      obtain ⟨k, q, rfl, h0, h1, rfl⟩ := index_some hj
      cases hi.inv_int
      obtain ⟨b, off, cap, sz', us, rfl, hs, hr, hm, hcap, _⟩ := hv.inv_sl
      have hsz : sz' = sz := by rw [← hs el (List.mem_of_getElem? hel)]; exact hlen
      subst hsz
      refine ⟨.pointer (some ⟨b, off + q.toNat * sz', none⟩), ?_, ?_⟩
      · unfold Instr.indexAt
        simp only [sem_bind_run, run_asInt, run_underlying ht, Result.andThen, sem_pure_run]
        rw [if_pos ⟨h0, h1⟩]
        simp only [sem_bind_run, run_sizeOf hz, Result.andThen, sem_pure_run, add_none]
      · have hrr := ((hr.drop (q.toNat * sz')).take sz')
        rw [flat_get hs hel] at hrr
        refine .eptr el.cells 0 b (off + q.toNat * sz') _ hrr.1 (fun m u hu => ?_) hrr.2
        rw [List.getElem?_take] at hu
        split at hu
        · rw [List.getElem?_drop] at hu
          have := hm _ u hu
          rwa [← Nat.add_assoc] at this
        · cases hu
    · cases hx
  | hs o off len s ag =>
    simp only [Option.bind_eq_bind, Option.bind_eq_some_iff] at hx
    obtain ⟨j, hj, hx⟩ := hx
    split at hx
    · rename_i hs
      cases hx
      obtain ⟨k, q, rfl, h0, h1, rfl⟩ := index_some hj
      cases hi.inv_int
      obtain ⟨b, cap, rfl, hib, hc⟩ := hv.inv_hs
      refine ⟨.pointer (some ⟨b, off + q.toNat * sz, none⟩), ?_, .ptr o _ b hib⟩
      unfold Instr.indexAt
      simp only [sem_bind_run, run_asInt, run_underlying ht, Result.andThen, sem_pure_run]
      rw [if_pos ⟨h0, h1⟩]
      simp only [sem_bind_run, run_sizeOf hz, Result.andThen, sem_pure_run, add_none]
    · cases hx
  | _ => cases hx

theorem snd_iaddrA {t e : TypeId} {n sz : Nat} {v vi : Value} {p i x : V} (ht : P.underlying t = some (.array n e)) (hz : szOf P e = some sz) (hv : Rep M ι v p) (hi : Rep M ι vi i)
    (hx : evIaddrA n sz i p = some x) : ∃ u, (Instr.indexAt t v vi).run P w = .ok u w ∧ Rep M ι u x := by
  unfold evIaddrA at hx
  simp only [Option.bind_eq_bind, Option.bind_eq_some_iff] at hx
  obtain ⟨j, hj, hx⟩ := hx
  obtain ⟨k, q, rfl, h0, h1, rfl⟩ := index_some hj
  cases hi.inv_int
  have hp : (∃ o a, p = .ptr o a) ∨ ∃ cs a, p = .eptr cs a := by
    split at hx
    · exact .inl ⟨_, _, rfl⟩
    · exact .inr ⟨_, _, rfl⟩
    · cases hx
  obtain ⟨b, a, rfl, hk⟩ := addr_inv hv hp
  refine ⟨.pointer (some ⟨b, a + q.toNat * sz, none⟩), ?_, ?_⟩
  · unfold Instr.indexAt Instr.sureAddr
    simp only [sem_bind_run, run_asInt, run_underlying ht, Result.andThen, sem_pure_run]
    rw [if_pos ⟨h0, h1⟩]
    simp only [sem_bind_run, run_sizeOf hz, Result.andThen, sem_pure_run, add_none]
  · have := hk (q.toNat * sz)
    rcases hp with ⟨o, a', rfl⟩ | ⟨cs, a', rfl⟩
    · cases hx; exact this
    · cases hx; exact this

theorem snd_idx {t : TypeId} {v vi : Value} {p i x : V} (ht : P.underlying t = some .string) (hv : Rep M ι v p) (hi : Rep M ι vi i)
    (hx : evIdx i p = some x) : ∃ u, (Instr.index t v vi).run P w = .ok u w ∧ Rep M ι u x := by
  unfold evIdx at hx
  cases p with
  | str s =>
    simp only [Option.bind_eq_bind, Option.bind_eq_some_iff] at hx
    obtain ⟨j, hj, b, hb, hx⟩ := hx
    cases hx
    obtain ⟨k, q, rfl, h0, h1, rfl⟩ := index_some hj
    cases hi.inv_int
    obtain ⟨ba, rfl, hs⟩ := hv.inv_str
    refine ⟨.int .u8 b.toNat, ?_, .int _ _⟩
    unfold Instr.index
    simp only [sem_bind_run, run_asInt, run_underlying ht, Result.andThen]
    have hg : ba[q.toNat]? = some b := by
      subst hs
      have hlt := (List.getElem?_eq_some_iff.1 hb).1
      simp only [Array.length_toList] at hlt
      rw [Array.getElem?_toList] at hb
      show (if h : q.toNat < ba.size then some ba[q.toNat] else none) = some b
      rw [dif_pos (show q.toNat < ba.size from hlt)]
      rw [← hb, Array.getElem?_eq_getElem hlt]
      rfl
    rw [if_pos h0, hg]
    rfl
  | _ => cases hx

theorem snd_idxA {t e : TypeId} {n sz : Nat} {ag : Bool} {v vi : Value} {p i x : V} (ht : P.underlying t = some (.array n e)) (he : chkTy P e ag sz = true) (hv : Rep M ι v p) (hi : Rep M ι vi i)
    (hx : evIdxA n ag sz i p = some x) : ∃ u, (Instr.index t v vi).run P w = .ok u w ∧ Rep M ι u x := by
  unfold evIdxA at hx
  simp only [Option.bind_eq_bind, Option.bind_eq_some_iff] at hx
  obtain ⟨j, hj, hx⟩ := hx
  obtain ⟨k, q, rfl, h0, h1, rfl⟩ := index_some hj
  cases hi.inv_int
  cases p with
  | agg cs =>
    cases hv with
    | agg vs _ hl hr =>
      obtain ⟨u, hrun, hu⟩ := run_part (P := P) (w := w) he (Rep.agg_iff.1 (.agg vs cs hl hr)) hx
      refine ⟨u, ?_, hu⟩
      have hz : szOf P e = some sz := by simp only [chkTy, Bool.and_eq_true, beq_iff_eq] at he; exact he.1.2
      unfold Instr.index
      simp only [sem_bind_run, run_asInt, run_underlying ht, Result.andThen]
      rw [if_pos ⟨h0, h1⟩]
      simp only [sem_bind_run, run_sizeOf hz, Result.andThen]
      exact hrun
  | _ => cases hx

theorem snd_extr {v : Value} {p x : V} {i : Nat} (hv : Rep M ι v p) (hx : evExtr i p = some x) :
    ∃ u, (Instr.extract v i).run P w = .ok u w ∧ Rep M ι u x := by
  unfold evExtr at hx
  cases p with
  | tup cs =>
    cases hv with
    | tup vs _ hl hr =>
      have hr' : Reps M ι vs.toList cs := ⟨by simpa using hl, fun i u c hu hc => hr i u c (by simpa using hu) hc⟩
      obtain ⟨u, hu, hru⟩ := hr'.get hx
      refine ⟨u, ?_, hru⟩
      unfold Instr.extract
      simp only [show vs[i]? = some u by simpa using hu]
      rfl
  | _ => cases hx

theorem snd_cutS {t : TypeId} {v : Value} {p x : V} {lo hi : Option Value} {xlo xhi : Option V} (ht : P.underlying t = some .string) (hv : Rep M ι v p)
    (h1 : RepO M ι lo xlo) (h2 : RepO M ι hi xhi) (hx : evCutS p xlo xhi = some x) : ∃ u, (Instr.sliceAt t v lo hi none).run P w = .ok u w ∧ Rep M ι u x := by
  cases p with
  | str s =>
    unfold evCutS at hx
    simp only [Option.bind_eq_bind, Option.bind_eq_some_iff] at hx
    obtain ⟨⟨l, hh, m⟩, hb, hx⟩ := hx
    cases hx
    obtain ⟨ba, rfl, hs⟩ := hv.inv_str
    have hlen : s.length = ba.size := by rw [← hs]; exact Array.length_toList
    rw [hlen] at hb
    obtain ⟨hrun, hle, hle2, _⟩ := run_sliceBounds (P := P) (w := w) (isSlice := false) (mx := none) (xmx := none) (Nat.le_refl _) h1 h2 trivial (by simp) hb
    refine ⟨.string (ba.extract l hh), ?_, .str _ _ ?_⟩
    · unfold Instr.sliceAt Instr.slice
      simp only [sem_bind_run, run_underlying ht, Result.andThen, Option.isSome_none, Bool.false_eq_true, if_false, sem_pure_run, hrun]
    · subst hs
      rw [ByteArray.data_extract, Array.toList_extract, List.extract_eq_take_drop]
  | _ => cases hx

theorem snd_cut {t e : TypeId} {sz : Nat} {v : Value} {p x : V} {lo hi mx : Option Value} {xlo xhi xmx : Option V}
    (ht : P.underlying t = some (.slice e)) (hz : szOf P e = some sz) (hv : Rep M ι v p)
    (h1 : RepO M ι lo xlo) (h2 : RepO M ι hi xhi) (h3 : RepO M ι mx xmx) (hmx : xmx.isSome → xhi.isSome) (hx : evCut sz p xlo xhi xmx = some x) :
    ∃ u, (Instr.sliceAt t v lo hi mx).run P w = .ok u w ∧ Rep M ι u x := by
  have start : ∀ a len cap l hh k, (Instr.sliceBounds true len cap lo hi mx).run P w = .ok (l, hh, k) w →
      (Instr.sliceAt t (.slice a len cap) lo hi mx).run P w = .ok (.slice (if k = l then a else a.map (·.add (l * sz))) (hh - l) (k - l)) w := by
    intro a len cap l hh k hrun
    unfold Instr.sliceAt Instr.slice
    simp only [sem_bind_run, run_underlying ht, Result.andThen, hrun, run_sizeOf hz, sem_pure_run]
  unfold evCut at hx
  cases p with
  | nils =>
    simp only [Option.bind_eq_bind, Option.bind_eq_some_iff] at hx
    obtain ⟨⟨l, hh, m⟩, hb, hx⟩ := hx
    cases hx
    cases hv
    obtain ⟨hrun, hle, hle2, hm⟩ := run_sliceBounds (P := P) (w := w) (isSlice := true) (Nat.le_refl 0) h1 h2 h3 hmx hb
    refine ⟨_, start none 0 0 l hh _ hrun, ?_⟩
    have h0 : hh = 0 := by omega
    have hl0 : l = 0 := by omega
    have hk0 : m.getD 0 = 0 := by
      cases m with
      | none => rfl
      | some k => have := (hm k rfl).2; simp; omega
    subst h0 hl0
    rw [hk0]
    exact .nils
  | sl xs c =>
    simp only [Option.bind_eq_bind, Option.bind_eq_some_iff] at hx
    obtain ⟨⟨l, hh, m⟩, hb, hx⟩ := hx
    split at hx
    · rename_i hall
      cases hx
      obtain ⟨b, off, cap, sz', us, rfl, hs', hr, hmm, hcap, _⟩ := hv.inv_sl
      have hs : ∀ y ∈ xs, y.cells.length = sz := fun y hy => by simpa using List.all_eq_true.1 hall y hy
      obtain ⟨hrun, hle, hle2, hm⟩ := run_sliceBounds (P := P) (w := w) (isSlice := true) hcap h1 h2 h3 hmx hb
      have hk : hh ≤ m.getD cap ∧ m.getD cap ≤ cap := by
        cases m with
        | none => exact ⟨by simp; omega, by simp⟩
        | some k => exact ⟨(hm k rfl).1, by have := (hm k rfl).2; simp; omega⟩
      refine ⟨_, start _ _ cap l hh _ hrun, ?_⟩
      have hlen : ((xs.drop l).take (hh - l)).length = hh - l := by simp; omega
      have hs2 : ∀ y ∈ (xs.drop l).take (hh - l), y.cells.length = sz := fun y hy => hs y (List.mem_of_mem_drop (List.mem_of_mem_take hy))
      have hflat : ((xs.drop l).take (hh - l)).flatMap V.cells = ((xs.flatMap V.cells).drop (l * sz)).take ((hh - l) * sz) := by
        rw [flat_take (fun y hy => hs y (List.mem_of_mem_drop hy)), flat_drop hs]
      have hrr := ((hr.drop (l * sz)).take ((hh - l) * sz))
      rw [← hflat] at hrr
      by_cases hkl : m.getD cap = l
      · -- an empty piece at the row's end
        have hhl : hh - l = 0 := by omega
        rw [if_pos hkl]
        have hnil : (xs.drop l).take (hh - l) = [] := by rw [hhl]; rfl
        have := Rep.sl (M := M) (ι := ι) [] (if m = some hh then .fx else .no) b off (m.getD cap - l) 0 [] (by simp) rfl (by simp) (by simp) (Nat.zero_le _) (fun _ => by simp; omega)
        rw [hnil, hhl]
        exact this
      · rw [if_neg hkl]
        simp only [Option.map_some, add_none]
        have := Rep.sl (M := M) (ι := ι) ((xs.drop l).take (hh - l)) (if m = some hh then .fx else .no) b (off + l * sz) (m.getD cap - l) sz _ hs2 hrr.1 (fun i u hu => ?_) hrr.2 (by rw [hlen]; omega) (fun hfx => ?_)
        · rw [hlen] at this; exact this
        · rw [List.getElem?_take] at hu
          split at hu
          · rw [List.getElem?_drop] at hu
            have := hmm _ u hu
            rwa [← Nat.add_assoc] at this
          · cases hu
        · rw [hlen]
          split at hfx
          · rename_i hmh; subst hmh; rfl
          · cases hfx
    · cases hx
  | hs o off len s ag =>
    simp only [Option.bind_eq_bind, Option.bind_eq_some_iff] at hx
    obtain ⟨⟨l, hh, m⟩, hb, hx⟩ := hx
    split at hx
    · rename_i hs
      cases hx
      obtain ⟨b, cap, rfl, hib, hc⟩ := hv.inv_hs
      obtain ⟨hrun, hle, hle2, hm⟩ := run_sliceBounds (P := P) (w := w) (isSlice := true) hc h1 h2 h3 hmx hb
      have hk : hh ≤ m.getD cap := by
        cases m with
        | none => simp; omega
        | some k => exact (hm k rfl).1
      refine ⟨_, start _ _ cap l hh _ hrun, ?_⟩
      by_cases hlh : l = hh
      · subst hlh
        rw [if_pos rfl, Nat.sub_self]
        by_cases hkl : m.getD cap = l
        · rw [if_pos hkl]
          exact Rep.sl (M := M) (ι := ι) [] .no b off _ 0 [] (by simp) rfl (by simp) (by simp) (Nat.zero_le _) (fun e => by cases e)
        · rw [if_neg hkl]
          simp only [Option.map_some, add_none]
          exact Rep.sl (M := M) (ι := ι) [] .no b _ _ 0 [] (by simp) rfl (by simp) (by simp) (Nat.zero_le _) (fun e => by cases e)
      · rw [if_neg hlh, if_neg (by omega)]
        simp only [Option.map_some, add_none]
        exact .hs o _ _ sz ag b _ hib (by omega)
    · cases hx
  | _ => cases hx
end
end Go.Ev
