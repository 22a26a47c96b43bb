/- Reading, the rest: conversions, lengths, structs that are built. -/
import Derived.Test.YtehbeicmmnjpfaaGreatDoorEvK
set_option linter.unusedSimpArgs false
set_option linter.unusedVariables false
namespace Go.Ev
open Go

section
variable {P : Program} {M : Mem} {ι : Plc} {X : Nat → Prop} {κ : Own} {w : World} {σ : Objs}

theorem snd_toInt {src dst : TypeId} {k : IntKind} {sd : TypeDesc} {v : Value} {x y : V} (hs : P.underlying src = some sd) (hd : P.underlying dst = some (.int k)) (hv : Rep M ι v x)
    (hx : evConv σ (.toInt k) x = some y) : ∃ u, (convert src dst v).run P w = .ok u w ∧ Rep M ι u y := by
  cases x <;> (try (cases hx; done))
  cases hx
  cases hv.inv_int
  refine ⟨_, ?_, .int _ _⟩
  unfold convert
  simp only [sem_bind_run, run_underlying hs, run_underlying hd, Result.andThen]
  rfl

theorem snd_same {src dst : TypeId} {v : Value} {x y : V} (hs : P.underlying src = some .string) (hd : P.underlying dst = some .string) (hv : Rep M ι v x)
    (hx : evConv σ .same x = some y) : ∃ u, (convert src dst v).run P w = .ok u w ∧ Rep M ι u y := by
  cases x <;> (try (cases hx; done))
  cases hx
  obtain ⟨s, rfl, rfl⟩ := hv.inv_str
  refine ⟨_, ?_, .str s _ rfl⟩
  unfold convert
  simp only [sem_bind_run, run_underlying hs, run_underlying hd, Result.andThen]
  rfl

theorem snd_intStr {src dst : TypeId} {j : IntKind} {v : Value} {x y : V} (hs : P.underlying src = some (.int j)) (hd : P.underlying dst = some .string) (hv : Rep M ι v x)
    (hx : evConv σ .intStr x = some y) : ∃ u, (convert src dst v).run P w = .ok u w ∧ Rep M ι u y := by
  cases x <;> (try (cases hx; done))
  cases hx
  cases hv.inv_int
  refine ⟨_, ?_, .str _ _ rfl⟩
  unfold convert
  simp only [sem_bind_run, run_underlying hs, run_underlying hd, Result.andThen]
  rfl

theorem bytes_foldl : ∀ (ns : List Int) (r : ByteArray), (ns.foldl (fun r n => r.push (UInt8.ofNat n.toNat)) r).data.toList = r.data.toList ++ ns.map fun n => UInt8.ofNat n.toNat
  | [], r => by simp
  | n :: ns, r => by
    simp only [List.foldl_cons, List.map_cons]
    rw [bytes_foldl ns]
    simp [ByteArray.push]

theorem bytesOf_ints : ∀ {xs : List V} {bs : List UInt8}, bytesOf xs = some bs → ∃ ns : List Int, xs = ns.map (V.int .u8) ∧ bs = ns.map fun n => UInt8.ofNat n.toNat
  | [], bs, h => by cases h; exact ⟨[], rfl, rfl⟩
  | x :: xs, bs, h => by
    cases x <;> (try (cases h; done))
    rename_i k n
    cases k <;> (try (cases h; done))
    simp only [bytesOf, Option.bind_eq_bind, Option.bind_eq_some_iff] at h
    obtain ⟨bs', hb, he⟩ := h
    obtain ⟨ns, rfl, rfl⟩ := bytesOf_ints hb
    cases he
    exact ⟨n :: ns, rfl, rfl⟩

theorem reps_ints : ∀ {us : List Value} {ns : List Int}, Reps M ι us (ns.map (V.int .u8)) → us = ns.map (Value.int .u8)
  | [], [], _ => rfl
  | u :: us, n :: ns, h => by
    have h1 := h.head.inv_int
    rw [h1, reps_ints h.tail]
    rfl
  | [], _ :: _, h => by have := h.1; simp at this
  | _ :: _, [], h => by have := h.1; simp at this

theorem flat_ints : ∀ (ns : List Int), (ns.map (V.int .u8)).flatMap V.cells = ns.map (V.int .u8)
  | [] => rfl
  | n :: ns => by simp only [List.map_cons, List.flatMap_cons, flat_ints ns]; rfl

theorem Wd.objOne (h : Wd M ι X κ w σ) {o b : Nat} {cs : List V} (hi : ι o = some b) (ho : Objs.get σ o = some cs) : ∀ c ∈ cs, c.one = true := by
  unfold Objs.get at ho
  obtain ⟨O, hO, hr⟩ := h.obj o b hi
  rw [hO] at ho
  cases O with
  | cells cs' =>
    simp at ho; subst ho
    exact hr.choose_spec.choose_spec.choose_spec.2.2.2.2
  | mp es => cases ho

theorem one_cells {c : V} (h : c.one = true) : c.cells = [c] := by cases c <;> first | rfl | cases h

theorem part_cells {ag : Bool} {sz off : Nat} {cs : List V} {x : V} (hone : ∀ c ∈ cs, c.one = true) (hx : Ev.part ag sz cs off = some x) : x.cells = ((cs.drop off).take sz).map V.nogr ∧ x.cells.length = sz := by
  unfold Ev.part at hx
  cases ag with
  | true =>
    simp only [if_true] at hx
    split at hx
    · cases hx; exact ⟨rfl, by simp [V.cells]; omega⟩
    · cases hx
  | false =>
    simp only [Bool.false_eq_true, if_false] at hx
    split at hx
    · rename_i hsz
      subst hsz
      rw [Option.map_eq_some_iff] at hx
      obtain ⟨c, hc, rfl⟩ := hx
      rw [List.drop_eq_getElem_cons (List.getElem?_eq_some_iff.1 hc).1, (List.getElem?_eq_some_iff.1 hc).2]
      have hc1 := hone c (List.mem_of_getElem? hc)
      rw [one_cells (by rw [V.nogr_one]; exact hc1)]
      exact ⟨rfl, rfl⟩
    · cases hx

theorem chunks_spec {ag : Bool} {sz : Nat} {cs : List V} (hone : ∀ c ∈ cs, c.one = true) : ∀ (n off : Nat) (ys : List V), chunks ag sz cs n off = some ys →
    ys.length = n ∧ ys.flatMap V.cells = ((cs.drop off).take (n * sz)).map V.nogr ∧ ∀ y ∈ ys, y.cells.length = sz
  | 0, off, ys, h => by cases h; simp
  | n + 1, off, ys, h => by
    simp only [chunks, Option.bind_eq_bind, Option.bind_eq_some_iff] at h
    obtain ⟨x, hx, xs, hxs, he⟩ := h
    cases he
    obtain ⟨h1, h2, h3⟩ := chunks_spec hone n _ xs hxs
    obtain ⟨hxc, hxl⟩ := part_cells hone hx
    refine ⟨by simp [h1], ?_, fun y hy => ?_⟩
    · simp only [List.flatMap_cons, h2]
      rw [hxc, ← List.map_append, Nat.succ_mul, Nat.add_comm (n * sz) sz, List.take_add, List.drop_drop]
    · rcases List.mem_cons.1 hy with rfl | hy
      · exact hxl
      · exact h3 y hy

/-- What a row reads as. -/
theorem row_cells (h : Wd M ι X κ w σ) {v : Value} {x : V} {ys : List V} (hv : Rep M ι v x) (hx : rowOf σ x = some ys) :
    (v = .slice none 0 0 ∧ ys = []) ∨ ∃ b off cap us, v = .slice (some ⟨b, off, none⟩) ys.length cap ∧ Reps M ι us (ys.flatMap V.cells) ∧ CellsAt w b off us := by
  cases x <;> (try (cases hx; done))
  case nils => cases hx; cases hv; exact .inl ⟨rfl, rfl⟩
  case sl xs c =>
    cases hx
    obtain ⟨b, off, cap, sz, us, rfl, _, hr, hm, _, _⟩ := hv.inv_sl
    exact .inr ⟨b, off, cap, us, rfl, hr, h.cells hm⟩
  case hs o off len sz ag =>
    simp only [rowOf, Option.bind_eq_bind, Option.bind_eq_some_iff] at hx
    obtain ⟨cs, hcs, hch⟩ := hx
    obtain ⟨b, cap, rfl, hi, hc⟩ := hv.inv_hs
    obtain ⟨us, hr, hcell⟩ := h.objCells hi hcs
    have hone := h.objOne hi hcs
    obtain ⟨h1, h2, _⟩ := chunks_spec hone len off ys hch
    refine .inr ⟨b, off, cap, (us.drop off).take (len * sz), by rw [h1], ?_, ?_⟩
    · rw [h2]; exact ((hr.drop off).take _).nogr
    · have := (hcell.drop off).take (len * sz)
      rwa [Nat.zero_add] at this
theorem run_firstCells {b off n sz cap : Nat} {us : List Value} (hl : us.length = n * sz) (hc : CellsAt w b off us) (len : Nat) :
    (Builtin.firstCells sz n (.slice (some ⟨b, off, none⟩) len cap)).run P w = .ok us.toArray w := by
  unfold Builtin.firstCells
  simp only
  rw [← hl]
  exact run_loadCells b off us hc

/-- Bytes as a text. -/
theorem snd_bytesStr (h : Wd M ι X κ w σ) {src dst e : TypeId} {v : Value} {x y : V} (hs : P.underlying src = some (.slice e)) (he : P.underlying e = some (.int .u8)) (hd : P.underlying dst = some .string) (hv : Rep M ι v x)
    (hx : evConv σ .bytesStr x = some y) : ∃ u, (convert src dst v).run P w = .ok u w ∧ Rep M ι u y := by
  have main : ∀ xs bs, rowOf σ x = some xs → bytesOf xs = some bs → y = .str bs → ∃ u, (convert src dst v).run P w = .ok u w ∧ Rep M ι u y := by
    intro xs bs hrow hb hy
    subst hy
    obtain ⟨ns, rfl, rfl⟩ := bytesOf_ints hb
    rcases row_cells h hv hrow with ⟨rfl, hnil⟩ | ⟨b, off, cap, us, rfl, hr, hc⟩
    · have : ns = [] := by simpa using hnil
      subst this
      refine ⟨.string .empty, ?_, .str _ _ rfl⟩
      rw [run_convert_bytes_string w src dst e none 0 0 hs he hd]
      rfl
    · rw [flat_ints] at hr
      have hus := reps_ints hr
      subst hus
      refine ⟨_, ?_, .str _ _ (bytes_foldl ns ByteArray.empty)⟩
      rw [run_convert_bytes_string w src dst e _ _ _ hs he hd]
      refine run_bytesToString w _ _ _ ns ?_
      have := run_loadCells (P := P) b off _ hc
      rwa [show (ns.map (Value.int .u8)).length = (ns.map (V.int .u8)).length from by simp] at this
  cases x <;> (try (cases hx; done))
  case nils => cases hx; exact main [] [] rfl rfl rfl
  case sl xs c =>
    simp only [evConv, Option.map_eq_some_iff] at hx
    obtain ⟨bs, hb, rfl⟩ := hx
    exact main xs bs rfl hb rfl
  case hs o off len sz ag =>
    simp only [evConv, Option.bind_eq_bind, Option.bind_eq_some_iff, Option.map_eq_some_iff] at hx
    obtain ⟨xs, hxs, bs, hb, rfl⟩ := hx
    exact main xs bs hxs hb rfl

theorem evConv_N {σ : Objs} {x y : V} (h : evConv σ .bytesStrN x = some y) : evConv σ .bytesStr x = some y := by
  cases x <;> first | exact h | cases h

theorem snd_lenS {t ty : TypeId} {v : Value} {x y : V} (ht : P.underlying t = some .string) (hv : Rep M ι v x) (hx : evLenS x = some y) :
    ∃ u, (Builtin.len_ #[t] ty #[v]).run P w = .ok u w ∧ Rep M ι u y := by
  cases x <;> (try (cases hx; done))
  cases hx
  obtain ⟨ba, rfl, rfl⟩ := hv.inv_str
  refine ⟨goInt ba.size, ?_, ?_⟩
  · unfold Builtin.len_
    simp only [List.getElem?_toArray, List.getElem?_cons_zero, sem_bind_run, run_underlying ht, Result.andThen]
    rfl
  · have : ((ba.data.toList.length : Nat) : Int) = ba.size := by rw [Array.length_toList]; rfl
    rw [this]; exact .int _ _

theorem snd_len {t ty e : TypeId} {v : Value} {x y : V} (ht : P.underlying t = some (.slice e)) (hv : Rep M ι v x)
    (hx : evLen x = some y) : ∃ u, (Builtin.len_ #[t] ty #[v]).run P w = .ok u w ∧ Rep M ι u y := by
  have run : ∀ a n c, (Builtin.len_ #[t] ty #[.slice a n c]).run P w = .ok (goInt n) w := by
    intro a n c
    unfold Builtin.len_
    simp only [List.getElem?_toArray, List.getElem?_cons_zero, sem_bind_run, run_underlying ht, Result.andThen]
    rfl
  cases x <;> (try (cases hx; done)) <;> cases hx
  · cases hv; exact ⟨goInt 0, run _ _ _, .int _ _⟩
  · obtain ⟨b, off, cap, sz, us, rfl, _⟩ := hv.inv_sl; exact ⟨_, run _ _ _, .int _ _⟩
  · obtain ⟨b, cap, rfl, _⟩ := hv.inv_hs; exact ⟨_, run _ _ _, .int _ _⟩

theorem snd_mm {mx : Bool} : ∀ {vs : List Value} {xs : List V} {v : Value} {x y : V}, Rep M ι v x → (intOf x).isSome → Reps M ι vs xs → mmInt mx x xs = some y →
    ∃ u, (vs.foldlM (if mx then Builtin.max2 else Builtin.min2) v).run P w = .ok u w ∧ Rep M ι u y
  | [], [], v, x, y, hv, hi, _, hx => by
    simp only [mmInt] at hx
    cases hx
    exact ⟨v, rfl, hv⟩
  | u :: us, z :: zs, v, x, y, hv, hi, hr, hx => by
    cases x <;> (try (cases hx; done)) <;> (try (simp [intOf] at hi; done))
    rename_i k a
    cases z <;> (try (cases hx; done))
    rename_i j b
    simp only [mmInt] at hx
    split at hx
    · rename_i hkj
      subst hkj
      cases hv.inv_int
      have hu := hr.head.inv_int
      subst hu
      obtain ⟨r, hrun, hrep⟩ := snd_mm (mx := mx) (.int k _) rfl hr.tail hx
      refine ⟨r, ?_, hrep⟩
      rw [List.foldlM_cons, sem_bind_run]
      cases mx <;> exact hrun
    · cases hx
  | [], _ :: _, _, _, _, _, _, h, _ => by have := h.1; simp at this
  | _ :: _, [], _, _, _, _, _, h, _ => by have := h.1; simp at this

/-- An array's part as a row. -/
theorem snd_cutA (h : Wd M ι X κ w σ) {t e : TypeId} {n sz : Nat} {ag : Bool} {v : Value} {p x : V} {lo hi : Option Value} {xlo xhi : Option V} (ht : P.underlying t = some (.array n e)) (hz : szOf P e = some sz)
    (hv : Rep M ι v p) (h1 : RepO M ι lo xlo) (h2 : RepO M ι hi xhi) (hx : evCutA n sz ag p xlo xhi = some x) :
    ∃ u, (Instr.sliceAt t v lo hi none).run P w = .ok u w ∧ Rep M ι u x := by
  unfold evCutA at hx
  simp only [Option.bind_eq_bind, Option.bind_eq_some_iff] at hx
  obtain ⟨⟨l, hh, m⟩, hb, hx⟩ := hx
  obtain ⟨hrun, hle, hle2, hm⟩ := run_sliceBounds (P := P) (w := w) (isSlice := false) (mx := none) (xmx := none) (Nat.le_refl n) h1 h2 trivial (by simp) hb
  have hmn : m = none := by
    cases m with
    | none => rfl
    | some k =>
      exfalso
      unfold bounds at hb
      simp only [Option.bind_eq_bind, Option.bind_some, Option.getD_none] at hb
      cases xhi <;> cases xlo <;> simp [Option.bind_eq_some_iff] at hb
  subst hmn
  simp only [Option.getD_none] at hrun
  have start : ∀ a, v = .pointer (some a) → (Instr.sliceAt t v lo hi none).run P w = .ok (.slice (some (if n = l then a else a.add (l * sz))) (hh - l) (n - l)) w := by
    intro a ha
    subst ha
    unfold Instr.sliceAt Instr.sureAddr
    simp only [sem_bind_run, run_underlying ht, Result.andThen, sem_pure_run, hrun, run_sizeOf hz]
  cases p <;> (try (cases hx; done))
  case ptr o off =>
    cases hx
    obtain ⟨b, rfl, hib⟩ := hv.inv_ptr
    refine ⟨_, start _ rfl, ?_⟩
    by_cases hlh : l = hh
    · subst hlh
      rw [if_pos rfl, Nat.sub_self]
      by_cases hkl : n = l
      · rw [if_pos hkl]
        exact Rep.sl (M := M) (ι := ι) [] .no b off _ 0 [] (by simp) rfl (by simp) (by simp) (Nat.zero_le _) (fun e => by cases e)
      · rw [if_neg hkl, add_none]
        exact Rep.sl (M := M) (ι := ι) [] .no b _ _ 0 [] (by simp) rfl (by simp) (by simp) (Nat.zero_le _) (fun e => by cases e)
    · rw [if_neg hlh, if_neg (by omega), add_none]
      exact .hs o _ _ sz ag b _ hib (by omega)
  case eptr cs off =>
    simp only [Option.bind_eq_some_iff] at hx
    obtain ⟨xs, hxs, hx⟩ := hx
    split at hx
    · rename_i hok
      cases hx
      have hone : ∀ c ∈ cs, c.one = true := fun c hc => by simpa using List.all_eq_true.1 hok c hc
      obtain ⟨hl1, hflat, hsz⟩ := chunks_spec hone (hh - l) (off + l * sz) xs hxs
      obtain ⟨b, base, us, rfl, hr, hmm⟩ := hv.inv_eptr
      refine ⟨_, start _ rfl, ?_⟩
      have hrr := (((hr.drop (off + l * sz)).take ((hh - l) * sz)).nogr)
      rw [← hflat] at hrr
      by_cases hkl : n = l
      · have h0 : hh - l = 0 := by omega
        rw [if_pos hkl]
        have hnil : xs = [] := List.length_eq_zero_iff.1 (by omega)
        subst hnil
        rw [h0]
        exact Rep.sl (M := M) (ι := ι) [] .no b (base + off) _ 0 [] (by simp) rfl (by simp) (by simp) (Nat.zero_le _) (fun e => by cases e)
      · rw [if_neg hkl, add_none, ← hl1]
        refine Rep.sl (M := M) (ι := ι) xs .no b _ _ sz _ hsz hrr.1 (fun i u hu => ?_) hrr.2 (by omega) (fun e => by cases e)
        rw [List.getElem?_take] at hu
        split at hu
        · rw [List.getElem?_drop] at hu
          have := hmm _ u hu
          rwa [show base + (off + l * sz + i) = base + off + l * sz + i from by omega] at this
        · cases hu
    · cases hx
end
end Go.Ev
