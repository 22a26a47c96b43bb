/- What leads to objects that are let go becomes what nobody writes: freezing. -/
import Derived.Test.YtehbeicmmnjpfaaGreatDoorEwI
set_option linter.unusedSimpArgs false
set_option linter.unusedVariables false
namespace Go.Ev
open Go

theorem mapM_some {α β : Type} {g : α → Option β} : ∀ {xs : List α} {ys : List β}, xs.mapM g = some ys → ys.length = xs.length ∧ ∀ (i : Nat) x y, xs[i]? = some x → ys[i]? = some y → g x = some y
  | [], ys, h => by
    simp at h
    subst h
    exact ⟨rfl, fun i x y hx => by simp at hx⟩
  | x :: xs, ys, h => by
    simp only [List.mapM_cons, Option.bind_eq_bind, Option.bind_eq_some_iff] at h
    obtain ⟨y, hy, zs, hzs, he⟩ := h
    cases he
    obtain ⟨h1, h2⟩ := mapM_some hzs
    refine ⟨by simp [h1], fun i a b ha hb => ?_⟩
    cases i with
    | zero => simp at ha hb; subst ha hb; exact hy
    | succ i => exact h2 i a b (by simpa using ha) (by simpa using hb)

theorem mapM_mem {α β : Type} {g : α → Option β} {xs : List α} {ys : List β} (h : xs.mapM g = some ys) {y : β} (hy : y ∈ ys) : ∃ x ∈ xs, g x = some y := by
  obtain ⟨h1, h2⟩ := mapM_some h
  obtain ⟨i, hi⟩ := List.mem_iff_getElem?.1 hy
  have hlt : i < xs.length := by rw [← h1]; exact (List.getElem?_eq_some_iff.1 hi).1
  exact ⟨xs[i], List.getElem_mem hlt, h2 i _ _ (List.getElem?_eq_getElem hlt) hi⟩

section
variable {M M' : Mem} {ι ι' : Plc} {X : Nat → Prop} {κ : Own} {w : World} {σ : Objs} {n : Nat}

/-- What a freezing does to one value. -/
structure Fz (M : Mem) (ι : Plc) (M' : Mem) (ι' : Plc) (x y : V) : Prop where
  rep : ∀ v, Rep M ι v x → Rep M' ι' v y
  len : y.cells.length = x.cells.length
  cells : ∀ us, Reps M ι us x.cells → Reps M' ι' us y.cells
  own : ∀ v, ownB v y = ownB v x
  one : y.one = x.one
  lk : y.isLk = x.isLk
  sl : ∀ ys c, y = .sl ys c → c ≠ .no → ∃ xs, x = .sl xs c ∧ (ys.flatMap V.cells).length = (xs.flatMap V.cells).length ∧ ∀ sz, (∀ z ∈ xs, z.cells.length = sz) → ∀ z ∈ ys, z.cells.length = sz

theorem fz_list {g : V → Option V} (hg : ∀ x y, g x = some y → Fz M ι M' ι' x y) {xs ys : List V} (h : xs.mapM g = some ys) {us : List Value} (hr : Reps M ι us xs) : Reps M' ι' us ys := by
  obtain ⟨h1, h2⟩ := mapM_some h
  refine ⟨by rw [h1]; exact hr.1, fun i u y hu hy => ?_⟩
  obtain ⟨x, hx, hrx⟩ := hr.get' hu
  exact (hg x y (h2 i x y hx hy)).rep u hrx

theorem fz_flat {g : V → Option V} (hg : ∀ x y, g x = some y → Fz M ι M' ι' x y) : ∀ {xs ys : List V}, xs.mapM g = some ys → ∀ {us : List Value}, Reps M ι us (xs.flatMap V.cells) → Reps M' ι' us (ys.flatMap V.cells)
  | [], ys, h, us, hr => by
    simp at h
    subst h
    have : us = [] := List.length_eq_zero_iff.1 (by simpa using hr.1)
    subst this
    exact Reps.nil
  | x :: xs, ys, h, us, hr => by
    simp only [List.mapM_cons, Option.bind_eq_bind, Option.bind_eq_some_iff] at h
    obtain ⟨y, hy, zs, hzs, he⟩ := h
    cases he
    simp only [List.flatMap_cons] at hr ⊢
    have h1 := hr.take x.cells.length
    have h2 := hr.drop x.cells.length
    rw [List.take_left] at h1
    rw [List.drop_left] at h2
    have := ((hg x y hy).cells _ h1).append (fz_flat hg hzs h2)
    rwa [List.take_append_drop] at this

theorem fz_flat_len {g : V → Option V} (hg : ∀ x y, g x = some y → Fz M ι M' ι' x y) : ∀ {xs ys : List V}, xs.mapM g = some ys → (ys.flatMap V.cells).length = (xs.flatMap V.cells).length
  | [], ys, h => by
    simp at h
    subst h
    rfl
  | x :: xs, ys, h => by
    simp only [List.mapM_cons, Option.bind_eq_bind, Option.bind_eq_some_iff] at h
    obtain ⟨y, hy, zs, hzs, he⟩ := h
    cases he
    simp only [List.flatMap_cons, List.length_append, (hg x y hy).len, fz_flat_len hg hzs]

theorem fz_ok (h : Wd M ι X κ w σ) (hm : MemLe M M') (hi : ∀ o b, o < n → ι o = some b → ι' o = some b) (hc : ∀ o b, n ≤ o → ι o = some b → ∀ i u, w.cell? ⟨b, i, none⟩ = some u → M' b i = some u) :
    ∀ (f : Nat) (x y : V), fz n σ f x = some y → Fz M ι M' ι' x y := by
  have same : ∀ x, V.rb n x = true → Fz M ι M' ι' x x := fun x hx => ⟨fun v hr => hr.rb hm hi hx, rfl, fun us hr => ⟨hr.1, fun i u c hu hcc => (hr.2 i u c hu hcc).rb hm hi (rbs_get (rb_cells hx) hcc)⟩, fun _ => rfl, rfl, rfl, fun ys c e _ => ⟨ys, e, rfl, fun _ hz => hz⟩⟩
  intro f
  induction f with
  | zero =>
    intro x y hf
    simp only [fz] at hf
    split at hf
    · rename_i hx; cases hf; exact same x hx
    · cases hf
  | succ f ih =>
    intro x y hf
    simp only [fz] at hf
    split at hf
    · rename_i hx; cases hf; exact same x hx
    · rename_i hrb
      -- values of one cell
      have single : x.cells = [x] → y.cells = [y] → (∀ v, Rep M ι v x → Rep M' ι' v y) → (∀ v, ownB v y = ownB v x) → y.one = x.one → y.isLk = x.isLk → (∀ ys c, y = .sl ys c → c ≠ .no → ∃ xs, x = .sl xs c ∧ (ys.flatMap V.cells).length = (xs.flatMap V.cells).length ∧ ∀ sz, (∀ z ∈ xs, z.cells.length = sz) → ∀ z ∈ ys, z.cells.length = sz) → Fz M ι M' ι' x y := fun hx hy hr ho h1 hk hs =>
        ⟨hr, by rw [hx, hy]; rfl, fun us hus => by
          rw [hx] at hus; rw [hy]
          refine ⟨hus.1, fun i u c hu hcc => ?_⟩
          cases i with
          | zero => simp at hcc; subst hcc; exact hr u (hus.2 0 u x hu rfl)
          | succ i => simp at hcc, ho, h1, hk, hs⟩
      split at hf
      · -- a pointer
        rename_i o off
        simp only [Option.bind_eq_bind, Option.bind_eq_some_iff] at hf
        obtain ⟨cs, hcs, ds, hds, he⟩ := hf
        cases he
        refine single rfl rfl (fun v hv => ?_) (fun v => by unfold ownB; split <;> simp_all) rfl rfl (fun ys c e hn => by first | (cases e; done) | (cases e; exact absurd rfl hn))
        obtain ⟨b, rfl, hib⟩ := hv.inv_ptr
        have hno : n ≤ o := by simpa [V.rb] using hrb
        obtain ⟨O, hO, hor⟩ := h.obj o b hib
        rw [get_cells hcs] at hO; cases hO
        obtain ⟨ws, T, fzz, hb, hr2, _, _, _⟩ := hor
        have hr3 := fz_list ih hds hr2
        have := Rep.eptr (M := M') (ι := ι') ds off b 0 (ws.toList.take cs.length) hr3.1 (fun i u hu => by
          refine hc o b hno hib (0 + i) u ?_
          rw [cell_row hb, Nat.zero_add]
          rw [List.getElem?_take] at hu
          split at hu
          · simpa using hu
          · cases hu) hr3.2
        simpa using this
      · -- a row that is an object
        rename_i o off len sz ag
        simp only [Option.bind_eq_bind, Option.bind_eq_some_iff] at hf
        obtain ⟨cs, hcs, xs, hxs, ys, hys, he⟩ := hf
        cases he
        refine single rfl rfl (fun v hv => ?_) (fun v => by unfold ownB; split <;> simp_all) rfl rfl (fun ys c e hn => by first | (cases e; done) | (cases e; exact absurd rfl hn))
        obtain ⟨b, cap, rfl, hib, hlc⟩ := hv.inv_hs
        have hno : n ≤ o := by simpa [V.rb] using hrb
        obtain ⟨O, hO, hor⟩ := h.obj o b hib
        rw [get_cells hcs] at hO; cases hO
        obtain ⟨ws, T, fzz, hb, hr2, _, _, hone⟩ := hor
        obtain ⟨k1, k2, k3⟩ := chunks_spec hone _ _ _ hxs
        have hr3 : Reps M ι (((ws.toList.take cs.length).drop off).take (len * sz)) (xs.flatMap V.cells) := by
          rw [k2]; exact ((hr2.drop off).take (len * sz)).nogr
        have hr4 := fz_flat ih hys hr3
        have hyl : ys.length = len := by rw [(mapM_some hys).1, k1]
        have := Rep.sl (M := M') (ι := ι') ys .no b off cap sz _ (fun y hy => by
          obtain ⟨x, hx, hxy⟩ := mapM_mem hys hy
          rw [(ih x y hxy).len]; exact k3 x hx) hr4.1 (fun i u hu => by
          refine hc o b hno hib (off + i) u ?_
          rw [cell_row hb]
          rw [List.getElem?_take] at hu
          split at hu
          · rw [List.getElem?_drop, List.getElem?_take] at hu
            split at hu
            · simpa using hu
            · cases hu
          · cases hu) hr4.2 (by omega) (fun e => by cases e)
        rwa [hyl] at this
      · -- an address of what nobody writes
        rename_i cs off
        simp only [Option.bind_eq_bind, Option.bind_eq_some_iff] at hf
        obtain ⟨ds, hds, he⟩ := hf
        cases he
        refine single rfl rfl (fun v hv => ?_) (fun v => by unfold ownB; split <;> simp_all) rfl rfl (fun ys c e hn => by first | (cases e; done) | (cases e; exact absurd rfl hn))
        cases hv with
        | eptr _ _ b base us hl hmm hr =>
          have hr3 := fz_list ih hds (us := us) ⟨hl, hr⟩
          exact .eptr ds off b base us hr3.1 (fun i u hu => hm.le _ _ _ (hmm i u hu)) hr3.2
      · -- a row
        rename_i xs c
        simp only [Option.bind_eq_bind, Option.bind_eq_some_iff] at hf
        obtain ⟨ys, hys, he⟩ := hf
        cases he
        refine single rfl rfl (fun v hv => ?_) (fun v => by cases c <;> cases v <;> first | rfl | (rename_i p _ _; cases p <;> rfl)) rfl (by cases c <;> rfl) (fun zs c' e _ => by
          cases e
          exact ⟨xs, rfl, fz_flat_len ih hys, fun sz hz y hy => by
            obtain ⟨x, hx, hxy⟩ := mapM_mem hys hy
            rw [(ih x y hxy).len]; exact hz x hx⟩)
        cases hv with
        | sl _ _ b off cap sz us hs hl hmm hr hcap hfx =>
          have hr3 := fz_flat ih hys (us := us) ⟨hl, hr⟩
          have hyl := (mapM_some hys).1
          have := Rep.sl (M := M') (ι := ι') ys c b off cap sz us (fun y hy => by
            obtain ⟨x, hx, hxy⟩ := mapM_mem hys hy
            rw [(ih x y hxy).len]; exact hs x hx) hr3.1 (fun i u hu => hm.le _ _ _ (hmm i u hu)) hr3.2 (by omega) (fun e => by rw [hyl]; exact hfx e)
          rwa [hyl] at this
      · -- a struct
        rename_i cs
        simp only [Option.bind_eq_bind, Option.bind_eq_some_iff] at hf
        obtain ⟨ds, hds, he⟩ := hf
        cases he
        refine ⟨fun v hv => ?_, (mapM_some hds).1, fun us hus => fz_list ih hds hus, fun v => by unfold ownB; split <;> simp_all, rfl, rfl, fun ys c e _ => by cases e⟩
        cases hv with
        | agg vs _ hl hr =>
          exact Rep.agg_iff.2 (fz_list ih hds (Rep.agg_iff.1 (.agg vs cs hl hr)))
      · -- several values
        rename_i cs
        simp only [Option.bind_eq_bind, Option.bind_eq_some_iff] at hf
        obtain ⟨ds, hds, he⟩ := hf
        cases he
        refine single rfl rfl (fun v hv => ?_) (fun v => by unfold ownB; split <;> simp_all) rfl rfl (fun ys c e hn => by first | (cases e; done) | (cases e; exact absurd rfl hn))
        cases hv with
        | tup vs _ hl hr =>
          have hr3 := fz_list ih hds (us := vs.toList) ⟨by simpa using hl, fun i u x hu hx => hr i u x (by simpa using hu) hx⟩
          exact .tup vs ds (by simpa using hr3.1) (fun i u x hu hx => hr3.2 i u x (by simpa using hu) hx)
      · -- an interface's value
        rename_i t z
        simp only [Option.bind_eq_bind, Option.bind_eq_some_iff] at hf
        obtain ⟨z', hz, he⟩ := hf
        cases he
        refine single rfl rfl (fun v hv => ?_) (fun v => by unfold ownB; split <;> simp_all) rfl rfl (fun ys c e hn => by first | (cases e; done) | (cases e; exact absurd rfl hn))
        cases hv with
        | ifc _ v' _ hr => exact .ifc t v' z' ((ih z z' hz).rep v' hr)
      · -- a function
        rename_i g p q
        simp only [Option.bind_eq_bind, Option.bind_eq_some_iff] at hf
        obtain ⟨p', hp, q', hq, he⟩ := hf
        cases he
        refine single rfl rfl (fun v hv => ?_) (fun v => by unfold ownB; split <;> simp_all) rfl rfl (fun ys c e hn => by first | (cases e; done) | (cases e; exact absurd rfl hn))
        cases hv with
        | fn _ as bs _ _ ha hb hra hrb =>
          have h1 := fz_list ih hp (us := as.toList) ⟨by simpa using ha, fun i u x hu hx => hra i u x (by simpa using hu) hx⟩
          have h2 := fz_list ih hq (us := bs.toList) ⟨by simpa using hb, fun i u x hu hx => hrb i u x (by simpa using hu) hx⟩
          exact .fn g as bs p' q' (by simpa using h1.1) (by simpa using h2.1) (fun i u x hu hx => h1.2 i u x (by simpa using hu) hx) (fun i u x hu hx => h2.2 i u x (by simpa using hu) hx)
      · cases hf
end
end Go.Ev
