/- What leads to objects that are let go becomes what nobody writes: the state. -/
import Derived.Test.YtehbeicmmnjpfaaGreatDoorEwJ
set_option linter.unusedSimpArgs false
set_option linter.unusedVariables false
namespace Go.Ev
open Go

section
variable {M M' : Mem} {ι ι' ι0 : Plc} {X : Nat → Prop} {κ : Own} {w : World} {us : List Value} {ρ : List V} {σ : Objs} {n : Nat}

/-- A slot, or a cell, behind a freezing. -/
def Fz1 (M : Mem) (ι : Plc) (M' : Mem) (ι' : Plc) (x y : V) : Prop := y = .any ∨ Fz M ι M' ι' x y

theorem cutSlots_get (hg : ∀ x y, fz n σ fzDepth x = some y → Fz M ι M' ι' x y) {live : List Nat} : ∀ (i : Nat) (ρ ρ' : List V), cutSlots n σ live i ρ = some ρ' → ρ'.length = ρ.length ∧ ∀ (j : Nat) x y, ρ[j]? = some x → ρ'[j]? = some y → Fz1 M ι M' ι' x y
  | i, [], ρ', h => by
    simp only [cutSlots, Option.some.injEq] at h
    subst h
    exact ⟨rfl, fun j x y hx => by simp at hx⟩
  | i, x :: xs, ρ', h => by
    have h' : ∃ y ys, (y = .any ∨ fz n σ fzDepth x = some y) ∧ cutSlots n σ live (i + 1) xs = some ys ∧ ρ' = y :: ys := by
      simp only [cutSlots] at h
      split at h
      · simp only [Option.bind_eq_bind, Option.bind_eq_some_iff] at h
        obtain ⟨y, hy, ys, hys, he⟩ := h
        cases he
        exact ⟨y, ys, .inr hy, hys, rfl⟩
      · simp only [Option.bind_eq_bind, Option.bind_eq_some_iff] at h
        obtain ⟨y, hy, ys, hys, he⟩ := h
        cases he
        cases hy
        exact ⟨_, ys, .inl rfl, hys, rfl⟩
    obtain ⟨y, ys, hy, hys, rfl⟩ := h'
    obtain ⟨h1, h2⟩ := cutSlots_get hg (i + 1) xs ys hys
    refine ⟨by simp [h1], fun j a b ha hb => ?_⟩
    cases j with
    | zero =>
      simp at ha hb
      subst ha hb
      exact hy.imp id (hg _ _)
    | succ j => exact h2 j a b (by simpa using ha) (by simpa using hb)

theorem fzO_cells (hsame : ∀ x, V.rb n x = true → Fz M ι M' ι' x x) (hg : ∀ x y, fz n σ fzDepth x = some y → Fz M ι M' ι' x y) {cs : List V} {O' : O} (h : fzO n σ (.cells cs) = some O') :
    ∃ ds, O' = .cells ds ∧ ds.length = cs.length ∧ ∀ (i : Nat) c d, cs[i]? = some c → ds[i]? = some d → Fz M ι M' ι' c d := by
  simp only [fzO] at h
  split at h
  · rename_i hrb
    cases h
    exact ⟨cs, rfl, rfl, fun i c d hc hd => by rw [hc] at hd; cases hd; exact hsame c (rbs_get hrb hc)⟩
  · rw [Option.map_eq_some_iff] at h
    obtain ⟨ds, hds, rfl⟩ := h
    obtain ⟨h1, h2⟩ := mapM_some hds
    exact ⟨ds, rfl, h1, fun i c d hc hd => hg c d (h2 i c d hc hd)⟩

open Classical in
/-- The memory where objects from n on are let go. -/
noncomputable def cutM (M : Mem) (ι : Plc) (w : World) (n : Nat) : Mem := fun b i => if ∃ o, n ≤ o ∧ ι o = some b then w.cell? ⟨b, i, none⟩ else M b i

theorem St.cut (h : St M ι X κ w us ρ σ) (h0 : ∀ o, o < n → ι0 o = ι o) (h1 : ∀ o, n ≤ o → ι0 o = none) {live : List Nat} {ρ' : List V} {σ' : Objs} (hs : cutSlots n σ live 0 ρ = some ρ') (ho : cutObjs n σ = some σ') :
    MemLe M (cutM M ι w n) ∧ (∀ b i, X b → cutM M ι w n b i = M b i) ∧ St (cutM M ι w n) ι0 X κ w us ρ' σ' ∧ (∀ o i, lkAt σ' o i → lkAt σ o i) ∧ σ'.length = min n σ.length := by
  have hm : MemLe M (cutM M ι w n) := ⟨fun b i u hu => by
    unfold cutM
    split
    · exact h.wd.mem b i u hu
    · exact hu⟩
  have hi : ∀ o b, o < n → ι o = some b → ι0 o = some b := fun o b hlt e => by rw [h0 o hlt]; exact e
  have hback : ∀ o b, ι0 o = some b → o < n ∧ ι o = some b := fun o b e => by
    rcases Nat.lt_or_ge o n with hlt | hge
    · exact ⟨hlt, by rw [← h0 o hlt]; exact e⟩
    · rw [h1 o hge] at e; cases e
  have hg : ∀ x y, fz n σ fzDepth x = some y → Fz M ι (cutM M ι w n) ι0 x y := fz_ok h.wd hm hi (fun o b hno hb i u hu => by
    unfold cutM
    rw [if_pos ⟨o, hno, hb⟩]; exact hu) fzDepth
  have hsame : ∀ x, V.rb n x = true → Fz M ι (cutM M ι w n) ι0 x x := fun x hx => fz_ok h.wd hm hi (fun o b hno hb i u hu => by
    unfold cutM
    rw [if_pos ⟨o, hno, hb⟩]; exact hu) 0 x x (by simp [fz, hx])
  have hX : ∀ b i, (∀ o, n ≤ o → ι o ≠ some b) → cutM M ι w n b i = M b i := fun b i hn => by
    unfold cutM
    rw [if_neg (fun ⟨o, h1, h2⟩ => hn o h1 h2)]
  obtain ⟨hl, hsl⟩ := cutSlots_get hg 0 ρ ρ' hs
  unfold cutObjs at ho
  obtain ⟨hol, hog⟩ := mapM_some ho
  have hobj : ∀ {o : Nat} {O' : O}, σ'[o]? = some O' → ∃ O, σ[o]? = some O ∧ fzO n σ O = some O' := fun {o O'} hO' => by
    have hlt : o < (σ.take n).length := by rw [← hol]; exact (List.getElem?_eq_some_iff.1 hO').1
    have hget := List.getElem?_eq_getElem hlt
    refine ⟨(σ.take n)[o], ?_, hog o _ _ hget hO'⟩
    rw [List.getElem?_take] at hget
    split at hget
    · exact hget
    · cases hget
  have hcells : ∀ {o : Nat} {ds : List V}, σ'[o]? = some (.cells ds) → ∃ cs, σ[o]? = some (.cells cs) ∧ ds.length = cs.length ∧ ∀ (i : Nat) c d, cs[i]? = some c → ds[i]? = some d → Fz M ι (cutM M ι w n) ι0 c d := fun {o ds} hd => by
    obtain ⟨O, hO, hf⟩ := hobj hd
    cases O with
    | cells cs =>
      obtain ⟨ds', he, q1, q2⟩ := fzO_cells hsame hg hf
      cases he
      exact ⟨cs, hO, q1, q2⟩
    | mp es => simp only [fzO] at hf; split at hf <;> cases hf
  have key : ∀ p v y, At ι0 w us ρ' σ' p v y → ∃ x, At ι w us ρ σ p v x ∧ Fz1 M ι (cutM M ι w n) ι0 x y := by
    intro p v y ha
    cases p with
    | s i =>
      obtain ⟨q1, q2⟩ := ha
      have hlt : i < ρ.length := by rw [← hl]; exact (List.getElem?_eq_some_iff.1 q2).1
      exact ⟨ρ[i], ⟨q1, List.getElem?_eq_getElem hlt⟩, hsl i _ _ (List.getElem?_eq_getElem hlt) q2⟩
    | c o i =>
      obtain ⟨b, ws, T, fzz, ds, q1, q2, q3, q4, q5⟩ := ha
      obtain ⟨cs, r1, r2, r3⟩ := hcells q3
      have hlt : i < cs.length := by rw [← r2]; exact (List.getElem?_eq_some_iff.1 q5).1
      exact ⟨cs[i], ⟨b, ws, T, fzz, cs, (hback o b q1).2, q2, r1, q4, List.getElem?_eq_getElem hlt⟩, .inr (r3 i _ _ (List.getElem?_eq_getElem hlt) q5)⟩
  refine ⟨hm, fun b i hb => hX b i fun o _ e => h.wd.xobj o b e hb, ⟨⟨fun b i u hu => ?_, fun o b hb => ?_, fun o b hb => h.wd.olt o b (hback o b hb).2, fun o o' b hb hb' => h.wd.inj o o' b (hback o b hb).2 (hback o' b hb').2, h.wd.xlt, fun o b hb => h.wd.xobj o b (hback o b hb).2, fun b p hp => ⟨(h.wd.kap b p hp).1, fun o e => (h.wd.kap b p hp).2.1 o (hback o b e).2, (h.wd.kap b p hp).2.2⟩⟩, ⟨by rw [hl]; exact h.rep.1, fun i u y hu hy => ?_⟩, fun p v y b ha hb => ?_, fun p v y ha => ?_⟩, fun o i hlk => ?_, by rw [hol, List.length_take]⟩
  · unfold cutM at hu
    split at hu
    · exact hu
    · exact h.wd.mem b i u hu
  · obtain ⟨hlt, hb'⟩ := hback o b hb
    obtain ⟨O, hO, hor⟩ := h.wd.obj o b hb'
    have hlt2 : o < σ'.length := by
      rw [hol, List.length_take]; have := (List.getElem?_eq_some_iff.1 hO).1; omega
    have hO' := List.getElem?_eq_getElem hlt2
    obtain ⟨O2, hO2, hf⟩ := hobj hO'
    rw [hO] at hO2; cases hO2
    refine ⟨σ'[o], hO', ?_⟩
    have hMb : ∀ i, cutM M ι w n b i = M b i := fun i => hX b i fun o' hge e => by
      have := h.wd.inj o o' b hb' e; omega
    cases O with
    | cells cs =>
      obtain ⟨ds, he, q1, q2⟩ := fzO_cells hsame hg hf
      rw [he]
      obtain ⟨ws, T, fzz, r1, r2, r3, r4, r5⟩ := hor
      refine ⟨ws, T, fzz, r1, ⟨by rw [q1]; exact r2.1, fun i u d hu hd => ?_⟩, fun i hi => r3 i (by omega), fun i => by rw [hMb]; exact r4 i, fun d hd => ?_⟩
      · rw [q1] at hu
        obtain ⟨c, hc, hrc⟩ := r2.get' hu
        exact (q2 i c d hc hd).rep u hrc
      · obtain ⟨i, hi⟩ := List.mem_iff_getElem?.1 hd
        have hlt3 : i < cs.length := by rw [← q1]; exact (List.getElem?_eq_some_iff.1 hi).1
        rw [(q2 i _ d (List.getElem?_eq_getElem hlt3) hi).one]
        exact r5 _ (List.getElem_mem hlt3)
    | mp es =>
      simp only [fzO] at hf
      split at hf
      · rename_i hrb
        simp only [Bool.and_eq_true] at hrb
        have he : σ'[o] = .mp es := (Option.some.inj hf).symm
        rw [he]
        obtain ⟨en, clock, r1, r2, r3⟩ := hor
        refine ⟨en, clock, r1, r2, fun i e p he hp => ?_⟩
        obtain ⟨s1, s2⟩ := r3 i e p he hp
        have hp' := List.mem_of_getElem? hp
        exact ⟨s1.rb hm hi (rbs_all.1 hrb.1 _ (List.mem_map.2 ⟨p, hp', rfl⟩)), s2.rb hm hi (rbs_all.1 hrb.2 _ (List.mem_map.2 ⟨p, hp', rfl⟩))⟩
      · cases hf
  · have hlt : i < ρ.length := by rw [← hl]; exact (List.getElem?_eq_some_iff.1 hy).1
    rcases hsl i _ y (List.getElem?_eq_getElem hlt) hy with rfl | hfz
    · exact .any u
    · exact hfz.rep u (h.rep.2 i u _ hu (List.getElem?_eq_getElem hlt))
  · obtain ⟨x, hx, hf⟩ := key p v y ha
    rcases hf with rfl | hf
    · unfold ownB at hb; split at hb <;> simp_all
    · rw [hf.own v] at hb
      exact h.own p v x b hx hb
  · obtain ⟨x, hx, hf⟩ := key p v y ha
    rcases hf with rfl | hf
    · exact ⟨fun xs s e => by cases e⟩
    · refine ⟨fun ys s e a len cap hv => ?_⟩
      obtain ⟨xs, hxs, hfl, hsz⟩ := hf.sl ys (.gr s) e (by simp)
      obtain ⟨g1, g2, ws, T, fzz, g3, g4, g5⟩ := (h.gr p v x hx).ok xs s hxs a len cap hv
      have hk : κ a.block = some p := h.own p v x a.block hx (by rw [hxs, hv]; rfl)
      rw [hfl]
      exact ⟨hsz s g1, fun i hi' => by rw [hX a.block i fun o _ e => (h.wd.kap _ _ hk).2.1 o e]; exact g2 i hi', ws, T, fzz, g3, g4, g5⟩
  · obtain ⟨ds, y, q1, q2, q3⟩ := hlk
    obtain ⟨cs, r1, r2, r3⟩ := hcells q1
    have hlt : i < cs.length := by rw [← r2]; exact (List.getElem?_eq_some_iff.1 q2).1
    exact ⟨cs, cs[i], r1, List.getElem?_eq_getElem hlt, by rw [← (r3 i _ y (List.getElem?_eq_getElem hlt) q2).lk]; exact q3⟩
end
end Go.Ev
