/- Arguments that are slices, opened: the cells of each element as a list's. No condition. -/
import Derived.Test.YtlbffpojdfhefaaLaw
import Derived.Deep.Slices
import Derived.Deep.Fields
import Derived.ChangeSame
namespace Go.Proofs.Ytlbffpojdfhefaa
open Go.ChangeShapes Go.WideShapes Go.ChangeAt Go.RowKit Go.Deep

theorem list_of {α : Type} (d : α) (P : Nat → α → Prop) : ∀ n, (∀ i, i < n → ∃ x, P i x) → ∃ xs : List α, xs.length = n ∧ ∀ i, i < n → P i (xs.getD i d) := by
  intro n
  induction n with
  | zero => intro _; exact ⟨[], rfl, fun i hi => by omega⟩
  | succ n ih =>
    intro h
    obtain ⟨xs, hl, hx⟩ := ih (fun i hi => h i (by omega))
    obtain ⟨y, hy⟩ := h n (by omega)
    refine ⟨xs ++ [y], by simp [hl], fun i hi => ?_⟩
    by_cases e : i = n
    · subst e
      have : (xs ++ [y]).getD i d = y := by simp [List.getD, ← hl]
      rw [this]; exact hy
    · have : (xs ++ [y]).getD i d = xs.getD i d := by
        simp only [List.getD_eq_getElem?_getD]
        rw [List.getElem?_append_left (by omega)]
      rw [this]; exact hx i (by omega)
section
variable {H : Type} {enc : TypeId × Value → H} {P : Program} {w : World} {α : Type}
theorem open_rowG {g : α → List Value} {sz : Nat} {d0 : α} {Q : α → Prop} {t e : TypeId} {r : Reach} {b0 : Nat} {v : Value} {d : DataW H} {p : List MemPlace} (ht : P.underlying t = some (.slice e)) (hsz : P.cellsOf e = sz)
    (hs0 : 0 < sz) (dec : ∀ n cs y, cs.length = sz → DataW.trod enc P w 0 (fun _ => true) true n e cs = some y → ∃ x : α, g x = cs ∧ Q x)
    (hv : Value.okWide P w r b0 t v) (h : DataW.Trod enc P w 0 (fun _ => true) true t v d p) :
    ∃ a n c xs, v = .slice a n c ∧ RowG g sz d0 w a n c xs ∧ ∀ x ∈ xs, Q x := by
  obtain ⟨a, len, cap, rfl⟩ := okWide_slice ht hv
  obtain ⟨fuel, hf⟩ := h
  rcases open_slice ht hf with ⟨hcs, _⟩ | ⟨a', len', cap', m, n, D, Pl, hcs, _, hl, hm, hmm, _, hi⟩
  · simp only [Value.cells, List.cons.injEq, Value.slice.injEq, and_true] at hcs
    obtain ⟨rfl, rfl, rfl⟩ := hcs
    exact ⟨none, 0, 0, [], rfl, ⟨rfl, Nat.le_refl _, by simp [maxLen], fun h => absurd h (Nat.lt_irrefl _)⟩, fun x hx => by cases hx⟩
  · simp only [Value.cells, List.cons.injEq, Value.slice.injEq, and_true] at hcs
    obtain ⟨rfl, rfl, rfl⟩ := hcs
    simp only [if_true] at hmm
    subst hmm
    have key : ∀ i, i < len → ∃ x : α, (∀ j u, (g x)[j]? = some u → w.cell? ((a'.add (i * sz)).add j) = some u) ∧ (g x).length = sz ∧ Q x := by
      intro i hil
      obtain ⟨cs', hc, ht'⟩ := hi i (by omega)
      rw [hsz] at hc
      obtain ⟨_, hcl, hat⟩ := World.cells?_some hc
      obtain ⟨x, rfl, hq⟩ := dec n cs' _ hcl ht'
      refine ⟨x, fun j u hu => ?_, hcl, hq⟩
      have hj : j < sz := by
        rcases Nat.lt_or_ge j sz with h | h
        · exact h
        · rw [List.getElem?_eq_none (by omega)] at hu; cases hu
      rw [hat j hj, hu]
    obtain ⟨xs, hxl, hx⟩ := list_of d0 _ len key
    refine ⟨some a', len, _, xs, rfl, ⟨hxl, hl, hm, fun hn => ?_⟩, fun x hxm => ?_⟩
    · obtain ⟨q1, q2, _⟩ := hx 0 hn
      have h0 : w.cell? a' = (g (xs.getD 0 d0))[0]? := by
        cases hg : (g (xs.getD 0 d0))[0]? with
        | some u => have := q1 0 u hg; simpa [Addr.add] using this
        | none => rw [List.getElem?_eq_none_iff] at hg; omega
      cases hg : (g (xs.getD 0 d0))[0]? with
      | none => rw [List.getElem?_eq_none_iff] at hg; omega
      | some u =>
        rw [hg] at h0
        have hsp : a'.spot = none := by
          cases hsp : a'.spot with
          | none => rfl
          | some s =>
            exfalso
            unfold World.cell? at h0
            rw [hsp] at h0
            cases hb : w.heap[a'.block]? with
            | none => simp [hb] at h0
            | some o => cases o <;> simp [hb] at h0
        obtain ⟨b, off, spot⟩ := a'
        simp only at hsp
        subst hsp
        refine ⟨b, off, rfl, World.block_lt_of_cell? w _ h0, fun j hj i u hu => ?_⟩
        have := (hx j hj).1 i u hu
        rw [addr_add, addr_add] at this
        exact this
    · obtain ⟨k, hk, e⟩ := List.getElem_of_mem hxm
      have := (hx k (by omega)).2.2
      rwa [show xs.getD k d0 = x by simp [List.getD, hk, e]] at this
end
/-- One field's reading, of a struct of one-cell fields. -/
theorem struct_fields {H : Type} {enc : TypeId × Value → H} {P : Program} {w : World} {e : TypeId} {fs : Array Field} {n : Nat} {cs : List Value} {y : DataW H × List MemPlace} (he : P.underlying e = some (.struct fs)) (hone : oneCellFields P fs = true)
    (h : DataW.trod enc P w 0 (fun _ => true) true n e cs = some y) : ∀ (j : Nat) (f : Field) (u : Value), fs[j]? = some f → cs[j]? = some u → ∃ m z, DataW.trod enc P w 0 (fun _ => true) true m f.type [u] = some z := by
  obtain ⟨ys, n', hn', hy, hlen, hyl, hf⟩ := DataW.trod_struct he h
  intro j f u hj hu
  obtain ⟨ho, hk⟩ := hone_of hone j f hj
  have h1 := hf j f hj
  rw [ho, hk] at h1
  obtain ⟨hjl, e⟩ := List.getElem?_eq_some_iff.1 hu
  rw [List.drop_eq_getElem_cons hjl, e] at h1
  have hyl2 : j < ys.length := by rw [hyl]; exact (Array.getElem?_eq_some_iff.1 hj).1
  rw [List.getElem?_eq_getElem hyl2] at h1
  exact ⟨n', _, h1⟩
end Go.Proofs.Ytlbffpojdfhefaa
