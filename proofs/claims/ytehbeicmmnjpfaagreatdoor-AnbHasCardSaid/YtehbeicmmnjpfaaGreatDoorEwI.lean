/- What leads to objects that are let go becomes what nobody writes: values. -/
import Derived.Test.YtehbeicmmnjpfaaGreatDoorEwH
set_option linter.unusedSimpArgs false
set_option linter.unusedVariables false
namespace Go.Ev
open Go

theorem rbs_all {n : Nat} : ∀ {xs : List V}, V.rbs n xs = true ↔ ∀ x ∈ xs, V.rb n x = true
  | [] => by simp [V.rbs]
  | x :: xs => by simp [V.rbs, rbs_all (xs := xs)]

theorem rbs_get {n i : Nat} {xs : List V} {x : V} (h : V.rbs n xs = true) (hx : xs[i]? = some x) : V.rb n x = true := rbs_all.1 h x (List.mem_of_getElem? hx)

theorem rb_cells {n : Nat} {x : V} (h : V.rb n x = true) : V.rbs n x.cells = true := by
  cases x <;> first | (simpa [V.cells, V.rb] using h) | (simp only [V.cells, V.rbs, Bool.and_true]; exact h)

theorem rbs_flat {n : Nat} {xs : List V} (h : V.rbs n xs = true) : V.rbs n (xs.flatMap V.cells) = true := rbs_all.2 fun y hy => by
  obtain ⟨x, hx, hy⟩ := List.mem_flatMap.1 hy
  exact rbs_all.1 (rb_cells (rbs_all.1 h x hx)) y hy

section
variable {M M' : Mem} {ι ι' : Plc} {n : Nat}

/-- A value that leads to no object that is let go. -/
theorem Rep.rb (hm : MemLe M M') (hi : ∀ o b, o < n → ι o = some b → ι' o = some b) {v : Value} {x : V} (h : Rep M ι v x) : V.rb n x = true → Rep M' ι' v x := by
  induction h with
  | any v => intro _; exact .any v
  | undef => intro _; exact .undef
  | bool b => intro _; exact .bool b
  | int k m => intro _; exact .int k m
  | str s l h => intro _; exact .str s l h
  | nilp => intro _; exact .nilp
  | ptr o off b h => intro hr; exact .ptr o off b (hi o b (by simpa [V.rb] using hr) h)
  | eptr cs off b base us hl hmm hr ih =>
    intro hrb
    simp only [V.rb] at hrb
    exact .eptr cs off b base us hl (fun i u hu => hm.le _ _ _ (hmm i u hu)) (fun i u c hu hc => ih i u c hu hc (rbs_get hrb hc))
  | nils => intro _; exact .nils
  | sl xs c b off cap sz us hs hl hmm hr hcap hfx ih =>
    intro hrb
    simp only [V.rb] at hrb
    exact .sl xs c b off cap sz us hs hl (fun i u hu => hm.le _ _ _ (hmm i u hu)) (fun i u c hu hc => ih i u c hu hc (rbs_get (rbs_flat hrb) hc)) hcap hfx
  | hs o off len sz ag b cap h hc => intro hr; exact .hs o off len sz ag b cap (hi o b (by simpa [V.rb] using hr) h) hc
  | agg vs cs hl hr ih =>
    intro hrb
    simp only [V.rb] at hrb
    exact .agg vs cs hl (fun i v c hv hc => ih i v c hv hc (rbs_get hrb hc))
  | tup vs cs hl hr ih =>
    intro hrb
    simp only [V.rb] at hrb
    exact .tup vs cs hl (fun i v c hv hc => ih i v c hv hc (rbs_get hrb hc))
  | ifc t v x h ih => intro hrb; simp only [V.rb] at hrb; exact .ifc t v x (ih hrb)
  | nili => intro _; exact .nili
  | fn f as bs first caps ha hb hra hrb iha ihb =>
    intro hr
    simp only [V.rb, Bool.and_eq_true] at hr
    exact .fn f as bs first caps ha hb (fun i v c hv hc => iha i v c hv hc (rbs_get hr.1 hc)) (fun i v c hv hc => ihb i v c hv hc (rbs_get hr.2 hc))
  | nilf => intro _; exact .nilf
  | mp o r h => intro hr; exact .mp o r (hi o r (by simpa [V.rb] using hr) h)
  | nilm => intro _; exact .nilm
end
end Go.Ev
