/- What the small language's values stand for in memory; what is kept from world to world. -/
import Derived.Test.YtehbeicmmnjpfaaGreatDoorEvA
import Derived.Wp
set_option linter.unusedSimpArgs false
set_option linter.unusedVariables false
namespace Go.Ev
open Go

abbrev Mem := Nat → Nat → Option Value
abbrev Plc := Nat → Option Nat

/-- A value of the memory stands for a tree. M: the cells that nobody writes any more; ι: where the objects lie. -/
inductive Rep (M : Mem) (ι : Plc) : Value → V → Prop
  | any (v : Value) : Rep M ι v .any
  | undef : Rep M ι (.tuple #[]) .undef
  | bool (b : Bool) : Rep M ι (.bool b) (.bool b)
  | int (k : IntKind) (n : Int) : Rep M ι (.int k n) (.int k n)
  | str (s : ByteArray) (l : List UInt8) (h : s.data.toList = l) : Rep M ι (.string s) (.str l)
  | nilp : Rep M ι (.pointer none) .nilp
  | ptr (o off b : Nat) (h : ι o = some b) : Rep M ι (.pointer (some ⟨b, off, none⟩)) (.ptr o off)
  | eptr (cs : List V) (off b base : Nat) (us : List Value) (hl : us.length = cs.length)
      (hm : ∀ (i : Nat) u, us[i]? = some u → M b (base + i) = some u) (hr : ∀ (i : Nat) u c, us[i]? = some u → cs[i]? = some c → Rep M ι u c) :
      Rep M ι (.pointer (some ⟨b, base + off, none⟩)) (.eptr cs off)
  | nils : Rep M ι (.slice none 0 0) .nils
  | sl (xs : List V) (c : Cap) (b off cap sz : Nat) (us : List Value) (hs : ∀ x ∈ xs, x.cells.length = sz) (hl : us.length = (xs.flatMap V.cells).length)
      (hm : ∀ (i : Nat) u, us[i]? = some u → M b (off + i) = some u) (hr : ∀ (i : Nat) u c, us[i]? = some u → (xs.flatMap V.cells)[i]? = some c → Rep M ι u c)
      (hcap : xs.length ≤ cap) (hfx : c = .fx → cap = xs.length) : Rep M ι (.slice (some ⟨b, off, none⟩) xs.length cap) (.sl xs c)
  | hs (o off len sz : Nat) (ag : Bool) (b cap : Nat) (h : ι o = some b) (hc : len ≤ cap) : Rep M ι (.slice (some ⟨b, off, none⟩) len cap) (.hs o off len sz ag)
  | agg (vs : Array Value) (cs : List V) (hl : vs.size = cs.length) (hr : ∀ (i : Nat) v c, vs[i]? = some v → cs[i]? = some c → Rep M ι v c) : Rep M ι (.agg vs) (.agg cs)
  | tup (vs : Array Value) (cs : List V) (hl : vs.size = cs.length) (hr : ∀ (i : Nat) v c, vs[i]? = some v → cs[i]? = some c → Rep M ι v c) : Rep M ι (.tuple vs) (.tup cs)
  | ifc (t : TypeId) (v : Value) (x : V) (h : Rep M ι v x) : Rep M ι (.iface t v) (.ifc t x)
  | nili : Rep M ι .nilIface .nili
  | fn (f : FuncId) (as bs : Array Value) (first caps : List V) (ha : as.size = first.length) (hb : bs.size = caps.length)
      (hra : ∀ (i : Nat) v c, as[i]? = some v → first[i]? = some c → Rep M ι v c) (hrb : ∀ (i : Nat) v c, bs[i]? = some v → caps[i]? = some c → Rep M ι v c) :
      Rep M ι (.func (.func f) as bs) (.fn f first caps)
  | nilf : Rep M ι .nilFunc .nilf
  | mp (o r : Nat) (h : ι o = some r) : Rep M ι (.map (some r)) (.mp o)
  | nilm : Rep M ι (.map none) .nilm

structure MemLe (M M' : Mem) : Prop where
  le : ∀ b i u, M b i = some u → M' b i = some u
structure PlcLe (ι ι' : Plc) : Prop where
  le : ∀ o b, ι o = some b → ι' o = some b

theorem MemLe.refl (M : Mem) : MemLe M M := ⟨fun _ _ _ h => h⟩
theorem MemLe.trans {M M' M'' : Mem} (h : MemLe M M') (k : MemLe M' M'') : MemLe M M'' := ⟨fun b i u e => k.le b i u (h.le b i u e)⟩
theorem PlcLe.refl (ι : Plc) : PlcLe ι ι := ⟨fun _ _ h => h⟩
theorem PlcLe.trans {ι ι' ι'' : Plc} (h : PlcLe ι ι') (k : PlcLe ι' ι'') : PlcLe ι ι'' := ⟨fun o b e => k.le o b (h.le o b e)⟩

theorem Rep.mono {M M' : Mem} {ι ι' : Plc} (hm : MemLe M M') (hi : PlcLe ι ι') {v : Value} {x : V} (h : Rep M ι v x) : Rep M' ι' v x := by
  induction h with
  | any v => exact .any v
  | undef => exact .undef
  | bool b => exact .bool b
  | int k n => exact .int k n
  | str s l h => exact .str s l h
  | nilp => exact .nilp
  | ptr o off b h => exact .ptr o off b (hi.le _ _ h)
  | eptr cs off b base us hl hmm hr ih => exact .eptr cs off b base us hl (fun i u e => hm.le _ _ _ (hmm i u e)) ih
  | nils => exact .nils
  | sl xs c b off cap sz us hs hl hmm hr hcap hfx ih => exact .sl xs c b off cap sz us hs hl (fun i u e => hm.le _ _ _ (hmm i u e)) ih hcap hfx
  | hs o off len sz ag b cap h hc => exact .hs o off len sz ag b cap (hi.le _ _ h) hc
  | agg vs cs hl hr ih => exact .agg vs cs hl ih
  | tup vs cs hl hr ih => exact .tup vs cs hl ih
  | ifc t v x h ih => exact .ifc t v x ih
  | nili => exact .nili
  | fn f as bs first caps ha hb hra hrb iha ihb => exact .fn f as bs first caps ha hb iha ihb
  | nilf => exact .nilf
  | mp o r h => exact .mp o r (hi.le _ _ h)
  | nilm => exact .nilm

theorem Rep.nogr {M : Mem} {ι : Plc} {v : Value} {x : V} (h : Rep M ι v x) : Rep M ι v x.nogr := by
  cases h with
  | sl xs c b off cap sz us hs hl hmm hr hcap hfx => exact .sl xs .no b off cap sz us hs hl hmm hr hcap (fun e => by cases e)
  | any v => exact .any v
  | undef => exact .undef
  | bool b => exact .bool b
  | int k n => exact .int k n
  | str s l h => exact .str s l h
  | nilp => exact .nilp
  | ptr o off b h => exact .ptr o off b h
  | eptr cs off b base us hl hmm hr => exact .eptr cs off b base us hl hmm hr
  | nils => exact .nils
  | hs o off len sz ag b cap h hc => exact .hs o off len sz ag b cap h hc
  | agg vs cs hl hr => exact .agg vs cs hl hr
  | tup vs cs hl hr => exact .tup vs cs hl hr
  | ifc t v x h => exact .ifc t v x h
  | nili => exact .nili
  | fn f as bs first caps ha hb hra hrb => exact .fn f as bs first caps ha hb hra hrb
  | nilf => exact .nilf
  | mp o r h => exact .mp o r h
  | nilm => exact .nilm

theorem V.nogr_cells_length (x : V) : x.nogr.cells.length = x.cells.length := by cases x <;> rfl
theorem V.nogr_one (x : V) : x.nogr.one = x.one := by cases x <;> rfl
theorem V.nogr_nogr (x : V) : x.nogr.nogr = x.nogr := by cases x <;> rfl

/-- Rows of values that stand for rows of trees. -/
def Reps (M : Mem) (ι : Plc) (us : List Value) (cs : List V) : Prop := us.length = cs.length ∧ ∀ (i : Nat) u c, us[i]? = some u → cs[i]? = some c → Rep M ι u c

theorem Reps.nil {M : Mem} {ι : Plc} : Reps M ι [] [] := ⟨rfl, fun i u c h => by simp at h⟩
theorem Reps.cons {M : Mem} {ι : Plc} {u : Value} {c : V} {us : List Value} {cs : List V} (h : Rep M ι u c) (hs : Reps M ι us cs) : Reps M ι (u :: us) (c :: cs) :=
  ⟨by simp [hs.1], fun i u' c' hu hc => by
    cases i with
    | zero => simp at hu hc; subst hu hc; exact h
    | succ i => simp at hu hc; exact hs.2 i u' c' hu hc⟩
theorem Reps.head {M : Mem} {ι : Plc} {u : Value} {c : V} {us : List Value} {cs : List V} (h : Reps M ι (u :: us) (c :: cs)) : Rep M ι u c := h.2 0 u c rfl rfl
theorem Reps.tail {M : Mem} {ι : Plc} {u : Value} {c : V} {us : List Value} {cs : List V} (h : Reps M ι (u :: us) (c :: cs)) : Reps M ι us cs :=
  ⟨by have := h.1; simpa using this, fun i u' c' hu hc => h.2 (i + 1) u' c' (by simpa using hu) (by simpa using hc)⟩
theorem Reps.mono {M M' : Mem} {ι ι' : Plc} (hm : MemLe M M') (hi : PlcLe ι ι') {us : List Value} {cs : List V} (h : Reps M ι us cs) : Reps M' ι' us cs :=
  ⟨h.1, fun i u c hu hc => (h.2 i u c hu hc).mono hm hi⟩
theorem Reps.append {M : Mem} {ι : Plc} {us us' : List Value} {cs cs' : List V} (h : Reps M ι us cs) (h' : Reps M ι us' cs') : Reps M ι (us ++ us') (cs ++ cs') := by
  refine ⟨by simp [h.1, h'.1], fun i u c hu hc => ?_⟩
  rw [List.getElem?_append] at hu hc
  rw [← h.1] at hc
  split at hu
  · rename_i hi; rw [if_pos hi] at hc; exact h.2 i u c hu hc
  · rename_i hi; rw [if_neg hi] at hc; exact h'.2 _ u c hu hc
theorem Reps.drop {M : Mem} {ι : Plc} {us : List Value} {cs : List V} (h : Reps M ι us cs) (n : Nat) : Reps M ι (us.drop n) (cs.drop n) :=
  ⟨by simp [h.1], fun i u c hu hc => h.2 (n + i) u c (by simpa using hu) (by simpa using hc)⟩
theorem Reps.take {M : Mem} {ι : Plc} {us : List Value} {cs : List V} (h : Reps M ι us cs) (n : Nat) : Reps M ι (us.take n) (cs.take n) :=
  ⟨by simp [h.1], fun i u c hu hc => by
    rw [List.getElem?_take] at hu hc
    split at hu
    · rename_i hi; rw [if_pos hi] at hc; exact h.2 i u c hu hc
    · cases hu⟩
theorem Reps.nogr {M : Mem} {ι : Plc} {us : List Value} {cs : List V} (h : Reps M ι us cs) : Reps M ι us (cs.map V.nogr) :=
  ⟨by simp [h.1], fun i u c hu hc => by
    simp only [List.getElem?_map, Option.map_eq_some_iff] at hc
    obtain ⟨c', hc', rfl⟩ := hc
    exact (h.2 i u c' hu hc').nogr⟩
theorem Reps.get {M : Mem} {ι : Plc} {us : List Value} {cs : List V} (h : Reps M ι us cs) {i : Nat} {c : V} (hc : cs[i]? = some c) : ∃ u, us[i]? = some u ∧ Rep M ι u c := by
  have hi : i < us.length := by rw [h.1]; exact (List.getElem?_eq_some_iff.1 hc).1
  exact ⟨us[i], List.getElem?_eq_getElem hi, h.2 i _ c (List.getElem?_eq_getElem hi) hc⟩
theorem Reps.get' {M : Mem} {ι : Plc} {us : List Value} {cs : List V} (h : Reps M ι us cs) {i : Nat} {u : Value} (hu : us[i]? = some u) : ∃ c, cs[i]? = some c ∧ Rep M ι u c := by
  have hi : i < cs.length := by rw [← h.1]; exact (List.getElem?_eq_some_iff.1 hu).1
  exact ⟨cs[i], List.getElem?_eq_getElem hi, h.2 i u _ hu (List.getElem?_eq_getElem hi)⟩
theorem Reps.set {M : Mem} {ι : Plc} {us : List Value} {cs : List V} (h : Reps M ι us cs) {u : Value} {c : V} (hu : Rep M ι u c) (i : Nat) : Reps M ι (us.set i u) (cs.set i c) := by
  refine ⟨by simp [h.1], fun j u' c' hu' hc' => ?_⟩
  rw [List.getElem?_set] at hu' hc'
  by_cases hij : i = j
  · subst hij
    rw [if_pos rfl] at hu' hc'
    split at hu'
    · rename_i hlt; rw [if_pos (by rw [← h.1]; exact hlt)] at hc'; cases hu'; cases hc'; exact hu
    · cases hu'
  · rw [if_neg hij] at hu' hc'; exact h.2 j u' c' hu' hc'

theorem Rep.agg_iff {M : Mem} {ι : Plc} {vs : Array Value} {cs : List V} : Rep M ι (.agg vs) (.agg cs) ↔ Reps M ι vs.toList cs := by
  constructor
  · intro h
    cases h with
    | agg _ _ hl hr => exact ⟨by simpa using hl, fun i u c hu hc => hr i u c (by simpa using hu) hc⟩
  · intro h
    exact .agg vs cs (by simpa using h.1) (fun i v c hv hc => h.2 i v c (by simpa using hv) hc)

/-- A value's cells and a tree's, where the tree is known. -/
theorem Rep.cells {M : Mem} {ι : Plc} {v : Value} {x : V} (h : Rep M ι v x) (hx : ∀ c ∈ x.cells, c.one = true) : Reps M ι v.cells.toList x.cells := by
  cases h with
  | agg vs cs hl hr => exact Rep.agg_iff.1 (.agg vs cs hl hr)
  | any v => exact absurd (hx .any (by simp [V.cells])) (by simp [V.one])
  | undef => exact absurd (hx .undef (by simp [V.cells])) (by simp [V.one])
  | tup vs cs hl hr => exact absurd (hx (.tup cs) (by simp [V.cells])) (by simp [V.one])
  | bool b => exact Reps.cons (.bool b) Reps.nil
  | int k n => exact Reps.cons (.int k n) Reps.nil
  | str s l h => exact Reps.cons (.str s l h) Reps.nil
  | nilp => exact Reps.cons .nilp Reps.nil
  | ptr o off b h => exact Reps.cons (.ptr o off b h) Reps.nil
  | eptr cs off b base us hl hmm hr => exact Reps.cons (.eptr cs off b base us hl hmm hr) Reps.nil
  | nils => exact Reps.cons .nils Reps.nil
  | sl xs c b off cap sz us hs hl hmm hr hcap hfx => exact Reps.cons (.sl xs c b off cap sz us hs hl hmm hr hcap hfx) Reps.nil
  | hs o off len sz ag b cap h hc => exact Reps.cons (.hs o off len sz ag b cap h hc) Reps.nil
  | ifc t v x h => exact Reps.cons (.ifc t v x h) Reps.nil
  | nili => exact Reps.cons .nili Reps.nil
  | fn f as bs first caps ha hb hra hrb => exact Reps.cons (.fn f as bs first caps ha hb hra hrb) Reps.nil
  | nilf => exact Reps.cons .nilf Reps.nil
  | mp o r h => exact Reps.cons (.mp o r h) Reps.nil
  | nilm => exact Reps.cons .nilm Reps.nil

/-- A cell's value. -/
theorem Rep.one {M : Mem} {ι : Plc} {v : Value} {x : V} (h : Rep M ι v x) (hx : x.one = true) : v.oneCell = true := by
  cases h <;> first | rfl | simp [V.one] at hx

end Go.Ev
