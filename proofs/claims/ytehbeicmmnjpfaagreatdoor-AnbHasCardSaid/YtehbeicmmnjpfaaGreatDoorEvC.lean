/- The state of a call, in memory and as trees. -/
import Derived.Test.YtehbeicmmnjpfaaGreatDoorEvB
set_option linter.unusedSimpArgs false
set_option linter.unusedVariables false
namespace Go.Ev
open Go

/-- The block at whose end a row may grow. -/
def ownB : Value → V → Option Nat
  | .slice (some a) _ _, .sl _ (.gr _) => some a.block
  | _, _ => none

def frozenAt (fz : Nat × Nat) (i : Nat) : Bool := decide (fz.1 ≤ i) && decide (i < fz.2)

theorem ownB_nogr (v : Value) (x : V) : ownB v x.nogr = none := by
  unfold ownB
  split
  · rename_i heq
    cases x <;> simp [V.nogr] at heq
  · rfl

inductive Pl where
  | s (i : Nat) | c (o i : Nat)

abbrev Own := Nat → Option Pl

/-- What a place holds. -/
def At (ι : Plc) (w : World) (us : List Value) (ρ : List V) (σ : Objs) : Pl → Value → V → Prop
  | .s i, v, x => us[i]? = some v ∧ ρ[i]? = some x
  | .c o i, v, x => ∃ b ws T fz cs, ι o = some b ∧ w.heap[b]? = some (.cells ws T fz) ∧ σ[o]? = some (.cells cs) ∧ ws[i]? = some v ∧ cs[i]? = some x

structure GrOK (M : Mem) (w : World) (v : Value) (x : V) : Prop where
  ok : ∀ xs sz, x = .sl xs (.gr sz) → ∀ a len cap, v = .slice (some a) len cap →
    (∀ y ∈ xs, y.cells.length = sz) ∧ (∀ i, a.off + (xs.flatMap V.cells).length ≤ i → M a.block i = none) ∧
    ∃ ws T fz, w.heap[a.block]? = some (.cells ws T fz) ∧ a.off + cap * sz ≤ ws.size ∧ ∀ i, a.off + (xs.flatMap V.cells).length ≤ i → i < ws.size → frozenAt fz i = false

theorem GrOK.of_none {M : Mem} {w : World} {v : Value} {x : V} (h : ownB v x = none) : GrOK M w v x := by
  refine ⟨fun xs sz hx a len cap hv => ?_⟩
  subst hx hv
  simp [ownB] at h

/-- Entries of a map. -/
def EntRep (M : Mem) (ι : Plc) (en : List MapEntry) (es : List (V × V)) : Prop :=
  en.length = es.length ∧ ∀ (i : Nat) e p, en[i]? = some e → es[i]? = some p → Rep M ι e.key p.1 ∧ Rep M ι e.val p.2

def ObjRep (M : Mem) (ι : Plc) (w : World) (b : Nat) : O → Prop
  | .cells cs => ∃ ws T fz, w.heap[b]? = some (.cells ws T fz) ∧ Reps M ι (ws.toList.take cs.length) cs ∧ (∀ i, i < cs.length → frozenAt fz i = false) ∧ (∀ i, M b i = none) ∧ ∀ c ∈ cs, c.one = true
  | .mp es => ∃ en clock, w.heap[b]? = some (.map en clock) ∧ EntRep M ι en.toList es

/-- Memory: what nobody writes, the objects, the blocks that are another's (X). -/
structure Wd (M : Mem) (ι : Plc) (X : Nat → Prop) (κ : Own) (w : World) (σ : Objs) : Prop where
  mem : ∀ b i u, M b i = some u → w.cell? ⟨b, i, none⟩ = some u
  obj : ∀ o b, ι o = some b → ∃ O, σ[o]? = some O ∧ ObjRep M ι w b O
  olt : ∀ o b, ι o = some b → b < w.heap.size
  inj : ∀ o o' b, ι o = some b → ι o' = some b → o = o'
  xlt : ∀ b, X b → b < w.heap.size
  xobj : ∀ o b, ι o = some b → ¬ X b
  kap : ∀ b p, κ b = some p → ¬ X b ∧ (∀ o, ι o ≠ some b) ∧ b < w.heap.size

/-- The whole state. -/
structure St (M : Mem) (ι : Plc) (X : Nat → Prop) (κ : Own) (w : World) (us : List Value) (ρ : List V) (σ : Objs) : Prop where
  wd : Wd M ι X κ w σ
  rep : Reps M ι us ρ
  own : ∀ p v x b, At ι w us ρ σ p v x → ownB v x = some b → κ b = some p
  gr : ∀ p v x, At ι w us ρ σ p v x → GrOK M w v x

/-- From one state to another. -/
structure Ext (X : Nat → Prop) (M : Mem) (ι : Plc) (w : World) (M' : Mem) (ι' : Plc) (w' : World) : Prop where
  m : MemLe M M'
  i : PlcLe ι ι'
  mX : ∀ b i, X b → M' b i = M b i
  size : w.heap.size ≤ w'.heap.size
  keep : ∀ b, X b → w'.heap[b]? = w.heap[b]?
  os : w'.os = w.os
  tape : w'.tape = w.tape
  output : w'.output = w.output

theorem Ext.refl (X : Nat → Prop) (M : Mem) (ι : Plc) (w : World) : Ext X M ι w M ι w :=
  ⟨.refl _, .refl _, fun _ _ _ => rfl, Nat.le_refl _, fun _ _ => rfl, rfl, rfl, rfl⟩
theorem Ext.trans {X : Nat → Prop} {M M' M'' : Mem} {ι ι' ι'' : Plc} {w w' w'' : World} (h : Ext X M ι w M' ι' w') (k : Ext X M' ι' w' M'' ι'' w'') : Ext X M ι w M'' ι'' w'' :=
  ⟨h.m.trans k.m, h.i.trans k.i, fun b i hx => (k.mX b i hx).trans (h.mX b i hx), Nat.le_trans h.size k.size, fun b hx => (k.keep b hx).trans (h.keep b hx), k.os.trans h.os, k.tape.trans h.tape, k.output.trans h.output⟩
/-- Less is another's. -/
theorem Ext.less {X X' : Nat → Prop} {M M' : Mem} {ι ι' : Plc} {w w' : World} (h : Ext X M ι w M' ι' w') (hX : ∀ b, X' b → X b) : Ext X' M ι w M' ι' w' :=
  ⟨h.m, h.i, fun b i hx => h.mX b i (hX b hx), h.size, fun b hx => h.keep b (hX b hx), h.os, h.tape, h.output⟩

section
variable {M : Mem} {ι : Plc} {X : Nat → Prop} {κ : Own} {w : World} {us : List Value} {ρ : List V} {σ : Objs}

theorem Wd.lt (h : Wd M ι X κ w σ) {b i : Nat} {u : Value} (hm : M b i = some u) : b < w.heap.size := by
  have := h.mem b i u hm
  unfold World.cell? at this
  rcases Nat.lt_or_ge b w.heap.size with hb | hb
  · exact hb
  · simp [Array.getElem?_eq_none hb] at this

/-- A draw alone. -/
theorem Wd.drew (h : Wd M ι X κ w σ) : Wd M ι X κ { w with drawn := w.drawn + 1 } σ :=
  ⟨h.mem, fun o b hi => by
    obtain ⟨O, hO, hr⟩ := h.obj o b hi
    refine ⟨O, hO, ?_⟩
    cases O <;> exact hr, h.olt, h.inj, h.xlt, h.xobj, h.kap⟩

theorem At.heap {w' : World} (hw : w'.heap = w.heap) {p : Pl} {v : Value} {x : V} (h : At ι w' us ρ σ p v x) : At ι w us ρ σ p v x := by
  cases p with
  | s i => exact h
  | c o i => obtain ⟨b, ws, T, fz, cs, h1, h2, h3⟩ := h; exact ⟨b, ws, T, fz, cs, h1, hw ▸ h2, h3⟩

theorem GrOK.heap {w' : World} {v : Value} {x : V} (hw : w'.heap = w.heap) (h : GrOK M w v x) : GrOK M w' v x :=
  ⟨fun xs sz hx a len cap hv => by
    obtain ⟨h1, h2, ws, T, fz, h3, h4⟩ := h.ok xs sz hx a len cap hv
    exact ⟨h1, h2, ws, T, fz, hw.symm ▸ h3, h4⟩⟩

theorem St.drew (h : St M ι X κ w us ρ σ) : St M ι X κ { w with drawn := w.drawn + 1 } us ρ σ :=
  ⟨h.wd.drew, h.rep, fun p v x b ha => h.own p v x b (At.heap (w := w) rfl ha), fun p v x ha => GrOK.heap (w := w) (w' := { w with drawn := w.drawn + 1 }) rfl (h.gr p v x (At.heap (w := w) rfl ha))⟩

theorem Ext.drew (X : Nat → Prop) (M : Mem) (ι : Plc) (w : World) : Ext X M ι w M ι { w with drawn := w.drawn + 1 } :=
  ⟨.refl _, .refl _, fun _ _ _ => rfl, Nat.le_refl _, fun _ _ => rfl, rfl, rfl, rfl⟩

/-- A slot is written with a value that owns nothing. -/
theorem St.setSlot (h : St M ι X κ w us ρ σ) {v : Value} {x : V} (hr : Rep M ι v x) (ho : ownB v x = none) (d : Nat) : St M ι X κ w (us.set d v) (ρ.set d x) σ := by
  have key : ∀ p u y, At ι w (us.set d v) (ρ.set d x) σ p u y → At ι w us ρ σ p u y ∨ (u = v ∧ y = x) := by
    intro p u y ha
    cases p with
    | c o i => exact .inl ha
    | s i =>
      obtain ⟨h1, h2⟩ := ha
      rw [List.getElem?_set] at h1 h2
      by_cases hd : d = i
      · subst hd
        rw [if_pos rfl] at h1 h2
        split at h1
        · split at h2
          · cases h1; cases h2; exact .inr ⟨rfl, rfl⟩
          · cases h2
        · cases h1
      · rw [if_neg hd] at h1 h2; exact .inl ⟨h1, h2⟩
  refine ⟨h.wd, h.rep.set hr d, fun p u y b ha hb => ?_, fun p u y ha => ?_⟩
  · rcases key p u y ha with ha | ⟨rfl, rfl⟩
    · exact h.own p u y b ha hb
    · rw [ho] at hb; cases hb
  · rcases key p u y ha with ha | ⟨rfl, rfl⟩
    · exact h.gr p u y ha
    · exact .of_none ho

/-- A slot lets go what it may do. -/
theorem St.dropSlot (h : St M ι X κ w us ρ σ) (n : Nat) : St M ι X κ w us (ρ.set n (ρ.getD n .undef).nogr) σ := by
  by_cases hn : n < ρ.length
  · have hu : us[n]? = some (us[n]'(by rw [h.rep.1]; exact hn)) := List.getElem?_eq_getElem _
    have hx : ρ[n]? = some (ρ[n]) := List.getElem?_eq_getElem hn
    have := h.setSlot ((h.rep.2 n _ _ hu hx).nogr) (ownB_nogr _ _) n
    rw [show us.set n (us[n]'(by rw [h.rep.1]; exact hn)) = us from List.set_getElem_self _] at this
    simpa [List.getD, hx] using this
  · rw [List.set_eq_of_length_le (by omega)]; exact h

/-- What a slot owns goes over to another slot. -/
theorem St.moveSlot (h : St M ι X κ w us ρ σ) {n d : Nat} {v : Value} {x : V} (hv : us[n]? = some v) (hx : ρ[n]? = some x) :
    ∃ κ', St M ι X κ' w (us.set d v) ((ρ.set n x.nogr).set d x) σ ∧ (∀ b, (κ b).isNone → (κ' b).isNone) := by
  have hd := h.dropSlot n
  have hg : ρ.getD n .undef = x := by simp [List.getD, hx]
  rw [hg] at hd
  have hrx := h.rep.2 n v x hv hx
  have hnlt : n < ρ.length := (List.getElem?_eq_some_iff.1 hx).1
  cases hb : ownB v x with
  | none => exact ⟨κ, hd.setSlot hrx hb d, fun b hb => hb⟩
  | some b =>
    have hat : At ι w us ρ σ (.s n) v x := ⟨hv, hx⟩
    have hk := h.own _ v x b hat hb
    refine ⟨fun b' => if b' = b then some (.s d) else κ b', ⟨⟨h.wd.mem, h.wd.obj, h.wd.olt, h.wd.inj, h.wd.xlt, h.wd.xobj, ?_⟩, hd.rep.set hrx d, ?_, ?_⟩, ?_⟩
    · intro b' p hp
      by_cases hbb : b' = b
      · subst hbb; exact h.wd.kap b' _ hk
      · rw [if_neg hbb] at hp; exact h.wd.kap b' p hp
    · intro p u y b' ha hb'
      have hcase : p = .s d ∧ u = v ∧ y = x ∨ (p ≠ .s d ∧ At ι w us (ρ.set n x.nogr) σ p u y) := by
        cases p with
        | c o i => exact .inr ⟨by simp, ha⟩
        | s i =>
          obtain ⟨h1, h2⟩ := ha
          rw [List.getElem?_set] at h1 h2
          by_cases hd' : d = i
          · subst hd'
            rw [if_pos rfl] at h1 h2
            split at h1
            · split at h2
              · cases h1; cases h2; exact .inl ⟨rfl, rfl, rfl⟩
              · cases h2
            · cases h1
          · rw [if_neg hd'] at h1 h2; exact .inr ⟨by simpa using fun e => hd' e.symm, ⟨h1, h2⟩⟩
      rcases hcase with ⟨rfl, rfl, rfl⟩ | ⟨hp, ha'⟩
      · rw [hb] at hb'; cases hb'; rw [if_pos rfl]
      · have hk' := hd.own p u y b' ha' hb'
        by_cases hbb : b' = b
        · subst hbb
          rw [hk] at hk'
          cases hk'
          -- place n now owns nothing
          obtain ⟨h1, h2⟩ := ha'
          rw [List.getElem?_set_self hnlt] at h2
          cases h2
          rw [ownB_nogr] at hb'; cases hb'
        · rw [if_neg hbb]; exact hk'
    · intro p u y ha
      have hcase : (u = v ∧ y = x) ∨ At ι w us (ρ.set n x.nogr) σ p u y := by
        cases p with
        | c o i => exact .inr ha
        | s i =>
          obtain ⟨h1, h2⟩ := ha
          rw [List.getElem?_set] at h1 h2
          by_cases hd' : d = i
          · subst hd'
            rw [if_pos rfl] at h1 h2
            split at h1
            · split at h2
              · cases h1; cases h2; exact .inl ⟨rfl, rfl⟩
              · cases h2
            · cases h1
          · rw [if_neg hd'] at h1 h2; exact .inr ⟨h1, h2⟩
      rcases hcase with ⟨rfl, rfl⟩ | ha'
      · exact h.gr _ _ _ hat
      · exact hd.gr p u y ha'
    · intro b' hb'
      by_cases hbb : b' = b
      · subst hbb; rw [hk] at hb'; cases hb'
      · simpa [hbb] using hb'
end
end Go.Ev
