/- Rows that grow. -/
import Derived.Test.YtehbeicmmnjpfaaGreatDoorEvN
set_option linter.unusedSimpArgs false
set_option linter.unusedVariables false
namespace Go.Ev
open Go

theorem one' {v : Value} (h : v.oneCell = true) : v.oneCell' = true := by cases v <;> first | rfl | cases h

section
variable {P : Program} {M : Mem} {ι : Plc} {X : Nat → Prop} {κ : Own} {w : World} {us : List Value} {ρ : List V} {σ : Objs}

/-- Type of what is appended. -/
def chkSrc (P : Program) (str : Bool) (tx : TypeId) (sz : Nat) : Bool :=
  match P.underlying tx with
  | some (.slice _) => !str
  | some .string => str && sz == 1
  | _ => false

theorem ofBytes_reps (s : ByteArray) : Reps M ι (byteCells s) (ofBytes s.data.toList) := by
  unfold byteCells ofBytes
  refine ⟨by simp, fun i u c hu hc => ?_⟩
  simp only [List.getElem?_map, Option.map_eq_some_iff] at hu hc
  obtain ⟨b, hb, rfl⟩ := hu
  obtain ⟨b', hb', rfl⟩ := hc
  rw [hb] at hb'; cases hb'
  exact .int _ _

theorem ofBytes_flat (l : List UInt8) : (ofBytes l).flatMap V.cells = ofBytes l := by
  induction l with
  | nil => rfl
  | cons b l ih => unfold ofBytes at *; simp only [List.map_cons, List.flatMap_cons, ih]; rfl

theorem reps_one {vs : List Value} {cs : List V} (h : Reps M ι vs cs) (h1 : ∀ c ∈ cs, c.one = true) : ∀ u ∈ vs, u.oneCell = true := fun u hu => by
  obtain ⟨i, hi⟩ := List.mem_iff_getElem?.1 hu
  obtain ⟨c, hc, hr⟩ := h.get' hi
  exact hr.one (h1 c (List.mem_of_getElem? hc))

theorem src_of (h : Wd M ι X κ w σ) {str : Bool} {tx : TypeId} {sz : Nat} {ag : Bool} {v : Value} {y : V} {ys : List V} (hk : chkSrc P str tx sz = true) (hv : Rep M ι v y) (hs : srcOf str σ y = some ys) (hok : okRow ag sz ys = true) :
    ∃ vs, Src P sz tx v ys.length vs w ∧ Reps M ι vs (ys.flatMap V.cells) := by
  unfold chkSrc at hk
  unfold srcOf at hs
  have hlen := flat_len (okRow_spec hok).1
  split at hk
  · rename_i e hu
    have hstr : str = false := by simpa using hk
    subst hstr
    simp only [Bool.false_eq_true, if_false] at hs
    rcases row_cells h hv hs with ⟨rfl, rfl⟩ | ⟨b, off, cap, vs, rfl, hr, hc⟩
    · exact ⟨[], Src.ofNil w hu 0, Reps.nil⟩
    · refine ⟨vs, Src.ofSlice w hu _ _ _ vs (by rw [hr.1, hlen]) (fun j u hju => ?_) (fun u hu => one' (reps_one hr (okRow_flat hok) u hu)), hr⟩
      rw [add_none]; exact hc j u hju
  · rename_i hu
    simp only [Bool.and_eq_true, beq_iff_eq] at hk
    obtain ⟨rfl, rfl⟩ := hk
    simp only [if_true] at hs
    cases y <;> (try (cases hs; done))
    cases hs
    obtain ⟨s, rfl, rfl⟩ := hv.inv_str
    refine ⟨byteCells s, ?_, ?_⟩
    · have := Src.ofString w hu s
      have hl : (ofBytes s.data.toList).length = s.size := by unfold ofBytes; rw [List.length_map, Array.length_toList]; rfl
      rw [hl]; exact this
    · rw [ofBytes_flat]; exact ofBytes_reps s
  · cases hk

theorem run_app_room {t tx ty e : TypeId} {i : TypeInfo} (ht : P.underlying t = some (.slice e)) (hi : P.info? e = some i) {b off sLen sCap : Nat} {x : Value} {n : Nat} {news : List Value} (hs : Src P i.size tx x n news w)
    (hroom : sLen + n ≤ sCap) {ws : Array Value} {T : TypeId} {fz : Nat × Nat} (hb : w.heap[b]? = some (.cells ws T fz)) (hl : off + sLen * i.size + news.length ≤ ws.size)
    (hf : ∀ j, off + sLen * i.size ≤ j → j < ws.size → frozenAt fz j = false) :
    (Builtin.append_ #[t, tx] ty #[.slice (some ⟨b, off, none⟩) sLen sCap, x]).run P w = .ok (.slice (some ⟨b, off, none⟩) (sLen + n) sCap) (setRow w b (layA ws (off + sLen * i.size) news) T fz) := by
  have hone : ∀ u ∈ news, u.oneCell = true := fun u hu => by have := hs.one u hu; cases u <;> first | rfl | cases this
  have hst := run_storeCells (P := P) b (off + sLen * i.size) T fz news w ws 0 hb (by simpa using hl) (fun j h1 h2 => hf j (by simpa using h1) (by simp at h2; omega)) hone
  simp only [Nat.add_zero] at hst
  rcases hs.kind with ⟨e', hk⟩ | hk <;> simp [Builtin.append_, Go.run_underlying ht, Go.run_underlying hk, sizeOf, typeInfo, hi, hs.len, hroom, hs.cells, add_none, hst]

theorem take_left {α : Type} (a b : List α) : (a ++ b).take a.length = a := List.take_left

/-- Objects' blocks are as they were. -/
def HK (ι : Plc) (w w' : World) : Prop := ∀ o b, ι o = some b → w'.heap[b]? = w.heap[b]?
theorem HK.refl (ι : Plc) (w : World) : HK ι w w := fun _ _ _ => rfl
theorem Wd.hkPush (h : Wd M ι X κ w σ) (o : Obj) (n : Nat) : HK ι w (pushB { w with drawn := n } o) := fun o b hi => pushB_old _ _ (h.olt o b hi)
theorem Wd.hkPush' (h : Wd M ι X κ w σ) (o : Obj) : HK ι w (pushB w o) := fun o b hi => pushB_old _ _ (h.olt o b hi)

/-- A new row behind an append. -/
theorem app_grow (h : St M ι X κ w us ρ σ) {t tx ty e : TypeId} {ag : Bool} {sz bytes : Nat} (ht : chkElem P t ag sz = some e) (hz : ∃ zv, zeroOf P e = some zv ∧ zv.cells.size = sz) (hby : (P.info? e).map (·.bytes) = some bytes) (hpos : sz ≠ 0)
    {base : Option Addr} {sCap : Nat} {xs ys : List V} {olds vs : List Value} {v : Value} (hold : ∀ w' : World, w'.heap = w.heap → (Builtin.firstCells sz xs.length (.slice base xs.length sCap)).run P w' = .ok olds.toArray w')
    (hro : Reps M ι olds (xs.flatMap V.cells)) (hxs : ∀ x ∈ xs, x.cells.length = sz) (hsrc : Src P sz tx v ys.length vs w) (hrv : Reps M ι vs (ys.flatMap V.cells)) (hys : ∀ y ∈ ys, y.cells.length = sz)
    (hg : sCap < xs.length + ys.length) (hle : (xs.length + ys.length) * bytes ≤ rowMax) (hmax : xs.length + ys.length ≤ 9223372036854775807) (d : Option Nat) :
    ∃ u w' M' κ', (Builtin.append_ #[t, tx] ty #[.slice base xs.length sCap, v]).run P w = .ok u w' ∧ Ext X M ι w M' ι w' ∧ HK ι w w' ∧ St M' ι X κ' w' (putL us d u) (put ρ d (.sl (xs ++ ys) (.gr sz))) σ := by
  obtain ⟨hu, hty⟩ := chkElem_spec ht
  obtain ⟨i, hi, his⟩ := szOf_info (chkTy_sz hty)
  obtain ⟨zv, hzv, hzs⟩ := hz
  have hiz : i.zero = some zv := by unfold zeroOf at hzv; rw [hi] at hzv; exact hzv
  have hib : i.bytes = bytes := by rw [hi] at hby; simpa using hby
  subst his hib
  have hfit : Builtin.nextslicecap (xs.length + ys.length) sCap * i.bytes ≤ 281474976710656 := growslice_fits hg hle
  have hrun := run_append_grow_src (P := P) w t tx ty e i zv hu hi hiz base xs.length sCap olds (hold w.drew rfl) v ys.length vs hsrc hg (by omega) hfit
  have hcap := grownCap_ge w (xs.length + ys.length) sCap e
  have hzc := size_zeroCells zv.cells (grownCap w (xs.length + ys.length) sCap e - (xs.length + ys.length))
  have hd := h.drew
  have hreps : Reps M ι (olds ++ vs) ((xs ++ ys).flatMap V.cells) := by rw [List.flatMap_append]; exact hro.append hrv
  have hboth : ∀ y ∈ xs ++ ys, y.cells.length = i.size := fun y hy => by
    rcases List.mem_append.1 hy with h | h
    · exact hxs y h
    · exact hys y h
  have hfl := flat_len hboth
  have hol : (olds ++ vs).length = ((xs ++ ys).flatMap V.cells).length := hreps.1
  obtain ⟨M', κ', he, hst⟩ := hd.putRow ((olds ++ vs).toArray ++ Builtin.zeroCells zv.cells (grownCap w (xs.length + ys.length) sCap e - (xs.length + ys.length))) e (0, 0) (xs ++ ys) (.gr i.size) (grownCap w (xs.length + ys.length) sCap e) i.size
    (by
      rw [Array.toList_append, ← hol]
      rw [show ((olds ++ vs).toArray).toList = olds ++ vs from rfl, take_left]
      exact hreps) hboth (by simpa using hcap) (fun e => by cases e) (fun s hs => by
      cases hs
      refine ⟨rfl, ?_, fun j _ _ => ?_⟩
      · rw [Array.size_append, hzc, hzs, List.size_toArray, hol, hfl, List.length_append, ← Nat.add_mul]
        exact Nat.mul_le_mul_right _ (by omega)
      · unfold frozenAt; simp) d
  refine ⟨_, _, M', κ', hrun, (Ext.drew X M ι w).trans he, h.wd.hkPush _ _, ?_⟩
  have hla : (xs ++ ys).length = xs.length + ys.length := List.length_append
  rw [hla] at hst
  exact hst
end
end Go.Ev
