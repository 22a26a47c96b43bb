/- Appending. -/
import Derived.Test.YtehbeicmmnjpfaaGreatDoorEvO
set_option linter.unusedSimpArgs false
set_option linter.unusedVariables false
namespace Go.Ev
open Go

section
variable {P : Program} {M : Mem} {ι : Plc} {X : Nat → Prop} {κ : Own} {w : World} {us : List Value} {ρ : List V} {σ : Objs}

theorem run_app_nothing {t tx ty e : TypeId} {i : TypeInfo} (ht : P.underlying t = some (.slice e)) (hi : P.info? e = some i) {base : Option Addr} {sLen sCap : Nat} {x : Value} (hs : Src P i.size tx x 0 [] w) (hroom : sLen ≤ sCap) :
    (Builtin.append_ #[t, tx] ty #[.slice base sLen sCap, x]).run P w = .ok (.slice base sLen sCap) w := by
  have hst : ∀ a : Addr, (storeCells a []).run P w = .ok () w := fun a => rfl
  cases base <;> rcases hs.kind with ⟨e', hk⟩ | hk <;> simp [Builtin.append_, Go.run_underlying ht, Go.run_underlying hk, sizeOf, typeInfo, hi, hs.len, hroom, hs.cells, hst]

def chkApp (P : Program) (str ag : Bool) (sz bytes : Nat) (t tx : TypeId) : Bool :=
  match chkElem P t ag sz with
  | some e => decide ((zeroOf P e).map (·.cells.size) = some sz) && decide ((P.info? e).map (·.bytes) = some bytes) && decide (sz ≠ 0) && decide (bytes ≠ 0) && chkSrc P str tx sz
  | none => false

theorem chkApp_spec {str ag : Bool} {sz bytes : Nat} {t tx : TypeId} (h : chkApp P str ag sz bytes t tx = true) :
    ∃ e i, chkElem P t ag sz = some e ∧ P.underlying t = some (.slice e) ∧ P.info? e = some i ∧ i.size = sz ∧ (∃ zv, zeroOf P e = some zv ∧ zv.cells.size = sz) ∧ (P.info? e).map (·.bytes) = some bytes ∧ sz ≠ 0 ∧ bytes ≠ 0 ∧ chkSrc P str tx sz = true := by
  unfold chkApp at h
  split at h
  · rename_i e he
    simp only [Bool.and_eq_true, decide_eq_true_eq] at h
    obtain ⟨⟨⟨⟨h1, h2⟩, h3⟩, h4⟩, h5⟩ := h
    obtain ⟨hu, hty⟩ := chkElem_spec he
    obtain ⟨i, hi, his⟩ := szOf_info (chkTy_sz hty)
    rw [Option.map_eq_some_iff] at h1
    exact ⟨e, i, he, hu, hi, his, h1, h2, h3, h4, h5⟩
  · cases h

theorem le_max {n b : Nat} (h : n * b ≤ rowMax) (hb : b ≠ 0) : n ≤ 9223372036854775807 := by
  have : n * 1 ≤ n * b := Nat.mul_le_mul_left _ (Nat.one_le_iff_ne_zero.2 hb)
  unfold rowMax at h
  omega

theorem evApp_sl {ag : Bool} {sz bytes : Nat} {xs ys : List V} {c : Cap} {z : V} (h : evApp ag sz bytes (.sl xs c) ys = some z) (hne : ys ≠ []) :
    okRow ag sz ys = true ∧ (c = .fx ∨ c = .gr sz) ∧ (∀ q ∈ xs, q.cells.length = sz) ∧ (xs.length + ys.length) * bytes ≤ rowMax ∧ z = .sl (xs ++ ys) (.gr sz) := by
  unfold evApp at h
  split at h
  · rename_i hok
    cases ys with
    | nil => exact absurd rfl hne
    | cons y0 yr =>
      simp only at h
      split at h
      · rename_i hcond
        cases h
        exact ⟨hok, hcond.1, fun q hq => by simpa using List.all_eq_true.1 hcond.2.1 q hq, hcond.2.2, rfl⟩
      · cases h
  · cases h

theorem evApp_nils {ag : Bool} {sz bytes : Nat} {ys : List V} {z : V} (h : evApp ag sz bytes .nils ys = some z) (hne : ys ≠ []) :
    okRow ag sz ys = true ∧ ys.length * bytes ≤ rowMax ∧ z = .sl ys (.gr sz) := by
  unfold evApp at h
  split at h
  · rename_i hok
    simp only [hne, if_false] at h
    split at h
    · rename_i hle; cases h; exact ⟨hok, hle, rfl⟩
    · cases h
  · cases h

theorem evApp_other {ag : Bool} {sz bytes : Nat} {x : V} {ys : List V} {z : V} (h : evApp ag sz bytes x ys = some z) : x = .nils ∨ ∃ xs c, x = .sl xs c := by
  unfold evApp at h
  split at h
  · cases x <;> first | exact .inl rfl | exact .inr ⟨_, _, rfl⟩ | cases h
  · cases h

/-- Appended to nothing, or to a row with no room behind it. -/
theorem app_new (h : St M ι X κ w us ρ σ) {t tx ty : TypeId} {str ag : Bool} {sz bytes : Nat} (hc : chkApp P str ag sz bytes t tx = true) {vx vy : Value} {x y z : V} {ys : List V} (hx : Rep M ι vx x) (hy : Rep M ι vy y)
    (hs : srcOf str σ y = some ys) (hne : ys ≠ []) (hno : ∀ xs s, x ≠ .sl xs (.gr s)) (he : evApp ag sz bytes x ys = some z) (d : Option Nat) :
    ∃ u w' M' κ', (Builtin.append_ #[t, tx] ty #[vx, vy]).run P w = .ok u w' ∧ Ext X M ι w M' ι w' ∧ HK ι w w' ∧ St M' ι X κ' w' (putL us d u) (put ρ d z) σ := by
  obtain ⟨e, i, hel, hu, hi, his, hz, hby, hsz, hb0, hsrc⟩ := chkApp_spec hc
  have hpos : 0 < ys.length := List.length_pos_iff.2 hne
  rcases evApp_other he with rfl | ⟨xs, c, rfl⟩
  · obtain ⟨hok, hle, rfl⟩ := evApp_nils he hne
    obtain ⟨vs, hS, hrv⟩ := src_of h.wd hsrc hy hs hok
    have hys := (okRow_spec hok).1
    cases hx
    have := app_grow (ty := ty) h hel hz hby hsz (base := none) (sCap := 0) (xs := []) (olds := []) (fun w' _ => rfl) Reps.nil (by simp) hS hrv hys (by simp; exact hpos) (by simpa using hle) (by simpa using le_max hle hb0) d
    simpa using this
  · obtain ⟨hok, hcc, hxs, hle, rfl⟩ := evApp_sl he hne
    obtain ⟨vs, hS, hrv⟩ := src_of h.wd hsrc hy hs hok
    have hys := (okRow_spec hok).1
    have hfx : c = .fx := hcc.resolve_right (fun e => hno xs sz (by rw [e]))
    obtain ⟨b, off, cap, sz', us', rfl, _, hr, hm, hcap, hf⟩ := hx.inv_sl
    have hcl := hf hfx
    have hcell := h.wd.cells hm
    exact app_grow (ty := ty) h hel hz hby hsz (base := some ⟨b, off, none⟩) (sCap := cap) (xs := xs) (olds := us') (fun w' hw' => by
      refine run_firstCells (cap := cap) (by rw [hr.1, flat_len hxs]) (fun i u hu => ?_) xs.length
      have := hcell i u hu
      simpa [World.cell?, hw'] using this) hr hxs hS hrv hys (by omega) hle (le_max hle hb0) d

theorem src_nil {str : Bool} {tx : TypeId} {sz : Nat} {v : Value} {vs : List Value} {ys : List V} (h : Src P sz tx v ys.length vs w) (hn : ys = []) : Src P sz tx v 0 [] w := by
  subst hn
  have hl := h.newsLen
  have : vs = [] := List.length_eq_zero_iff.1 (by simpa using hl)
  subst this
  exact h

/-- Nothing is appended. -/
theorem app_none (h : Wd M ι X κ w σ) {t tx ty : TypeId} {str ag : Bool} {sz bytes : Nat} (hc : chkApp P str ag sz bytes t tx = true) {vx vy : Value} {x y z : V} (hx : Rep M ι vx x) (hy : Rep M ι vy y)
    (hs : srcOf str σ y = some []) (he : evApp ag sz bytes x [] = some z) : (Builtin.append_ #[t, tx] ty #[vx, vy]).run P w = .ok vx w ∧ z = x := by
  obtain ⟨e, i, hel, hu, hi, his, hz, hby, hsz, hb0, hsrc⟩ := chkApp_spec hc
  have hok : okRow ag sz [] = true := rfl
  obtain ⟨vs, hS, hrv⟩ := src_of h hsrc hy hs hok
  have hS' := src_nil (str := str) hS rfl
  subst his
  unfold evApp at he
  rw [if_pos hok] at he
  cases x <;> (try (cases he; done))
  case nils =>
    simp at he
    cases hx
    exact ⟨run_app_nothing hu hi hS' (Nat.le_refl _), he.symm⟩
  case sl xs c =>
    simp at he
    obtain ⟨b, off, cap, sz', us', rfl, _, hr, hm, hcap, hf⟩ := hx.inv_sl
    exact ⟨run_app_nothing hu hi hS' hcap, he.symm⟩

/-- Appended to a row that may grow, which is a slot's. -/
theorem app_gr (h : St M ι X κ w us ρ σ) {t tx ty : TypeId} {str ag : Bool} {sz bytes : Nat} (hc : chkApp P str ag sz bytes t tx = true) {n s : Nat} {vx vy : Value} {xs : List V} {y z : V} {ys : List V}
    (hv : us[n]? = some vx) (hxn : ρ[n]? = some (.sl xs (.gr s))) (hy : Rep M ι vy y) (hs : srcOf str σ y = some ys) (hne : ys ≠ []) (he : evApp ag sz bytes (.sl xs (.gr s)) ys = some z) (d : Option Nat) :
    ∃ u w' M' κ', (Builtin.append_ #[t, tx] ty #[vx, vy]).run P w = .ok u w' ∧ Ext X M ι w M' ι w' ∧ HK ι w w' ∧ St M' ι X κ' w' (putL us d u) (put (ρ.set n (.sl xs .no)) d z) σ := by
  obtain ⟨e, i, hel, hu, hi, his, hz, hby, hsz, hb0, hsrc⟩ := chkApp_spec hc
  obtain ⟨hok, hcc, hxs, hle, rfl⟩ := evApp_sl he hne
  have hss : s = sz := by rcases hcc with h | h <;> cases h; rfl
  subst hss
  obtain ⟨vs, hS, hrv⟩ := src_of h.wd hsrc hy hs hok
  have hys := (okRow_spec hok).1
  have hrx := h.rep.2 n _ _ hv hxn
  obtain ⟨b, off, cap, sz', us', rfl, _, hr, hm, hcap, _⟩ := hrx.inv_sl
  have hcell := h.wd.cells hm
  obtain ⟨κ1, h1, hf, hg⟩ := h.takeSlot hv hxn (rfl : ownB _ _ = some b)
  obtain ⟨g1, g2, ws, T, fz, g3, g4, g5⟩ := hg.ok xs s rfl _ _ _ rfl
  have hfl := flat_len hxs
  simp only at g2 g3 g4 g5
  have h1' : St M ι X κ1 w us (ρ.set n (.sl xs .no)) σ := h1
  by_cases hroom : xs.length + ys.length ≤ cap
  · -- there is room
    have hvl : vs.length = ys.length * s := hS.newsLen
    have hend : off + xs.length * s + vs.length ≤ ws.size := by
      rw [hvl, Nat.add_assoc, ← Nat.add_mul]
      exact Nat.le_trans (Nat.add_le_add_left (Nat.mul_le_mul_right _ hroom) _) g4
    subst his
    have hrun := run_app_room (P := P) (ty := ty) hu hi hS hroom g3 hend (fun j hj1 hj2 => g5 j (by rw [hfl]; exact hj1) hj2)
    obtain ⟨h2, hx2⟩ := h1'.fill hf g3 (s := off + xs.length * i.size) (vs := vs) (fun j hj => g2 j (by rw [hfl]; exact hj)) hend
    have hboth : ∀ q ∈ xs ++ ys, q.cells.length = i.size := fun q hq => by
      rcases List.mem_append.1 hq with h | h
      · exact hxs q h
      · exact hys q h
    have hul : us'.length = xs.length * i.size := by rw [hr.1, hfl]
    have hrep : Rep (fillM M b (off + xs.length * i.size) vs) ι (.slice (some ⟨b, off, none⟩) (xs ++ ys).length cap) (.sl (xs ++ ys) (.gr i.size)) := by
      have hrr : Reps (fillM M b (off + xs.length * i.size) vs) ι (us' ++ vs) ((xs ++ ys).flatMap V.cells) := by
        rw [List.flatMap_append]; exact (hr.mono hx2.m hx2.i).append (hrv.mono hx2.m hx2.i)
      refine .sl (xs ++ ys) (.gr i.size) b off cap i.size (us' ++ vs) hboth hrr.1 (fun j u hju => ?_) hrr.2 (by rw [List.length_append]; exact hroom) (fun e => by cases e)
      rw [List.getElem?_append] at hju
      split at hju
      · exact hx2.m.le _ _ _ (hm j u hju)
      · rename_i hge
        unfold fillM
        have hlt := (List.getElem?_eq_some_iff.1 hju).1
        rw [if_pos ⟨rfl, by omega, by omega⟩]
        rw [show off + j - (off + xs.length * i.size) = j - us'.length from by omega]
        exact hju
    obtain ⟨κ', h3⟩ := h2.putOwn hrep (fun b' hb' => by
      cases hb'
      refine ⟨⟨hf.k, hf.x, hf.i, by rw [setRow_size]; exact hf.lt⟩, ⟨fun xs' s' hx' a len cap' hv' => ?_⟩⟩
      cases hx'; cases hv'
      refine ⟨hboth, fun j hj => ?_, layA ws (off + xs.length * i.size) vs, T, fz, by rw [setRow_heap, if_pos rfl, if_pos hf.lt], by rw [layA_size]; exact g4, fun j hj1 hj2 => g5 j ?_ (by rw [layA_size] at hj2; exact hj2)⟩
      · unfold fillM
        have hbl := flat_len hboth
        rw [List.length_append, Nat.add_mul] at hbl
        simp only at hj
        rw [if_neg (by omega)]
        exact g2 j (by omega)
      · have hbl := flat_len hboth
        rw [List.length_append, Nat.add_mul] at hbl
        simp only at hj1
        omega) d
    rw [List.length_append] at h3
    exact ⟨_, _, _, κ', hrun, hx2, fun o b' hi' => by rw [setRow_heap, if_neg (fun e => by subst e; exact hf.i o hi')], h3⟩
  · exact app_grow (ty := ty) h1' hel hz hby hsz (base := some ⟨b, off, none⟩) (sCap := cap) (xs := xs) (olds := us') (fun w' hw' => by
      refine run_firstCells (cap := cap) (by rw [hr.1, flat_len hxs]) (fun i u hu => ?_) xs.length
      have := hcell i u hu
      simpa [World.cell?, hw'] using this) hr hxs hS hrv hys (by omega) hle (le_max hle hb0) d
end
end Go.Ev
