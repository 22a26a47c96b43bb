/- For any lists and names FlatOrder answers true, and its arguments read as they did. Condition: the row's listed variables read as the program's text lays them; the card ties that. -/
import Derived.Test.YtapnplljnpconaaGreatDoorFlOe
import Derived.Stop.LaidErr
import Derived.Lib.LaidTab
import Derived.Lib.LaidU8
import Derived.ChangeVars
import Derived.JoinedOf
import Derived.LaidLaws
import Derived.LaidHandle
import Derived.SizedLaws
import Derived.Stop.Joined
import Derived.Lay
import Derived.SevenTiedAt
import Derived.LaidOnce
import Derived.Test.YtapnplljnpconaaGreatDoorTie
import Derived.Test.YtapnplljnpconaaGreatDoorCards
set_option linter.unusedSimpArgs false
set_option linter.unusedVariables false
set_option linter.unusedSectionVars false
namespace Go.Proofs.YtapnplljnpconaaGreatDoor
open Go.Ev
set_option maxRecDepth 100000
set_option maxHeartbeats 4000000
section
variable {α : Type} {v : α → V} (hv : ∀ n x, V.rb n (v x) = true) {n : Nms} (hn : NmB n) {r0 : Pln → Sl α → List Int × Pln} {w0 : Sl α → Nat}
theorem Qim : ∀ (l : List (Cp α)) (p : Pln), (Qck r0 n p l).1.length = l.length
  | [], p => rfl
  | x :: r, p => by
    show (Qck r0 n (Qb3 r0 n p x.list.l).2 r).1.length + 1 = r.length + 1
    rw [Qim r]
theorem Pz.addR {p : Pln} {m k : Nat} {ss : List Stp} {ps : List UInt8} (h : Pz p m) (hs : ss.length ≤ k) (hk : 1 ≤ k) : Pz (addR p ss ps) (m + k) := by
  obtain ⟨h1, h2, h3, h4, h5⟩ := h
  refine ⟨?_, ?_, ?_, ?_, ?_⟩
  · show p.atoms.length ≤ _; omega
  · show (p.rows ++ [_]).length ≤ _
    rw [List.length_append]; show p.rows.length + 1 ≤ _; omega
  · show p.ctrs.length ≤ _; omega
  · show 0 ≤ p.steps + _; omega
  · show p.steps + _ ≤ _; omega
variable (hR : Qhw v n r0 w0) {X : V} (hX : V.rb 0 X = true)
include hv hn hR hX
theorem Wb2 (c : Co α) (hcl : c.list.l.length ≤ 800000) (ps : List UInt8) (hw : ∀ x ∈ c.list.l, x.list.l.length ≤ 800000) : ∀ (r q : List (Cp α)) (p : Pln) (m : Nat) (ss : List Stp), c.list.l = q ++ r → Pz p m → m + wC w0 r ≤ 800000 → ss.length = q.length →
    ∃ m', Pz (Qck r0 n p r).2 m' ∧ m' + r.length ≤ m + wC w0 r ∧
    l_Z5_0 (Mi cx) 1 3 [.ptr 0 0, .ptr 2 0, vSl (vCp v) c.list, .int .i64 c.list.l.length, .int .i64 q.length] [.cells (mkC n p X), .cells (coC v c), .cells (rwG 0 ss ps)] =
      some (.int .i64 (Qck r0 n p r).2.rows.length, [.cells (mkC n (addR (Qck r0 n p r).2 (ss ++ (Qck r0 n p r).1) ps) X)])
  | [], q, p, m, ss, hq, hp, hm, hs => by
    have hlen : c.list.l.length = q.length := by rw [hq]; simp
    refine ⟨m, hp, Nat.le_refl _, ?_⟩
    show _ = some (V.int .i64 p.rows.length, [O.cells (mkC n (addR p (ss ++ []) ps) X)])
    rw [List.append_nil]
    obtain ⟨p1, p2, p3, p4, p5⟩ := hp
    have hm0 : m ≤ 800000 := by omega
    have e1 : ¬ (q.length : Int) < c.list.l.length := by omega
    have cl3 : ∀ p, Cl0 [.cells (mkC n p X), .cells (coC v c), .cells (rwG 0 ss ps)] := fun p => Qae (Qar hX) (Qae (Qep hv) (Qae Qkw Qay))
    have c3 : cuO 3 [.cells (mkC n p X), .cells (coC v c), .cells (rwG 0 ss ps)] = some [.cells (mkC n p X), .cells (coC v c), .cells (rwG 0 ss ps)] := Qe6 (Qb5 (cl3 p))
    have l8 : eL [.cells (mkC n p X), .cells (coC v c), .cells (rwG 0 ss ps)] false 1 (.ptr 0 8) = some (.int .i64 p.steps) := rfl
    have s0 : stV [.cells (mkC n p X), .cells (coC v c), .cells (rwG 0 ss ps)] 1 (.ptr 2 0) (.int .i64 p.steps) (.int .i64 p.steps) = some (.undef, [.cells (mkC n p X), .cells (coC v c), .cells (rwG p.steps ss ps)]) := rfl
    have l8' : eL [.cells (mkC n p X), .cells (coC v c), .cells (rwG p.steps ss ps)] false 1 (.ptr 0 8) = some (.int .i64 p.steps) := rfl
    have l1 : eL [.cells (mkC n p X), .cells (coC v c), .cells (rwG p.steps ss ps)] false 1 (.ptr 2 1) = some (vSl vStp (slo ss)) := by
      show Option.map V.ng (some (vG vStp 2 ss)) = _
      rw [Qao, n_vG]
    have s8 : stV [.cells (mkC n p X), .cells (coC v c), .cells (rwG p.steps ss ps)] 1 (.ptr 0 8) (.int .i64 (p.steps + ss.length)) (.int .i64 (p.steps + ss.length)) = some (.undef, [.cells (mkC n { p with steps := p.steps + ss.length } X), .cells (coC v c), .cells (rwG p.steps ss ps)]) := rfl
    have ld5 : Qcv [.cells (mkC n { p with steps := p.steps + ss.length } X), .cells (coC v c), .cells (rwG p.steps ss ps)] (.ptr 0 5) = some (vG vRw 3 p.rows, [.cells ((mkC n { p with steps := p.steps + ss.length } X).set 5 (vSl vRw (slo p.rows))), .cells (coC v c), .cells (rwG p.steps ss ps)]) := Qm3 rfl
    have lr : ∀ (O1 O2 : O), eL [O1, O2, .cells (rwG p.steps ss ps)] true 3 (.ptr 2 0) = some (.agg (rwC ⟨p.steps, ss, ps⟩)) := fun O1 O2 => by
      show some (V.agg [(V.int .i64 p.steps).ng, (vG vStp 2 ss).ng, (V.str ps).ng]) = _
      rw [n_vG]; rfl
    have b1 : Qax true 3 1 (.agg [.int .i64 0, .nils, .str []]) [(0, .agg (rwC ⟨p.steps, ss, ps⟩))] = some (.sl [.agg (rwC ⟨p.steps, ss, ps⟩)] .fx) := Qox rfl Wew
    have a1 : ∀ σ, appV false true 3 48 σ (vG vRw 3 p.rows) (.sl [.agg (rwC ⟨p.steps, ss, ps⟩)] .no) = some (vG vRw 3 (p.rows ++ [⟨p.steps, ss, ps⟩])) := fun σ => by
      refine Qkq (f := vRw) (x := ⟨p.steps, ss, ps⟩) (fun _ => rfl) (fun _ => Wew) (fun _ => rfl) ?_
      unfold Qbu
      omega
    have s5 : stV [.cells ((mkC n { p with steps := p.steps + ss.length } X).set 5 (vSl vRw (slo p.rows))), .cells (coC v c), .cells (rwG p.steps ss ps)] 1 (.ptr 0 5) (vSl vRw (slo (p.rows ++ [⟨p.steps, ss, ps⟩]))) (vG vRw 3 (p.rows ++ [⟨p.steps, ss, ps⟩])) = some (.undef, [.cells (mkC n (addR p ss ps) X), .cells (coC v c), .cells (rwG p.steps ss ps)]) := Wex (show 5 < 9 by decide)
    have l5 : eL [.cells (mkC n (addR p ss ps) X), .cells (coC v c), .cells (rwG p.steps ss ps)] false 1 (.ptr 0 5) = some (vSl vRw (slo (p.rows ++ [⟨p.steps, ss, ps⟩]))) := by
      show Option.map V.ng (some (vG vRw 3 (p.rows ++ [⟨p.steps, ss, ps⟩]))) = _
      rw [Qao, n_vG]
    have e2 : (slo (p.rows ++ [(⟨p.steps, ss, ps⟩ : Rw)])).l.length = p.rows.length + 1 := by rw [Qc3, List.length_append]; rfl
    have e3 : ((p.rows.length + 1 : Nat) : Int) = (p.rows.length : Int) + 1 := by omega
    have e4 : (slo ss).l.length = ss.length := by rw [Qc3]
    have hM : V.rbs 1 (mkC n (addR p ss ps) X) = true := rbs0 (Qar hX)
    rw [u_Z5_0]
    clear hR
    generalize mkC n (addR p ss ps) X = M3 at *
    generalize (mkC n { p with steps := p.steps + ss.length } X).set 5 (vSl vRw (slo p.rows)) = M2 at *
    generalize mkC n { p with steps := p.steps + ss.length } X = M1 at *
    generalize mkC n p X = M at *
    generalize coC v c = C at *
    generalize rwC ⟨p.steps, ss, ps⟩ = RC at *
    generalize hRS : p.rows ++ [(⟨p.steps, ss, ps⟩ : Rw)] = RS at *
    generalize rwG p.steps ss ps = R1 at *
    generalize rwG 0 ss ps = R0 at *
    generalize p.steps = st at *
    simp +contextual -implicitDefEqProofs (disch := first | assumption | omega | (simp -implicitDefEqProofs only [go_sem]; try omega)) only [↓reduceIte, go_sem, iP, iN, w64, w8, w32, b_Z5_0, e1, c3, l8, s0, l8', l1, s8, ld5, lr, b1, a1, s5, l5, e2, e3, e4, Qak, n_vG, Qag, Int.add_sub_cancel]
  | x :: r, q, p, m, ss, hq, hp, hm, hs => by
    have hlen : c.list.l.length = q.length + r.length + 1 := by rw [hq]; simp; omega
    have hm' : m + (1 + wX w0 x.list.l + wC w0 r) ≤ 800000 := hm
    have hxl := hw x (by rw [hq]; simp)
    obtain ⟨hT, hrow⟩ := Wb1 hv hn hR hX c q.length (by omega) ss (by omega) ps x hxl (l_Z5_0 (Mi cx) 1 3) x.list.l [] p m [] rfl hp (by omega) (by simp only [List.length_nil]; omega)
    obtain ⟨m', h1, h2, h3⟩ := Wb2 c hcl ps hw r (q ++ [x]) (Qb3 r0 n p x.list.l).2 (m + wX w0 x.list.l) (ss ++ [⟨x.comb, [] ++ (Qb3 r0 n p x.list.l).1⟩]) (by rw [hq]; simp) hT (by omega) (by simp; omega)
    rw [show ((q ++ [x]).length : Int) = q.length + 1 by simp] at h3
    refine ⟨m', h1, ?_, ?_⟩
    · show m' + (r.length + 1) ≤ m + (1 + wX w0 x.list.l + wC w0 r)
      omega
    have eP : (Qck r0 n p (x :: r)).2 = (Qck r0 n (Qb3 r0 n p x.list.l).2 r).2 := rfl
    have eS : ss ++ (Qck r0 n p (x :: r)).1 = ss ++ [⟨x.comb, [] ++ (Qb3 r0 n p x.list.l).1⟩] ++ (Qck r0 n (Qb3 r0 n p x.list.l).2 r).1 := by
      rw [List.append_assoc]; rfl
    rw [eP, eS, ← h3, ← hrow, u_Z5_0]
    clear h1 h2 h3 eP eS hT hrow
    have hrow' : (([] : List (Sm α)).length : Int) = 0 := rfl
    rw [hrow']
    have e1 : (q.length : Int) < c.list.l.length := by omega
    have i1 : eI 2 (.int .i64 q.length) (vSl (vCp v) c.list) = some (.eptr (cpC v x) 0) := Qaz (f := vCp v) hq rfl rfl
    have i2 : ∀ σ, eL σ true 2 (.eptr (cpC v x) 0) = some (.agg (cpC v x)) := fun σ => Qdb rfl Qtm
    have y1 : (cpC v x).length = 2 := rfl
    have y2 : Qai (cpC v x) = true := Weq
    have y3 : (cpC v x).map V.ng = cpC v x := Qtm
    have l0 : ∀ (O1 O2 O3 : O) (τ : Objs), eL (O1 :: O2 :: O3 :: .cells (cpC v x) :: τ) false 1 (.ptr 3 0) = some (.int .i64 x.comb) := fun O1 O2 O3 τ => rfl
    have l1 : ∀ (O1 O2 O3 : O) (τ : Objs), eL (O1 :: O2 :: O3 :: .cells (cpC v x) :: τ) false 1 (.ptr 3 1) = some (vSl (vSm v) x.list) := fun O1 O2 O3 τ => by
      show Option.map V.ng (some (vSl (vSm v) x.list)) = _
      rw [Qao, Qak]
    have s4 : stV [.cells (mkC n p X), .cells (coC v c), .cells (rwG 0 ss ps), .cells (cpC v x), .cells [.int .i64 0, .nils]] 2 (.ptr 4 0) (.agg [.int .i64 x.comb, .nils]) (.agg [.int .i64 x.comb, .nils]) = some (.undef, [.cells (mkC n p X), .cells (coC v c), .cells (rwG 0 ss ps), .cells (cpC v x), .cells (stG x.comb [])]) := Qi3 rfl rfl rfl rfl rfl
    have f2 : ∀ k σ, fz k σ fzD (vSl (vCp v) c.list) = some (vSl (vCp v) c.list) := fun k σ => Qaw (Qaj (Qiy hv))
    have f3 : ∀ k σ, fz k σ fzD (vSl (vSm v) x.list) = some (vSl (vSm v) x.list) := fun k σ => Qaw (Qaj (Qix hv))
    clear hR
    generalize stG x.comb [] = SG at *
    generalize rwG 0 ss ps = R0 at *
    generalize mkC n p X = M at *
    generalize coC v c = C at *
    generalize cpC v x = Y at *
    simp +contextual -implicitDefEqProofs (disch := first | assumption | omega | (simp -implicitDefEqProofs only [go_sem]; try omega)) only [↓reduceIte, go_sem, iP, iN, w64, w8, w32, b_Z5_0, e1, i1, i2, l0, l1, s4, f2, f3, Qak, Qag]
theorem Wki {p : Pln} {m : Nat} (c : Co α) (hp : Pz p m) (hm : m + wR w0 c ≤ 800000) (τ : Objs) (hτ : Cl0 τ) :
    Pz (rowP r0 n p c).2 (m + wR w0 c) ∧
    E cx 55 [.ptr 0 0, .agg (coC v c)] (.cells (mkC n p X) :: τ) = some (.int .i64 (rowP r0 n p c).1, .cells (mkC n (rowP r0 n p c).2 X) :: τ) := by
  have hw1 : wR w0 c = 1 + wC w0 c.list.l := rfl
  have hcl := Qxv (w0 := w0) c.list.l
  have hcx : ∀ x ∈ c.list.l, x.list.l.length ≤ 800000 := fun x hx => by
    have h1 := Wb0 (w0 := w0) hx
    have h2 := Qxu (w0 := w0) x.list.l
    omega
  obtain ⟨m', h1, h2, h3⟩ := Wb2 hv hn hR hX c (by omega) (Qde c) hcx c.list.l [] p m [] rfl hp (by omega) rfl
  refine ⟨?_, E_on ?_ (by simp only [Qaf, Qa9, Qep hv]; rfl) (Qar hX) (Qar hX) rfl τ hτ⟩
  · have h5 : (Qck r0 n p c.list.l).1.length = c.list.l.length := Qim _ _
    have h4 := h1.addR (ss := (Qck r0 n p c.list.l).1) (ps := Qde c) (k := c.list.l.length + 1) (by omega) (by omega)
    exact h4.le (by omega)
  have h3' : l_Z5_0 (Mi cx) 1 3 [.ptr 0 0, .ptr 2 0, vSl (vCp v) c.list, .int .i64 c.list.l.length, .int .i64 0] [.cells (mkC n p X), .cells (coC v c), .cells (rwG 0 [] (Qde c))] = some (.int .i64 (rowP r0 n p c).1, [.cells (mkC n (rowP r0 n p c).2 X)]) := h3
  have b1 : boxV [.cells (mkC n p X)] (.agg (coC v c)) = some (.ptr 1 0, [.cells (mkC n p X), .cells (coC v c)]) := Qbc Wag Qor
  have l1 : ∀ (O1 : O), eL [O1, .cells (coC v c)] true 1 (.ptr 1 0) = some (.agg (coC v c)) := fun O1 => Qbt rfl rfl Qor
  have k1 := Wam hv c (by omega) (fun x hx => by have := hcx x hx; omega) [.cells (mkC n p X), .cells (coC v c)] (Qb5 (Qae (Qar hX) (Qae (Qep hv) Qay)))
  have s1 : stV [.cells (mkC n p X), .cells (coC v c), .cells [.int .i64 0, .nils, .str []]] 3 (.ptr 2 0) (.agg [.int .i64 0, .nils, .str (Qde c)]) (.agg [.int .i64 0, .nils, .str (Qde c)]) = some (.undef, [.cells (mkC n p X), .cells (coC v c), .cells (rwG 0 [] (Qde c))]) := Qi3 rfl rfl rfl rfl rfl
  have l0 : ∀ (O1 : O) (τ : Objs), eL (O1 :: .cells (coC v c) :: τ) false 1 (.ptr 1 0) = some (vSl (vCp v) c.list) := fun O1 τ => by
    show Option.map V.ng (some (vSl (vCp v) c.list)) = _
    rw [Qao, Qak]
  have f2 : ∀ k σ, fz k σ fzD (vSl (vCp v) c.list) = some (vSl (vCp v) c.list) := fun k σ => Qaw (Qaj (Qiy hv))
  clear h1 h2 h3 hR
  rw [e_Z5]
  generalize rowP r0 n p c = q at *
  generalize rwG 0 [] (Qde c) = R0 at *
  generalize mkC n q.2 X = M' at *
  generalize mkC n p X = M at *
  generalize coC v c = C at *
  generalize Qde c = ps at *
  simp +contextual -implicitDefEqProofs (disch := first | assumption | omega | (simp -implicitDefEqProofs only [go_sem]; try omega)) only [↓reduceIte, go_sem, iP, iN, w64, w8, w32, s_Z5, b1, l1, k1, s1, l0, f2, Qak, Qag, h3']
end
section
variable {α : Type} {v : α → V} (hv : ∀ n x, V.rb n (v x) = true) {n : Nms} (hn : NmB n) {r0 : Pln → Sl α → List Int × Pln} {w0 : Sl α → Nat}
variable (hR : Qhw v n r0 w0) {X : V} (hX : V.rb 0 X = true)
include hv hn hR hX
theorem Qlw (s : Sl (Co α)) (hs : s.l.length ≤ 800000) : ∀ (r q : List (Co α)) (p : Pln) (m : Nat) (is : List Int), s.l = q ++ r → Pz p m → m + wL w0 r ≤ 800000 → is.length = q.length →
    Pz (Qdx r0 n p r).2 (m + wL w0 r) ∧
    l_Z6_0 (Mi cx) 1 1 [.ptr 0 0, vG (V.int .i64) 1 is, vSl (vCo v) s, .int .i64 s.l.length, .int .i64 q.length] [.cells (mkC n p X)] =
      some (vIs (is ++ (Qdx r0 n p r).1), [.cells (mkC n (Qdx r0 n p r).2 X)])
  | [], q, p, m, is, hq, hp, hm, hi => by
    have hlen : s.l.length = q.length := by rw [hq]; simp
    refine ⟨hp, ?_⟩
    show _ = some (vIs (is ++ []), [O.cells (mkC n p X)])
    rw [List.append_nil]
    have e1 : ¬ (q.length : Int) < s.l.length := by omega
    have hM : V.rbs 1 (mkC n p X) = true := rbs0 (Qar hX)
    have f1 : ∀ k σ, fz k σ fzD (vG (V.int .i64) 1 is) = some (vG (V.int .i64) 1 is) := fun k σ => Qaw (Qkp fun _ => rfl)
    have o1 : oK false (vG (V.int .i64) 1 is) = some (vIs is) := Wey (keep := false)
    have r1 : V.rb 1 (vIs is) = true := Qg3
    rw [u_Z6_0]
    clear hR
    generalize mkC n p X = M at *
    simp +contextual -implicitDefEqProofs (disch := first | assumption | omega | (simp -implicitDefEqProofs only [go_sem]; try omega)) only [↓reduceIte, go_sem, iP, iN, w64, w8, w32, b_Z6_0, e1, f1, o1]
  | c :: r, q, p, m, is, hq, hp, hm, hi => by
    have hlen : s.l.length = q.length + r.length + 1 := by rw [hq]; simp; omega
    have hm' : m + (wR w0 c + wL w0 r) ≤ 800000 := hm
    have hz : Cl0 [.cells (coC v c)] := Qae (Qep hv) Qay
    obtain ⟨h1, h2⟩ := Wki hv hn hR hX c hp (by omega) [.cells (coC v c)] hz
    obtain ⟨h3, h4⟩ := Qlw s hs r (q ++ [c]) (rowP r0 n p c).2 (m + wR w0 c) (is ++ [(rowP r0 n p c).1]) (by rw [hq]; simp) h1 (by omega) (by simp; omega)
    rw [show ((q ++ [c]).length : Int) = q.length + 1 by simp] at h4
    refine ⟨?_, ?_⟩
    · have e : m + wL w0 (c :: r) = m + wR w0 c + wL w0 r := by
        show m + (wR w0 c + wL w0 r) = _
        omega
      rw [e]; exact h3
    have e1 : is ++ (Qdx r0 n p (c :: r)).1 = is ++ [(rowP r0 n p c).1] ++ (Qdx r0 n (rowP r0 n p c).2 r).1 := by rw [List.append_assoc]; rfl
    have e2 : (Qdx r0 n p (c :: r)).2 = (Qdx r0 n (rowP r0 n p c).2 r).2 := rfl
    rw [e1, e2, ← h4, u_Z6_0]
    clear h3 h4 e1 e2 h1
    generalize rowP r0 n p c = y at *
    have e1 : (q.length : Int) < s.l.length := by omega
    have i1 : eI 1 (.int .i64 q.length) (vSl (vCo v) s) = some (.eptr (coC v c) 0) := Qaz (f := vCo v) hq rfl rfl
    have i2 : ∀ σ, eL σ true 1 (.eptr (coC v c) 0) = some (.agg (coC v c)) := fun σ => Qdb rfl Qor
    have y1 : (coC v c).length = 1 := rfl
    have y2 : Qai (coC v c) = true := Wag
    have y3 : (coC v c).map V.ng = coC v c := Qor
    have l1 : ∀ (O1 : O), eL [O1, .cells (coC v c)] true 1 (.ptr 1 0) = some (.agg (coC v c)) := fun O1 => Qbt rfl rfl Qor
    have a1 : ∀ σ, appV false false 1 8 σ (vG (V.int .i64) 1 is) (.sl [.int .i64 y.1] .no) = some (vG (V.int .i64) 1 (is ++ [y.1])) := fun σ => by
      refine Qkq (fun _ => rfl) (fun _ => rfl) (fun _ => rfl) ?_
      unfold Qbu
      omega
    have c1 : cuO 1 [.cells (mkC n y.2 X), .cells (coC v c)] = some [.cells (mkC n y.2 X)] := Qeu (rbs0 (Qar hX))
    have f1 : ∀ k σ is, fz k σ fzD (vG (V.int .i64) 1 is) = some (vG (V.int .i64) 1 is) := fun k σ is => Qaw (Qkp fun _ => rfl)
    have f2 : ∀ k σ, fz k σ fzD (vSl (vCo v) s) = some (vSl (vCo v) s) := fun k σ => Qaw (Qaj (Qej hv))
    clear hR hz
    generalize mkC n y.2 X = M' at *
    generalize mkC n p X = M at *
    generalize coC v c = C at *
    generalize is ++ [y.1] = IS at *
    simp +contextual -implicitDefEqProofs (disch := first | assumption | omega | (simp -implicitDefEqProofs only [go_sem]; try omega)) only [↓reduceIte, go_sem, iP, iN, w64, w8, w32, b_Z6_0, e1, i1, i2, l1, h2, a1, c1, f1, f2, Qak]
end
def rwsN (n : Nms) : (k : Nat) → Pln → Sl (Cx k) → List Int × Pln
  | 0, p, s => ([], p)
  | k + 1, p, s => Qdx (rwsN n k) n p s.l
def wN : (k : Nat) → Sl (Cx k) → Nat
  | 0, s => 0
  | k + 1, s => wL (wN k) s.l
theorem Qoy {α : Type} {r0 : Pln → Sl α → List Int × Pln} {n : Nms} : ∀ (l : List (Co α)) (p : Pln), (Qdx r0 n p l).1.length = l.length
  | [], p => rfl
  | c :: r, p => by
    show (Qdx r0 n (rowP r0 n p c).2 r).1.length + 1 = r.length + 1
    rw [Qoy r]
theorem We7 {α : Type} {v : α → V} (hv : ∀ n x, V.rb n (v x) = true) {n : Nms} (hn : NmB n) {r0 : Pln → Sl α → List Int × Pln} {w0 : Sl α → Nat} (hR : Qhw v n r0 w0) :
    Qhw (vCo v) n (fun p s => Qdx r0 n p s.l) (fun s => wL w0 s.l) := fun p s m X hX hp hm => by
  have hs := Wbz (w0 := w0) s.l
  have hm' : m + wL w0 s.l ≤ 800000 := hm
  obtain ⟨h1, h2⟩ := Qlw hv hn hR hX s (by omega) s.l [] p m [] rfl hp hm' rfl
  refine ⟨?_, h1, ?_⟩
  · have h2' : l_Z6_0 (Mi cx) 1 1 [.ptr 0 0, .nils, vSl (vCo v) s, .int .i64 s.l.length, .int .i64 0] [.cells (mkC n p X)] = some (vIs (Qdx r0 n p s.l).1, [.cells (mkC n (Qdx r0 n p s.l).2 X)]) := h2
    have hM : V.rbs 1 (mkC n p X) = true := rbs0 (Qar hX)
    have f2 : ∀ k' σ, fz k' σ fzD (vSl (vCo v) s) = some (vSl (vCo v) s) := fun k' σ => Qaw (Qaj (Qej hv))
    rw [e_Z6]
    clear hR h2 h1
    simp only
    generalize Qdx r0 n p s.l = y at *
    generalize mkC n y.2 X = M' at *
    generalize mkC n p X = M at *
    simp +contextual -implicitDefEqProofs (disch := first | assumption | omega | (simp -implicitDefEqProofs only [go_sem]; try omega)) only [↓reduceIte, go_sem, iP, iN, w64, w8, w32, s_Z6, Qag, f2, Qak, h2']
  · show (Qdx r0 n p s.l).1.length ≤ wL w0 s.l
    rw [Qoy]
    exact hs
theorem Qkx {n : Nms} (hn : NmB n) : ∀ k : Nat, Qhw (vCx k) n (rwsN n k) (wN k)
  | 0 => fun p s m X hX hp hm => by
    have e : s.l = [] := sl0 (α := Cx 0) (fun x => Empty.elim x) s
    refine ⟨?_, hp, Nat.zero_le _⟩
    show _ = some (V.nils, [O.cells (mkC n p X)])
    have hM : V.rbs 1 (mkC n p X) = true := rbs0 (Qar hX)
    have e2 : (s.l.length : Int) = 0 := by rw [e]; rfl
    have f2 : ∀ k σ, fz k σ fzD (vSl (vCx 0) s) = some (vSl (vCx 0) s) := fun k σ => Qaw (Qaj (Qkd 0))
    rw [e_Z6]
    generalize mkC n p X = M at *
    have u : l_Z6_0 (Mi cx) 1 1 [.ptr 0 0, .nils, vSl (vCx 0) s, .int .i64 0, .int .i64 0] [.cells M] = some (.nils, [.cells M]) := by
      rw [u_Z6_0]
      simp +contextual -implicitDefEqProofs (disch := first | assumption | omega | (simp -implicitDefEqProofs only [go_sem]; try omega)) only [↓reduceIte, go_sem, iP, iN, w64, w8, w32, b_Z6_0, e2]
    simp +contextual -implicitDefEqProofs (disch := first | assumption | omega | (simp -implicitDefEqProofs only [go_sem]; try omega)) only [↓reduceIte, go_sem, iP, iN, w64, w8, w32, s_Z6, Qag, e2, f2, Qak, u]
  | k + 1 => We7 (Qkd k) hn (Qkx hn k)
end Go.Proofs.YtapnplljnpconaaGreatDoor
namespace Go.Ev
section
variable {α : Type} {f : α → V} {sz : Nat} {l : List α} {φ φ' ψ ψ' : Objs} {cs ds : List V} {o off : Nat}
theorem Qsa {x : V} (h : cs[off]? = some x) : (cs.drop off).take 1 = [x] := by
  obtain ⟨hl, e⟩ := List.getElem?_eq_some_iff.1 h
  rw [List.drop_eq_getElem_cons hl, e]; rfl
theorem Wan (ho : φ.length = o) (ho' : φ'.length = o) (h : cs[off]? = some (vG f sz l)) (hd : ds[off]? = some (vK f l)) (hlen : cs.length = ds.length) :
    Qgx [Qct (φ ++ .cells cs :: ψ) (.ptr o off)] (φ ++ .cells (cs.set off (vSl f (slo l))) :: ψ) (φ' ++ .cells ds :: ψ') = some (φ' ++ .cells (ds.set off (vSl f (slo l))) :: ψ') := by
  have hl := Qqd h
  unfold Qct
  simp only [Qfa ho, Option.bind_some, h]
  cases l with
  | nil =>
    have hd' : ds[off]? = some V.nils := hd
    have e2 : ds.set off .nils = ds := by
      obtain ⟨hl', e⟩ := List.getElem?_eq_some_iff.1 hd'
      rw [← e]; exact List.set_getElem_self _
    show (if (stable (φ ++ .cells (cs.set off .nils) :: ψ) (φ' ++ .cells ds :: ψ') (.same true o off 1) && true) = true then some (φ' ++ O.cells ds :: ψ') else none) = some (φ' ++ O.cells (ds.set off .nils) :: ψ')
    have e : stable (φ ++ .cells (cs.set off .nils) :: ψ) (φ' ++ .cells ds :: ψ') (.same true o off 1) = true := by
      have q1 : ((cs.set off V.nils).drop off).take 1 = [V.nils] := Qsa (List.getElem?_set_self hl)
      have q2 : (ds.drop off).take 1 = [V.nils] := Qsa hd'
      simp only [stable, Qfa ho, Qfa ho', List.length_set, hlen, decide_true, Bool.true_and, if_true, q1, q2]
      exact V.beqs_refl _
    rw [e, e2]; rfl
  | cons x r =>
    show (Qeb (φ' ++ .cells ds :: ψ') [(o, off)]).bind _ = _
    have hd' : ds[off]? = some (V.sl ((x :: r).map f) .lk) := hd
    unfold Qeb
    simp only [Qfa ho', hd']
    show (Qeb ((φ' ++ .cells ds :: ψ').set o _) []).bind _ = _
    rw [Qlu ho']
    rfl
end
end Go.Ev
namespace Go.Proofs.YtapnplljnpconaaGreatDoor
open Go.Ev
set_option maxRecDepth 100000
set_option maxHeartbeats 4000000
def Qi8 (n : Nms) {k : Nat} : Pln → List (List Int) → Nat → List (Sl (Cx k)) → Sum (Pln × List (List Int)) Nat
  | p, L, i, [] => .inl (p, L)
  | p, L, i, s :: r => if chkS n s = 0 then Qi8 n (rwsN n k p s).2 (L ++ [(rwsN n k p s).1]) (i + 1) r else .inr i
def plC (p : Pln) (L : List (List Int)) : List V := [vSl vAtm (slo p.atoms), vSl vRw (slo p.rows), vSl vCtr (slo p.ctrs), vSl vIs (slo L), .int .i64 p.steps]
def plZ : List V := [.nils, .nils, .nils, .nils, .int .i64 0]
def p0 : Pln := ⟨[], [], [], 0⟩
def errW (i : Nat) (c : Int) : V := .ifc 98 (.eptr [.int .i64 1, .int .i64 i, errZ c] 0)
theorem Qxx {k : Nat} {c : Int} : V.rb k (errZ c) = true := by unfold errZ; split <;> rfl
theorem Qm7 {k i : Nat} {c : Int} : V.rb k (errW i c) = true := by
  show V.rbs k [.int .i64 1, .int .i64 i, errZ c] = true
  simp only [Qaf, Qdi, Qxx, Qby, Bool.and_true]
def wA {k : Nat} : List (Sl (Cx k)) → Nat
  | [] => 0
  | s :: r => wN k s + wA r
def Wao (n : Nms) {k : Nat} (L : List (Sl (Cx k))) (x : V) : Prop :=
  (okN n = false ∧ ∃ e t y, x = .tup [.agg plZ, e] ∧ e = .ifc t y) ∨ (okN n = true ∧ ((∃ i, Qi8 n p0 [] 0 L = .inr i ∧ ∃ t y, x = .tup [.agg plZ, .ifc t y]) ∨ ∃ q, Qi8 n p0 [] 0 L = .inl q ∧ x = .tup [.agg (plC q.1 q.2), .nili]))
theorem Qb4 {k : Nat} {p : Pln} {L : List (List Int)} : V.rbs k (plC p L) = true := by
  simp only [plC, Qaf, Qdi, Qby, Qaj (fun n x => Qe8 (n := n) (a := x)), Qaj (fun n x => Qxi (n := n) (r := x)), Qaj (fun n x => Wbs (n := n) (c := x)), Qaj (fun n x => Qg3 (n := n) (l := x)), Bool.and_true]
theorem We8 {p : Pln} {L : List (List Int)} : Qai (plC p L) = true := by simp only [plC, Qcf, Qdm, Qdg, Qc2, Bool.and_true]
theorem Qtp {p : Pln} {L : List (List Int)} : (plC p L).map V.ng = plC p L := by simp only [plC, List.map_cons, List.map_nil, Qnx, Qak]
theorem Wih (i : Nat) (c : Int) (σ : Objs) (hσ : Wf σ) : E cx 31 [.int .i64 1, .int .i64 i, errZ c] σ = some (errW i c, σ) := by
  refine Qcm Qci ?_ (by simp only [Qaf, Qdi, Qxx, Qby, Bool.and_true]) Qm7 σ hσ
  rw [e_Zx]
  unfold errW errZ
  split <;> simp +contextual -implicitDefEqProofs (disch := first | assumption | omega | (simp -implicitDefEqProofs only [go_sem]; try omega)) only [↓reduceIte, go_sem, iP, iN, w64, w8, w32, s_Zx, errN]
section
variable {n : Nms} (hn : NmB n) {k : Nat}
include hn
theorem Qsb (LL : Sl (Sl (Cx k))) (hLL : LL.l.length ≤ 4) (hB : ∀ s ∈ LL.l, Bd 41 k s) : ∀ (r q : List (Sl (Cx k))) (p : Pln) (m : Nat) (L : List (List Int)), LL.l = q ++ r → Pz p m → m + wA r ≤ 800000 → L.length = q.length →
    l_Z10_0 (Mi cx) 0 3 [.ptr 0 0, .ptr 1 0, .ptr 2 0, vSl (vSl (vCx k)) LL, .int .i64 LL.l.length, .int .i64 q.length] [.cells (Qaa n), .cells plZ, .cells (mkC n p (vG vIs 1 L))] =
      some (match Qi8 n p L q.length r with
        | .inl y => .tup [.agg (plC y.1 y.2), .nili]
        | .inr i => .tup [.agg plZ, errW i (chkS n (LL.l.getD i .nil))], [])
  | [], q, p, m, L, hq, hp, hm, hL => by
    have hlen : LL.l.length = q.length := by rw [hq]; simp
    have e1 : ¬ (q.length : Int) < LL.l.length := by omega
    show _ = some (V.tup [V.agg (plC p L), V.nili], [])
    have cl3 : Cl0 [.cells (Qaa n), .cells plZ, .cells (mkC n p (vG vIs 1 L))] := Qae Qal (Qae rfl (Qae (Qar (Qkp fun x => Qg3)) Qay))
    have c3 : cuO 3 [.cells (Qaa n), .cells plZ, .cells (mkC n p (vG vIs 1 L))] = some [.cells (Qaa n), .cells plZ, .cells (mkC n p (vG vIs 1 L))] := Qe6 (Qb5 cl3)
    have l1 : eL [.cells (Qaa n), .cells plZ, .cells (mkC n p (vG vIs 1 L))] true 5 (.ptr 2 4) = some (.agg (plC p L)) := by
      show some (V.agg [(vG vAtm 7 p.atoms).ng, (vG vRw 3 p.rows).ng, (vG vCtr 3 p.ctrs).ng, (vG vIs 1 L).ng, (V.int .i64 p.steps).ng]) = _
      rw [n_vG, n_vG, n_vG, n_vG]; rfl
    have s1 : stV [.cells (Qaa n), .cells plZ, .cells (mkC n p (vG vIs 1 L))] 5 (.ptr 1 0) (.agg (plC p L)) (.agg (plC p L)) = some (.undef, [.cells (Qaa n), .cells (plC p L), .cells (mkC n p (vG vIs 1 L))]) := Qi3 rfl rfl rfl We8 Qtp
    have r1 : ∀ (O1 O3 : O), resC [O1, .cells (plC p L), O3] true 5 (.ptr 1 0) = some (.agg (plC p L)) := fun O1 O3 => by
      rw [Qxo]
      show Ev.part true 5 (plC p L) 0 = _
      exact Qow rfl Qtp
    have e0 : V.rb 0 (.tup [.agg (plC p L), .nili]) = true := by
      show V.rbs 0 [.agg (plC p L), .nili] = true
      simp only [Qaf, Qa9, Qb4]; rfl
    rw [u_Z10_0]
    generalize plC p L = P at *
    generalize mkC n p (vG vIs 1 L) = M at *
    generalize Qaa n = N at *
    simp +contextual -implicitDefEqProofs (disch := first | assumption | omega | (simp -implicitDefEqProofs only [go_sem]; try omega)) only [↓reduceIte, go_sem, iP, iN, w64, w8, w32, b_Z10_0, e1, c3, l1, s1, r1]
  | s :: r, q, p, m, L, hq, hp, hm, hL => by
    have hlen : LL.l.length = q.length + r.length + 1 := by rw [hq]; simp; omega
    have hm' : m + (wN k s + wA r) ≤ 800000 := hm
    have e1 : (q.length : Int) < LL.l.length := by omega
    have i1 : eI 1 (.int .i64 q.length) (vSl (vSl (vCx k)) LL) = some (.eptr [vSl (vCx k) s] 0) := by
      have := Qaz (f := vSl (vCx k)) (sz := 1) (k := .i64) hq rfl (by rw [Qcp]; rfl)
      rw [Qcp] at this
      exact this
    have i2 : ∀ σ, eL σ false 1 (.eptr [vSl (vCx k) s] 0) = some (vSl (vCx k) s) := fun σ => by
      show Option.map V.ng (some (vSl (vCx k) s)) = _
      rw [Qao, Qak]
    have l0 : ∀ τ : Objs, eL (.cells (Qaa n) :: τ) true 4 (.ptr 0 0) = some (.agg (Qaa n)) := fun τ => Qbt rfl rfl no_n
    have cl3 : ∀ p X, V.rb 0 X = true → Cl0 [.cells (Qaa n), .cells plZ, .cells (mkC n p X)] := fun p X hX => Qae Qal (Qae rfl (Qae (Qar hX) Qay))
    have rbL : ∀ L : List (List Int), V.rb 0 (vG vIs 1 L) = true := fun L => Qkp fun x => Qg3
    have w3 := Qb5 (cl3 p _ (rbL L))
    have k1 := Qto hn s (d := 41) (by omega) (hB s (by rw [hq]; simp)) _ w3
    have c3 : ∀ p L, cuO 3 [.cells (Qaa n), .cells plZ, .cells (mkC n p (vG vIs 1 L))] = some [.cells (Qaa n), .cells plZ, .cells (mkC n p (vG vIs 1 L))] := fun p L => Qe6 (Qb5 (cl3 p _ (rbL L)))
    have c3p := c3 p L
    have f2 : ∀ k' σ, fz k' σ fzD (vSl (vSl (vCx k)) LL) = some (vSl (vSl (vCx k)) LL) := fun k' σ => Qaw (Qaj fun _ _ => Qea)
    rw [u_Z10_0]
    unfold Qi8
    by_cases c1 : chkS n s = 0
    · rw [if_pos c1]
      have k1' : E cx 30 [vSl (vCx k) s, .agg (Qaa n)] [.cells (Qaa n), .cells plZ, .cells (mkC n p (vG vIs 1 L))] = some (.nili, [.cells (Qaa n), .cells plZ, .cells (mkC n p (vG vIs 1 L))]) := by
        rw [k1, c1]; rfl
      obtain ⟨q0, q1, q2⟩ := Qkx hn k p s m (vK vIs L) (Wal fun x => Qg3) hp (by omega)
      have ih := Qsb LL hLL hB r (q ++ [s]) (rwsN n k p s).2 (m + wN k s) (L ++ [(rwsN n k p s).1]) (by rw [hq]; simp) q1 (by omega) (by simp; omega)
      rw [show ((q ++ [s]).length : Int) = q.length + 1 by simp, show (q ++ [s]).length = q.length + 1 by simp] at ih
      have k2 : E cx 32 [.ptr 2 0, vSl (vCx k) s] [.cells (Qaa n), .cells plZ, .cells (mkC n p (vK vIs L))] = some (vIs (rwsN n k p s).1, [.cells (Qaa n), .cells plZ, .cells (mkC n (rwsN n k p s).2 (vK vIs L))]) :=
        E_at q0 (by simp only [Qaf, Qea]; rfl) (Qar (Wal fun x => Qg3)) (Qar (Wal fun x => Qg3)) Qg3 [.cells (Qaa n), .cells plZ] (Qae Qal (Qae rfl Qay))
      have ld : Qcv [.cells (Qaa n), .cells plZ, .cells (mkC n p (vG vIs 1 L))] (.ptr 2 7) = some (vG vIs 1 L, [.cells (Qaa n), .cells plZ, .cells (mkC n p (vSl vIs (slo L)))]) := Qm6 (φ := [_, _]) (cs := mkC n p (vG vIs 1 L)) rfl rfl
      have lk : Qj4 [Qct [.cells (Qaa n), .cells plZ, .cells (mkC n p (vG vIs 1 L))] (.ptr 2 7)] [.cells (Qaa n), .cells plZ, .cells (mkC n p (vSl vIs (slo L)))] = some [.cells (Qaa n), .cells plZ, .cells (mkC n p (vK vIs L))] := Qxr (sz := 1) (φ := [_, _]) (cs := mkC n p (vG vIs 1 L)) (off := 7) rfl rfl
      generalize rwsN n k p s = y at *
      have op : Qgx [Qct [.cells (Qaa n), .cells plZ, .cells (mkC n p (vG vIs 1 L))] (.ptr 2 7)] [.cells (Qaa n), .cells plZ, .cells (mkC n p (vSl vIs (slo L)))] [.cells (Qaa n), .cells plZ, .cells (mkC n y.2 (vK vIs L))] = some [.cells (Qaa n), .cells plZ, .cells (mkC n y.2 (vSl vIs (slo L)))] := by
        exact Wan (sz := 1) (φ := [_, _]) (φ' := [_, _]) (cs := mkC n p (vG vIs 1 L)) (ds := mkC n y.2 (vK vIs L)) (off := 7) rfl rfl rfl rfl rfl
      have a1 : ∀ σ, appV false false 1 24 σ (vG vIs 1 L) (.sl [vIs y.1] .no) = some (vG vIs 1 (L ++ [y.1])) := fun σ => by
        refine Qkq (f := vIs) (fun _ => by rw [Qcp]; rfl) (fun x => by rw [Qcp, Qcf, Qc2]; rfl) (fun _ => Qrr) ?_
        unfold Qbu
        omega
      have b1 : Qax false 1 1 .nils [(0, vIs y.1)] = some (.sl [vIs y.1] .fx) := by
        generalize hs : slo y.1 = z
        unfold vIs
        rw [hs]
        cases z <;> rfl
      have s1 : stV [.cells (Qaa n), .cells plZ, .cells (mkC n y.2 (vSl vIs (slo L)))] 1 (.ptr 2 7) (vSl vIs (slo (L ++ [y.1]))) (vG vIs 1 (L ++ [y.1])) = some (.undef, [.cells (Qaa n), .cells plZ, .cells (mkC n y.2 (vG vIs 1 (L ++ [y.1])))]) := We4 (φ := [_, _]) (cs := mkC n y.2 (vSl vIs (slo L))) rfl (show 7 < 9 by decide)
      have c3q := c3 y.2 (L ++ [y.1])
      have hZ : V.rb 0 (vSl vIs (slo L)) = true := Qaj fun n x => Qg3
      clear c3 cl3 k1 rbL
      generalize Qi8 n y.2 (L ++ [y.1]) (q.length + 1) r = RES at *
      generalize mkC n y.2 (vG vIs 1 (L ++ [y.1])) = M5 at *
      generalize mkC n y.2 (vSl vIs (slo L)) = M4 at *
      generalize mkC n y.2 (vK vIs L) = M3 at *
      generalize mkC n p (vK vIs L) = M2 at *
      generalize mkC n p (vSl vIs (slo L)) = M1 at *
      generalize mkC n p (vG vIs 1 L) = M at *
      generalize Qaa n = N at *
      generalize L ++ [y.1] = L' at *
      generalize plZ = Z at *
      simp +contextual -implicitDefEqProofs (disch := first | assumption | omega | (simp -implicitDefEqProofs only [go_sem]; try omega)) only [↓reduceIte, go_sem, iP, iN, w64, w8, w32, b_Z10_0, e1, i1, i2, l0, k1', k2, ld, lk, op, a1, b1, s1, c3q, f2, Qak, n_vG, ih]
    · rw [if_neg c1]
      have eG : LL.l.getD q.length .nil = s := by rw [hq]; simp
      simp only [eG]
      have k2 := Wih q.length (chkS n s) _ w3
      have ne : errZ (chkS n s) = errN (chkS n s) := by unfold errZ; rw [if_neg c1]
      rw [ne] at k1 k2
      unfold errN at k1 k2
      have s1 : stV [.cells (Qaa n), .cells plZ, .cells (mkC n p (vG vIs 1 L))] 5 (.ptr 1 0) (.agg plZ) (.agg plZ) = some (.undef, [.cells (Qaa n), .cells plZ, .cells (mkC n p (vG vIs 1 L))]) := rfl
      have b1 : Qa2 [.nils, .nils, .nils, .nils, .int .i64 0] [] = some (.agg plZ) := rfl
      have r1 : ∀ (O1 O3 : O), resC [O1, .cells plZ, O3] true 5 (.ptr 1 0) = some (.agg plZ) := fun O1 O3 => rfl
      have fW : ∀ σ, fz 3 σ fzD (errW q.length (chkS n s)) = some (errW q.length (chkS n s)) := fun σ => Qaw Qm7
      have nW : (errW q.length (chkS n s)).ng = errW q.length (chkS n s) := rfl
      have e0 : V.rb 0 (.tup [.agg plZ, errW q.length (chkS n s)]) = true := by
        show V.rbs 0 [.agg plZ, errW q.length (chkS n s)] = true
        simp only [Qaf, Qa9, Qm7]; rfl
      clear c3 cl3 rbL
      generalize errW q.length (chkS n s) = W at *
      generalize mkC n p (vG vIs 1 L) = M at *
      generalize Qaa n = N at *
      generalize plZ = Z at *
      simp +contextual -implicitDefEqProofs (disch := first | assumption | omega | (simp -implicitDefEqProofs only [go_sem]; try omega)) only [↓reduceIte, go_sem, iP, iN, w64, w8, w32, b_Z10_0, e1, i1, i2, l0, k1, k2, b1, s1, r1, c3p, fW, nW, f2, Qak]
theorem Wii (LL : Sl (Sl (Cx k))) (hLL : LL.l.length ≤ 4) (hB : ∀ s ∈ LL.l, Bd 41 k s) (hw : wA LL.l ≤ 800000) : ∃ x, Wao n LL.l x ∧ ∀ σ, Wf σ → E cx 8 [vSl (vSl (vCx k)) LL, .agg (Qaa n)] σ = some (x, σ) := by
  have h1 : boxV [] (.agg (Qaa n)) = some (.ptr 0 0, [.cells (Qaa n)]) := Qbc ok_n no_n
  have l0 : ∀ τ : Objs, eL (.cells (Qaa n) :: τ) true 4 (.ptr 0 0) = some (.agg (Qaa n)) := fun τ => Qbt rfl rfl no_n
  have w2 : Wf [.cells (Qaa n), .cells [.nils, .nils, .nils, .nils, .int .i64 0]] := Qb5 (Qae Qal (Qae rfl Qay))
  have k1 := Qi1 hn _ w2
  have k1' : E cx 29 [.agg (Qaa n)] [.cells (Qaa n), .cells [.nils, .nils, .nils, .nils, .int .i64 0]] = _ := k1
  have hargs : V.rbs 0 [vSl (vSl (vCx k)) LL, .agg (Qaa n)] = true := by simp only [Qaf, Qa9, Qal, Qaj (fun _ _ => Qea (k := k))]; rfl
  clear k1
  cases c1 : okN n with
  | false =>
    refine ⟨.tup [.agg plZ, errN 11], .inl ⟨c1, _, _, _, rfl, rfl⟩, fun σ hσ => Qcm Qci ?_ hargs rfl σ hσ⟩
    rw [c1, if_neg (by decide)] at k1'
    unfold errN at *
    rw [e_Z10]
    unfold plZ
    generalize Qaa n = N at *
    simp +contextual -implicitDefEqProofs (disch := first | assumption | omega | (simp -implicitDefEqProofs only [go_sem]; try omega)) only [↓reduceIte, go_sem, iP, iN, w64, w8, w32, s_Z10, h1, l0, k1']
  | true =>
    rw [c1, if_pos rfl] at k1'
    have lp := Qsb hn LL hLL hB LL.l [] p0 0 [] rfl ⟨Nat.le_refl _, Nat.le_refl _, Nat.le_refl _, Int.le_refl _, Int.le_refl _⟩ (by omega) rfl
    have lp' : l_Z10_0 (Mi cx) 0 3 [.ptr 0 0, .ptr 1 0, .ptr 2 0, vSl (vSl (vCx k)) LL, .int .i64 LL.l.length, .int .i64 0] [.cells (Qaa n), .cells [.nils, .nils, .nils, .nils, .int .i64 0], .cells (mkC n p0 .nils)] = _ := lp
    clear lp
    have b1 : Qa2 [.bool false, .str [], .nils, .nils, .nils, .nils, .nils, .nils, .int .i64 0] [(0, 4, .agg (Qaa n))] = some (.agg (mkC n p0 .nils)) := by
      rw [Qmf, Qmg (by rfl) (by decide) (by rw [Qbz]; exact ok_n), Qps, Qbz, no_n]
      rfl
    have o1 : Qai (mkC n p0 .nils) = true := by
      show Qai [.bool n.has, .str n.dflt, Qc6 n.pres, Qc6 n.spaces, .nils, .nils, .nils, .nils, .int .i64 0] = true
      simp only [Qcf, Qdm, Qdg, Qhk, Qhj, Qc2, Bool.and_true]; rfl
    have n1 : (mkC n p0 .nils).map V.ng = mkC n p0 .nils := by
      show List.map V.ng [.bool n.has, .str n.dflt, Qc6 n.pres, Qc6 n.spaces, .nils, .nils, .nils, .nils, .int .i64 0] = [.bool n.has, .str n.dflt, Qc6 n.pres, Qc6 n.spaces, .nils, .nils, .nils, .nils, .int .i64 0]
      simp only [List.map_cons, List.map_nil, Qnx, Quw, Qq6, Qak]; rfl
    have h2 : boxV [.cells (Qaa n), .cells [.nils, .nils, .nils, .nils, .int .i64 0]] (.agg (mkC n p0 .nils)) = some (.ptr 2 0, [.cells (Qaa n), .cells [.nils, .nils, .nils, .nils, .int .i64 0], .cells (mkC n p0 .nils)]) := Qbc o1 n1
    have f2 : ∀ k' σ, fz k' σ fzD (vSl (vSl (vCx k)) LL) = some (vSl (vSl (vCx k)) LL) := fun k' σ => Qaw (Qaj fun _ _ => Qea)
    have fin : ∀ x, Wao n LL.l x → V.rb 0 x = true → l_Z10_0 (Mi cx) 0 3 [.ptr 0 0, .ptr 1 0, .ptr 2 0, vSl (vSl (vCx k)) LL, .int .i64 LL.l.length, .int .i64 0] [.cells (Qaa n), .cells [.nils, .nils, .nils, .nils, .int .i64 0], .cells (mkC n p0 .nils)] = some (x, []) → ∃ x, Wao n LL.l x ∧ ∀ σ, Wf σ → E cx 8 [vSl (vSl (vCx k)) LL, .agg (Qaa n)] σ = some (x, σ) := by
      intro x hx hrx hl
      refine ⟨x, hx, fun σ hσ => Qcm Qci ?_ hargs hrx σ hσ⟩
      rw [e_Z10]
      clear lp' hx
      generalize mkC n p0 .nils = M at *
      generalize Qaa n = N at *
      simp +contextual -implicitDefEqProofs (disch := first | assumption | omega | (simp -implicitDefEqProofs only [go_sem]; try omega)) only [↓reduceIte, go_sem, iP, iN, w64, w8, w32, s_Z10, h1, l0, k1', b1, h2, f2, Qak, Qag, hl]
    cases c2 : Qi8 n p0 [] 0 LL.l with
    | inl q =>
      refine fin _ (.inr ⟨c1, .inr ⟨q, c2, rfl⟩⟩) (by show V.rbs 0 [.agg (plC q.1 q.2), .nili] = true; simp only [Qaf, Qa9, Qb4]; rfl) ?_
      rw [lp']
      have c2' : Qi8 n p0 [] ([] : List (Sl (Cx k))).length LL.l = .inl q := c2
      rw [c2']
    | inr i =>
      have c2' : Qi8 n p0 [] ([] : List (Sl (Cx k))).length LL.l = .inr i := c2
      rw [c2'] at lp'
      have hx : Wao n LL.l (.tup [.agg plZ, errW i (chkS n (LL.l.getD i .nil))]) := .inr ⟨c1, .inl ⟨i, c2, _, _, rfl⟩⟩
      refine fin (.tup [.agg plZ, errW i (chkS n (LL.l.getD i .nil))]) hx ?_ lp'
      show V.rbs 0 [.agg plZ, errW i _] = true
      simp only [Qaf, Qa9, Qm7]; rfl
end
end Go.Proofs.YtapnplljnpconaaGreatDoor
namespace Go.Proofs.YtapnplljnpconaaGreatDoor
open Go.Ev
set_option maxRecDepth 100000
set_option maxHeartbeats 4000000
def OkK (A : Nat) (C : List Ctr) (row : Int) (k i : Int) (len : Nat) : Prop := len ≤ 800000 ∧
  ((k = 1 ∧ 0 ≤ i ∧ i < A) ∨ (k = 2 ∧ 0 ≤ i ∧ i < row) ∨ (k = 3 ∧ len = 1) ∨ (k = 5 ∧ 0 ≤ i ∧ ∃ c, C[i.toNat]? = some c ∧ c.rows.length ≤ 800000 ∧ ∀ r ∈ c.rows, 0 ≤ r ∧ r < row) ∨ k = 4 ∨ k = 6 ∨ k = 7)
def OkD (A : Nat) (C : List Ctr) (row : Int) : Nat → Trm → Prop
  | 0, _ => False
  | d + 1, .mk k i ts => OkK A C row k i ts.length ∧ ∀ t ∈ ts, OkD A C row d t
section
variable {p : Pln} {L : List (List Int)} {row : Int}
theorem Qoz (ts : List Trm) (T : List V) (hT : V.rbs 0 T = true) (i : Int) (r1 : Rk) (rs : List Int) (hrs : rs.length ≤ 800000) (hr : ∀ r ∈ rs, 0 ≤ r ∧ r < row) : ∀ (r q : List Int), rs = q ++ r →
    l_Z1p_1 (Mi cx) 0 1 r1 2 [.int .i64 row, .ptr 0 0, .ptr 1 0, .bool true, vSl vT (slo ts), .int .i64 ts.length, .int .i64 i, vIs rs, .int .i64 rs.length, .int .i64 q.length] [.cells (plC p L), .cells T] =
      j_Z1p_0 (Mi cx) 0 1 r1 (.int .i64 row) (.ptr 0 0) (.ptr 1 0) (.bool true) (vSl vT (slo ts)) (.int .i64 ts.length) (.int .i64 i) [.cells (plC p L), .cells T]
  | [], q, hq => by
    have hlen : rs.length = q.length := by rw [hq]; simp
    have e1 : ¬ (q.length : Int) < rs.length := by omega
    have cl : Cl0 [.cells (plC p L), .cells T] := Qae Qb4 (Qae hT Qay)
    have c2 : cuO 2 [.cells (plC p L), .cells T] = some [.cells (plC p L), .cells T] := Qe6 (Qb5 cl)
    have f1 : ∀ σ, fz 2 σ fzD (vSl vT (slo ts)) = some (vSl vT (slo ts)) := fun σ => Qaw (Qaj fun n x => Qg2 x)
    rw [u_Z1p_1]
    generalize plC p L = P at *
    simp +contextual -implicitDefEqProofs (disch := first | assumption | omega | (simp -implicitDefEqProofs only [go_sem]; try omega)) only [↓reduceIte, go_sem, iP, iN, w64, w8, w32, b_Z1p_1, e1, c2, f1]
  | x :: r, q, hq => by
    have hlen : rs.length = q.length + r.length + 1 := by rw [hq]; simp; omega
    have e1 : (q.length : Int) < rs.length := by omega
    obtain ⟨hx1, hx2⟩ := hr x (by rw [hq]; simp)
    have cl : Cl0 [.cells (plC p L), .cells T] := Qae Qb4 (Qae hT Qay)
    have c2 : cuO 2 [.cells (plC p L), .cells T] = some [.cells (plC p L), .cells T] := Qe6 (Qb5 cl)
    have f1 : ∀ σ, fz 2 σ fzD (vSl vT (slo ts)) = some (vSl vT (slo ts)) := fun σ => Qaw (Qaj fun n x => Qg2 x)
    have f2 : ∀ σ, fz 2 σ fzD (vIs rs) = some (vIs rs) := fun σ => Qaw Qg3
    have i1 : eI 1 (.int .i64 q.length) (vIs rs) = some (.eptr [.int .i64 x] 0) := Qaz (f := V.int .i64) (p := q) (r := r) (by rw [Qc3, hq]) rfl rfl
    have ih := Qoz ts T hT i r1 rs hrs hr r (q ++ [x]) (by rw [hq]; simp)
    rw [show ((q ++ [x]).length : Int) = q.length + 1 by simp] at ih
    rw [← ih, u_Z1p_1]
    clear ih
    generalize plC p L = P at *
    simp +contextual -implicitDefEqProofs (disch := first | assumption | omega | (simp -implicitDefEqProofs only [go_sem]; try omega)) only [↓reduceIte, go_sem, iP, iN, w64, w8, w32, b_Z1p_1, e1, c2, f1, f2, i1, Qak, hx1, hx2]
theorem Qo0 (d : Nat) (ts : List Trm) (hts : ts.length ≤ 800000) (hall : ∀ t ∈ ts, OkD p.atoms.length p.ctrs row (d + 1) t)
    (hsub : ∀ us : List Trm, us.length ≤ 800000 → (∀ t ∈ us, OkD p.atoms.length p.ctrs row d t) → ∀ σ, Wf σ → E cx 9 [vSl vT (slo us), .agg (plC p L), .int .i64 row] σ = some (.bool true, σ)) : ∀ (r q : List Trm), ts = q ++ r →
    l_Z1p_0 (Mi cx) 0 1 [.int .i64 row, .ptr 0 0, vSl vT (slo ts), .int .i64 ts.length, .int .i64 q.length] [.cells (plC p L)] = some (.bool true, [])
  | [], q, hq => by
    have hlen : ts.length = q.length := by rw [hq]; simp
    have e1 : ¬ (q.length : Int) < ts.length := by omega
    have hP : V.rbs 1 (plC p L) = true := Qb4
    rw [u_Z1p_0]
    generalize plC p L = P at *
    simp +contextual -implicitDefEqProofs (disch := first | assumption | omega | (simp -implicitDefEqProofs only [go_sem]; try omega)) only [↓reduceIte, go_sem, iP, iN, w64, w8, w32, b_Z1p_0, e1]
  | .mk k i us :: r, q, hq => by
    have hlen : ts.length = q.length + r.length + 1 := by rw [hq]; simp; omega
    have e1 : (q.length : Int) < ts.length := by omega
    obtain ⟨⟨hus, hk⟩, hsub'⟩ : OkK p.atoms.length p.ctrs row k i us.length ∧ ∀ t ∈ us, OkD p.atoms.length p.ctrs row d t := hall (.mk k i us) (by rw [hq]; simp)
    have hT : V.rbs 0 [.int .i64 k, .int .i64 i, vSl vT (slo us)] = true := Qez (t := .mk k i us)
    have i1 : eI 3 (.int .i64 q.length) (vSl vT (slo ts)) = some (.eptr [.int .i64 k, .int .i64 i, vSl vT (slo us)] 0) := by
      have h := Qaz (f := vT) (s := slo ts) (sz := 3) (k := .i64) (i := (q.length : Int)) (p := q) (r := r) (x := .mk k i us) (by rw [Qc3, hq]) rfl (by rw [Qkr]; rfl)
      rw [Qkr] at h
      exact h
    have l3 : ∀ σ, eL σ true 3 (.eptr [.int .i64 k, .int .i64 i, vSl vT (slo us)] 0) = some (.agg [.int .i64 k, .int .i64 i, vSl vT (slo us)]) := fun σ => Qdb rfl (Qkt (t := .mk k i us))
    have w2 : Wf [.cells (plC p L), .cells [.int .i64 k, .int .i64 i, vSl vT (slo us)]] := Qb5 (Qae Qb4 (Qae hT Qay))
    have k1 := hsub us hus hsub' _ w2
    have ih := Qo0 d ts hts hall hsub r (q ++ [.mk k i us]) (by rw [hq]; simp)
    rw [show ((q ++ [Trm.mk k i us]).length : Int) = q.length + 1 by simp] at ih
    have pl : ∀ τ : Objs, eL (.cells (plC p L) :: τ) true 5 (.ptr 0 0) = some (.agg (plC p L)) := fun τ => Qbt rfl rfl Qtp
    have pA : ∀ τ : Objs, eL (.cells (plC p L) :: τ) false 1 (.ptr 0 0) = some (vSl vAtm (slo p.atoms)) := fun τ => by
      show Option.map V.ng (some (vSl vAtm (slo p.atoms))) = _
      rw [Qao, Qak]
    have pC : ∀ τ : Objs, eL (.cells (plC p L) :: τ) false 1 (.ptr 0 2) = some (vSl vCtr (slo p.ctrs)) := fun τ => by
      show Option.map V.ng (some (vSl vCtr (slo p.ctrs))) = _
      rw [Qao, Qak]
    have sA : (slo p.atoms).l.length = p.atoms.length := by rw [Qc3]
    have sC : (slo p.ctrs).l.length = p.ctrs.length := by rw [Qc3]
    have c1 : ∀ τ : Objs, cuO 1 (.cells (plC p L) :: τ) = some [.cells (plC p L)] := fun τ => Qeu Qb4
    have f1 : ∀ n σ l, fz n σ fzD (vSl vT (slo l)) = some (vSl vT (slo l)) := fun n σ l => Qaw (Qaj fun n x => Qg2 x)
    have hP : V.rbs 1 (plC p L) = true := Qb4
    have hUs : (slo us).l.length = us.length := by rw [Qc3]
    have T2 : (vSl vT (slo us)).ng = vSl vT (slo us) := Qak
    have jn : j_Z1p_0 (Mi cx) 0 1 (l_Z1p_0 (Mi cx) 0 1) (.int .i64 row) (.ptr 0 0) (.ptr 1 0) (.bool true) (vSl vT (slo ts)) (.int .i64 ts.length) (.int .i64 q.length) [.cells (plC p L), .cells [.int .i64 k, .int .i64 i, vSl vT (slo us)]] = some (.bool true, []) := by
      clear i1 l3 hsub hsub' hall hk hq pA pC
      generalize plC p L = P at *
      simp +contextual -implicitDefEqProofs (disch := first | assumption | omega | (simp -implicitDefEqProofs only [go_sem]; try omega)) only [↓reduceIte, go_sem, iP, iN, w64, w8, w32, j_Z1p_0, pl, k1, c1, f1, Qak, ih]
    rw [u_Z1p_0]
    rcases hk with ⟨rfl, h1, h2⟩ | ⟨rfl, h1, h2⟩ | ⟨rfl, h1⟩ | ⟨rfl, h1, c, hc, hcl, hcr⟩ | rfl | rfl | rfl
    · clear hsub hsub' hall hq ih k1
      generalize plC p L = P at *
      simp +contextual -implicitDefEqProofs (disch := first | assumption | omega | (simp -implicitDefEqProofs only [go_sem]; try omega)) only [↓reduceIte, go_sem, iP, iN, w64, w8, w32, b_Z1p_0, e1, i1, l3, pA, sA, Qag, Qak, h1, h2, jn]
    · clear hsub hsub' hall hq ih k1
      generalize plC p L = P at *
      simp +contextual -implicitDefEqProofs (disch := first | assumption | omega | (simp -implicitDefEqProofs only [go_sem]; try omega)) only [↓reduceIte, go_sem, iP, iN, w64, w8, w32, b_Z1p_0, e1, i1, l3, Qag, Qak, h1, h2, jn]
    · clear hsub hsub' hall hq ih k1
      have h1' : ((us.length : Nat) : Int) = 1 := by omega
      generalize plC p L = P at *
      simp +contextual -implicitDefEqProofs (disch := first | assumption | omega | (simp -implicitDefEqProofs only [go_sem]; try omega)) only [↓reduceIte, go_sem, iP, iN, w64, w8, w32, b_Z1p_0, e1, i1, l3, hUs, h1', Qag, Qak, jn]
    · have hlt : i < p.ctrs.length := by
        obtain ⟨hh, _⟩ := List.getElem?_eq_some_iff.1 hc
        omega
      have i2 : eI 3 (.int .i64 i) (vSl vCtr (slo p.ctrs)) = some (.eptr (ctC c) 0) := Qex (f := vCtr) (by rw [Qc3]; exact hc) h1 rfl
      have l2 : ∀ σ, eL σ false 1 (.eptr (ctC c) 2) = some (vIs c.rows) := fun σ => by
        show Option.map V.ng (some (vIs c.rows)) = _
        rw [Qao, Qak]
      have hRs : (slo c.rows).l.length = c.rows.length := by rw [Qc3]
      have f2 : ∀ n σ l, fz n σ fzD (vIs l) = some (vIs l) := fun n σ l => Qaw Qg3
      have ar := Qoz (p := p) (L := L) (row := row) ts _ hT q.length (l_Z1p_0 (Mi cx) 0 1) c.rows hcl hcr c.rows [] rfl
      rw [jn] at ar
      have ar' : l_Z1p_1 (Mi cx) 0 1 (l_Z1p_0 (Mi cx) 0 1) 2 [.int .i64 row, .ptr 0 0, .ptr 1 0, .bool true, vSl vT (slo ts), .int .i64 ts.length, .int .i64 q.length, vIs c.rows, .int .i64 c.rows.length, .int .i64 0] [.cells (plC p L), .cells [.int .i64 5, .int .i64 i, vSl vT (slo us)]] = some (.bool true, []) := ar
      clear hsub hsub' hall hq ih k1 jn ar
      generalize plC p L = P at *
      generalize ctC c = CC at *
      simp +contextual -implicitDefEqProofs (disch := first | assumption | omega | (simp -implicitDefEqProofs only [go_sem]; try omega)) only [↓reduceIte, go_sem, iP, iN, w64, w8, w32, b_Z1p_0, e1, i1, l3, pC, sC, i2, l2, hRs, f1, f2, Qag, Qak, h1, hlt, ar']
    · clear hsub hsub' hall hq ih k1
      generalize plC p L = P at *
      simp +contextual -implicitDefEqProofs (disch := first | assumption | omega | (simp -implicitDefEqProofs only [go_sem]; try omega)) only [↓reduceIte, go_sem, iP, iN, w64, w8, w32, b_Z1p_0, j_Z1p_1, e1, i1, l3, Qak, jn]
    · clear hsub hsub' hall hq ih k1
      generalize plC p L = P at *
      simp +contextual -implicitDefEqProofs (disch := first | assumption | omega | (simp -implicitDefEqProofs only [go_sem]; try omega)) only [↓reduceIte, go_sem, iP, iN, w64, w8, w32, b_Z1p_0, j_Z1p_1, e1, i1, l3, Qak, jn]
    · clear hsub hsub' hall hq ih k1
      generalize plC p L = P at *
      simp +contextual -implicitDefEqProofs (disch := first | assumption | omega | (simp -implicitDefEqProofs only [go_sem]; try omega)) only [↓reduceIte, go_sem, iP, iN, w64, w8, w32, b_Z1p_0, j_Z1p_1, e1, i1, l3, Qak, jn]
theorem Wij : ∀ (d : Nat) (ts : List Trm), ts.length ≤ 800000 → (∀ t ∈ ts, OkD p.atoms.length p.ctrs row d t) → ∀ σ, Wf σ → E cx 9 [vSl vT (slo ts), .agg (plC p L), .int .i64 row] σ = some (.bool true, σ) := by
  have key : ∀ (ts : List Trm), l_Z1p_0 (Mi cx) 0 1 [.int .i64 row, .ptr 0 0, vSl vT (slo ts), .int .i64 ts.length, .int .i64 0] [.cells (plC p L)] = some (.bool true, []) → ∀ σ, Wf σ → E cx 9 [vSl vT (slo ts), .agg (plC p L), .int .i64 row] σ = some (.bool true, σ) := fun ts h σ hσ => by
    have f1 : ∀ n σ l, fz n σ fzD (vSl vT (slo l)) = some (vSl vT (slo l)) := fun n σ l => Qaw (Qaj fun n x => Qg2 x)
    refine Qcm Qci ?_ (by simp only [Qaf, Qa9, Qb4, Qdi, Qaj (fun n x => Qg2 (n := n) x)]; rfl) rfl σ hσ
    have h1 : boxV [] (.agg (plC p L)) = some (.ptr 0 0, [.cells (plC p L)]) := Qbc We8 Qtp
    have sT : (slo ts).l.length = ts.length := by rw [Qc3]
    rw [e_Z1p]
    generalize plC p L = P at *
    simp +contextual -implicitDefEqProofs (disch := first | assumption | omega | (simp -implicitDefEqProofs only [go_sem]; try omega)) only [↓reduceIte, go_sem, iP, iN, w64, w8, w32, s_Z1p, h1, f1, Qag, Qak, sT, h]
  intro d
  induction d with
  | zero =>
    intro ts hts hall
    cases ts with
    | nil =>
      refine key [] ?_
      have hP : V.rbs 1 (plC p L) = true := Qb4
      rw [u_Z1p_0]
      generalize plC p L = P at *
      simp +contextual -implicitDefEqProofs (disch := first | assumption | omega | (simp -implicitDefEqProofs only [go_sem]; try omega)) only [↓reduceIte, go_sem, iP, iN, w64, w8, w32, b_Z1p_0, show (([] : List Trm).length : Int) = 0 from rfl]
    | cons t r => exact (hall t (List.mem_cons_self ..)).elim
  | succ d ih => exact fun ts hts hall => key ts (Qo0 d ts hts hall ih ts [] rfl)
end
end Go.Proofs.YtapnplljnpconaaGreatDoor
namespace Go.Proofs.YtapnplljnpconaaGreatDoor
open Go.Ev
set_option maxRecDepth 100000
set_option maxHeartbeats 4000000
theorem Qo1 (s : Sl (List UInt8)) (t : List UInt8) (hs : s.l.length ≤ 1000000000) : ∀ (r q : List (List UInt8)), s.l = q ++ r →
    l_Z2p_0 (Mi cx) 0 0 [Qc6 s, .str t, .int .i64 q.length] [] = some (.bool (hasS r t), [])
  | [], q, hq => by
    have hlen : s.l.length = q.length := by rw [hq]; simp
    have e1 : ¬ (q.length : Int) < s.l.length := by omega
    rw [u_Z2p_0]
    show _ = some (V.bool false, [])
    simp +contextual -implicitDefEqProofs (disch := first | assumption | omega | (simp -implicitDefEqProofs only [go_sem]; try omega)) only [↓reduceIte, go_sem, iP, iN, w64, w8, w32, b_Z2p_0, Qag, Qak, e1]
  | x :: r, q, hq => by
    have hlen : s.l.length = q.length + r.length + 1 := by rw [hq]; simp; omega
    have e1 : (q.length : Int) < s.l.length := by omega
    have i1 : eI 1 (.int .i64 q.length) (Qc6 s) = some (.eptr [.str x] 0) := Qaz (f := V.str) hq rfl rfl
    have ih := Qo1 s t hs r (q ++ [x]) (by rw [hq]; simp)
    rw [show ((q ++ [x]).length : Int) = q.length + 1 by simp] at ih
    rw [u_Z2p_0]
    show _ = some (V.bool (decide (t = x) || hasS r t), [])
    by_cases c : x = t
    · subst c
      rw [decide_eq_true rfl, Bool.true_or]
      simp +contextual -implicitDefEqProofs (disch := first | assumption | omega | (simp -implicitDefEqProofs only [go_sem]; try omega)) only [↓reduceIte, go_sem, iP, iN, w64, w8, w32, b_Z2p_0, Qag, Qak, e1, i1]
    · rw [decide_eq_false (fun h => c h.symm), Bool.false_or]
      simp +contextual -implicitDefEqProofs (disch := first | assumption | omega | (simp -implicitDefEqProofs only [go_sem]; try omega)) only [↓reduceIte, go_sem, iP, iN, w64, w8, w32, b_Z2p_0, Qag, Qak, e1, i1, c, ih]
theorem Wap (s : Sl (List UInt8)) (t : List UInt8) (hs : s.l.length ≤ 1000000000) (σ : Objs) (hσ : Wf σ) : E cx 39 [Qc6 s, .str t] σ = some (.bool (hasS s.l t), σ) := by
  refine Qcm Qci ?_ (by rw [Qaf, Qg1]; rfl) rfl σ hσ
  have h : l_Z2p_0 (Mi cx) 0 0 [Qc6 s, .str t, .int .i64 0] [] = some (.bool (hasS s.l t), []) := Qo1 s t hs s.l [] rfl
  rw [e_Z2p]
  simp +contextual -implicitDefEqProofs (disch := first | assumption | omega | (simp -implicitDefEqProofs only [go_sem]; try omega)) only [↓reduceIte, go_sem, iP, iN, w64, w8, w32, s_Z2p, h]
theorem Qtq (t : List UInt8) (σ : Objs) (hσ : Wf σ) : E cx 34 [.str t] σ = some (.bool (Qgl t), σ) := by
  have b1 : Qax false 1 10 (.str []) [(0, .str [104, 111, 118, 101, 114]), (1, .str [97, 99, 116, 105, 118, 101]), (2, .str [102, 111, 99, 117, 115]), (3, .str [102, 111, 99, 117, 115, 45, 118, 105, 115, 105, 98, 108, 101]), (4, .str [118, 105, 115, 105, 116, 101, 100]), (5, .str [108, 105, 110, 107]), (6, .str [99, 104, 101, 99, 107, 101, 100]), (7, .str [100, 105, 115, 97, 98, 108, 101, 100]), (8, .str [101, 110, 97, 98, 108, 101, 100]), (9, .str [116, 97, 114, 103, 101, 116])] = some (.sl (Qb0.map V.str) .fx) := rfl
  have h2 : ∀ σ, Wf σ → E cx 39 [.sl (Qb0.map V.str) .no, .str t] σ = some (.bool (Qgl t), σ) := fun σ hσ => Wap (.row Qb0) t (by decide) σ hσ
  have n1 : (V.sl (Qb0.map V.str) .fx).ng = .sl (Qb0.map V.str) .no := rfl
  rw [e_Z2r]
  generalize Qb0.map V.str = S at *
  simp +contextual -implicitDefEqProofs (disch := first | assumption | omega | (simp -implicitDefEqProofs only [go_sem]; try omega)) only [↓reduceIte, go_sem, iP, iN, w64, w8, w32, s_Z2r, b1, h2]
def AtOk (a : Atm) : Prop := a.space.length ≤ 1000 ∧ a.text.length ≤ 1000 ∧ a.name.length ≤ 1000 ∧ Qcn a.space = true ∧ Qcn a.text = true ∧ Qcn a.name = true ∧
  (a.kind = 1 ∨ (a.kind = 2 ∧ ¬ a.name = []) ∨ (a.kind = 3 ∧ Qgl a.name = true))
theorem Qo2 (l : List Atm) (hl : l.length ≤ 1000000) (hok : ∀ a ∈ l, AtOk a) : ∀ (r q : List Atm), l = q ++ r →
    l_Z2y_0 (Mi cx) 0 0 [vSl vAtm (slo l), .int .i64 q.length] [] = some (.int .i64 (-1), [])
  | [], q, hq => by
    have hlen : l.length = q.length := by rw [hq]; simp
    have e1 : ¬ (q.length : Int) < (slo l).l.length := by rw [Qc3]; omega
    rw [u_Z2y_0]
    simp +contextual -implicitDefEqProofs (disch := first | assumption | omega | (simp -implicitDefEqProofs only [go_sem]; try omega)) only [↓reduceIte, go_sem, iP, iN, w64, w8, w32, b_Z2y_0, Qag, Qak, e1]
  | a :: r, q, hq => by
    have hlen : l.length = q.length + r.length + 1 := by rw [hq]; simp; omega
    have e1 : (q.length : Int) < (slo l).l.length := by rw [Qc3]; omega
    obtain ⟨g1, g2, g3, g4, g5, g6, gk⟩ := hok a (by rw [hq]; simp)
    have i1 : eI 7 (.int .i64 q.length) (vSl vAtm (slo l)) = some (.eptr (atC a) 0) := Qaz (f := vAtm) (p := q) (r := r) (by rw [Qc3, hq]) rfl rfl
    have i2 : ∀ σ, eL σ true 7 (.eptr (atC a) 0) = some (.agg (atC a)) := fun σ => Qdb rfl Qge
    have a1 : (atC a).length = 7 := rfl
    have a2 : Qai (atC a) = true := Qov
    have a3 : (atC a).map V.ng = atC a := Qge
    have l0 : eL [.cells (atC a)] false 1 (.ptr 0 0) = some (.int .i64 a.kind) := rfl
    have l2 : eL [.cells (atC a)] false 1 (.ptr 0 2) = some (.str a.space) := rfl
    have l3 : eL [.cells (atC a)] false 1 (.ptr 0 3) = some (.str a.name) := rfl
    have l5 : eL [.cells (atC a)] false 1 (.ptr 0 5) = some (.str a.text) := rfl
    have w1 : Wf [.cells (atC a)] := Qb5 (Qae Qdc Qay)
    have k1 := Qfr a.space (by omega) _ w1
    have k2 := Qfr a.text (by omega) _ w1
    have k3 := Qfr a.name (by omega) _ w1
    rw [g4] at k1
    rw [g5] at k2
    rw [g6] at k3
    have f1 : ∀ n σ, fz n σ fzD (vSl vAtm (slo l)) = some (vSl vAtm (slo l)) := fun n σ => Qaw (Qaj fun n x => Qe8)
    have ih := Qo2 l hl hok r (q ++ [a]) (by rw [hq]; simp)
    rw [show ((q ++ [a]).length : Int) = q.length + 1 by simp] at ih
    rw [← ih, u_Z2y_0]
    have k4 := Qtq a.name _ w1
    clear hok hq ih
    generalize atC a = A at *
    rcases gk with gk | ⟨gk, gn⟩ | ⟨gk, gn⟩
    · rw [gk] at l0
      simp +contextual -implicitDefEqProofs (disch := first | assumption | omega | (simp -implicitDefEqProofs only [go_sem]; try omega)) only [↓reduceIte, go_sem, iP, iN, w64, w8, w32, b_Z2y_0, j_Z2y_0, Qag, Qak, e1, i1, i2, l0, l2, l3, l5, k1, k2, k3, f1]
    · rw [gk] at l0
      simp +contextual -implicitDefEqProofs (disch := first | assumption | omega | (simp -implicitDefEqProofs only [go_sem]; try omega)) only [↓reduceIte, go_sem, iP, iN, w64, w8, w32, b_Z2y_0, j_Z2y_0, Qag, Qak, e1, i1, i2, l0, l2, l3, l5, k1, k2, k3, f1, gn]
    · rw [gk] at l0
      rw [gn] at k4
      simp +contextual -implicitDefEqProofs (disch := first | assumption | omega | (simp -implicitDefEqProofs only [go_sem]; try omega)) only [↓reduceIte, go_sem, iP, iN, w64, w8, w32, b_Z2y_0, j_Z2y_0, Qag, Qak, e1, i1, i2, l0, l2, l3, l5, k1, k2, k3, k4, f1]
theorem Qtr (l : List Atm) (hl : l.length ≤ 1000000) (hok : ∀ a ∈ l, AtOk a) (σ : Objs) (hσ : Wf σ) : E cx 10 [vSl vAtm (slo l)] σ = some (.int .i64 (-1), σ) := by
  refine Qcm Qci ?_ (by simp only [Qaf, Qaj (fun n x => Qe8 (n := n) (a := x))]; rfl) rfl σ hσ
  have h := Qo2 l hl hok l [] rfl
  have h' : l_Z2y_0 (Mi cx) 0 0 [vSl vAtm (slo l), .int .i64 0] [] = some (.int .i64 (-1), []) := h
  have f1 : ∀ n σ, fz n σ fzD (vSl vAtm (slo l)) = some (vSl vAtm (slo l)) := fun n σ => Qaw (Qaj fun n x => Qe8)
  rw [e_Z2y]
  simp +contextual -implicitDefEqProofs (disch := first | assumption | omega | (simp -implicitDefEqProofs only [go_sem]; try omega)) only [↓reduceIte, go_sem, iP, iN, w64, w8, w32, s_Z2y, f1, Qak, h']
end Go.Proofs.YtapnplljnpconaaGreatDoor
namespace Go.Proofs.YtapnplljnpconaaGreatDoor
open Go.Ev
set_option maxRecDepth 100000
set_option maxHeartbeats 4000000
def RI (A : Nat) (C : List Ctr) : Nat → Int → List Rw → Prop
  | i, n, [] => True
  | i, n, r :: rs => r.first = n ∧ ¬ r.steps = [] ∧ r.steps.length ≤ 800000 ∧ (∀ s ∈ r.steps, s.ts.length ≤ 800000 ∧ ∀ t ∈ s.ts, OkD A C i 8 t) ∧ RI A C (i + 1) (n + r.steps.length) rs
def totR : List Rw → Int
  | [] => 0
  | r :: rs => r.steps.length + totR rs
theorem Qxy : ∀ l : List Rw, 0 ≤ totR l
  | [] => Int.le_refl _
  | r :: rs => by have := Qxy rs; show 0 ≤ (r.steps.length : Int) + totR rs; omega
section
variable {p : Pln} {L : List (List Int)} {n : Nms} {Z : V} (hZ : V.rb 0 Z = true) (hZn : Z.ng = Z)
include hZ hZn
theorem Wb3 (i : Nat) (st : Int) (RV : V) (hRV : V.rb 0 RV = true) (lenR iR : Int) (hiR : 0 ≤ iR ∧ iR ≤ 1000000) (r1 : Rk) (rw : Rw) (hst : rw.steps.length ≤ 800000) (hs : ∀ s ∈ rw.steps, s.ts.length ≤ 800000 ∧ ∀ t ∈ s.ts, OkD p.atoms.length p.ctrs i 8 t) : ∀ (r q : List Stp), rw.steps = q ++ r →
    l_Z1n_1 (Mi cx) 0 2 r1 3 [Z, .ptr 1 0, .int .i64 st, .int .i64 i, RV, .int .i64 lenR, .int .i64 iR, vSl vStp (slo rw.steps), .int .i64 rw.steps.length, .int .i64 q.length] [.cells (Qaa n), .cells (plC p L), .cells (rwC rw)] =
      r1 [Z, .ptr 1 0, .int .i64 st, RV, .int .i64 lenR, .int .i64 (iR + 1)] [.cells (Qaa n), .cells (plC p L)]
  | [], q, hq => by
    have hlen : rw.steps.length = q.length := by rw [hq]; simp
    have e1 : ¬ (q.length : Int) < rw.steps.length := by omega
    have cl3 : Cl0 [.cells (Qaa n), .cells (plC p L), .cells (rwC rw)] := Qae Qal (Qae Qb4 (Qae Qm4 Qay))
    have c3 : cuO 3 [.cells (Qaa n), .cells (plC p L), .cells (rwC rw)] = some [.cells (Qaa n), .cells (plC p L), .cells (rwC rw)] := Qe6 (Qb5 cl3)
    have c2 : ∀ τ : Objs, cuO 2 (.cells (Qaa n) :: .cells (plC p L) :: τ) = some [.cells (Qaa n), .cells (plC p L)] := fun τ => Qhv Qal Qb4
    have fZ : ∀ k σ, fz k σ fzD Z = some Z := fun k σ => Qaw (rb0 hZ)
    have fR : ∀ k σ, fz k σ fzD RV = some RV := fun k σ => Qaw (rb0 hRV)
    rw [u_Z1n_1]
    generalize Qaa n = N at *
    generalize plC p L = P at *
    generalize rwC rw = R at *
    simp +contextual -implicitDefEqProofs (disch := first | assumption | omega | (simp -implicitDefEqProofs only [go_sem]; try omega)) only [↓reduceIte, go_sem, iP, iN, w64, w8, w32, b_Z1n_1, e1, c3, c2, fZ, fR]
  | s :: r, q, hq => by
    have hlen : rw.steps.length = q.length + r.length + 1 := by rw [hq]; simp; omega
    have e1 : (q.length : Int) < rw.steps.length := by omega
    obtain ⟨h1, h2⟩ := hs s (by rw [hq]; simp)
    have i1 : eI 2 (.int .i64 q.length) (vSl vStp (slo rw.steps)) = some (.eptr (stC s) 0) := Qaz (f := vStp) (p := q) (r := r) (by rw [Qc3, hq]) rfl rfl
    have i2 : ∀ σ, eL σ true 2 (.eptr (stC s) 0) = some (.agg (stC s)) := fun σ => Qdb rfl Wh6
    have y1 : (stC s).length = 2 := rfl
    have y2 : Qai (stC s) = true := Wev
    have y3 : (stC s).map V.ng = stC s := Wh6
    have l1 : ∀ O1 O2 O3 : O, eL [O1, O2, O3, .cells (stC s)] false 1 (.ptr 3 1) = some (vSl vT (slo s.ts)) := fun O1 O2 O3 => by
      show Option.map V.ng (some (vSl vT (slo s.ts))) = _
      rw [Qao, Qak]
    have lp : ∀ (O1 : O) (τ : Objs), eL (O1 :: .cells (plC p L) :: τ) true 5 (.ptr 1 0) = some (.agg (plC p L)) := fun O1 τ => Qbt rfl rfl Qtp
    have w4 : Wf [.cells (Qaa n), .cells (plC p L), .cells (rwC rw), .cells (stC s)] := Qb5 (Qae Qal (Qae Qb4 (Qae Qm4 (Qae Qxh Qay))))
    have k1 := Wij (p := p) (L := L) (row := i) 8 s.ts h1 h2 _ w4
    have cl3 : Cl0 [.cells (Qaa n), .cells (plC p L), .cells (rwC rw)] := Qae Qal (Qae Qb4 (Qae Qm4 Qay))
    have c3 : ∀ τ : Objs, cuO 3 (.cells (Qaa n) :: .cells (plC p L) :: .cells (rwC rw) :: τ) = some [.cells (Qaa n), .cells (plC p L), .cells (rwC rw)] := fun τ => Qd9 (σ := [_, _, _]) (τ := τ) (Qb5 cl3)
    have fZ : ∀ k σ, fz k σ fzD Z = some Z := fun k σ => Qaw (rb0 hZ)
    have fR : ∀ k σ, fz k σ fzD RV = some RV := fun k σ => Qaw (rb0 hRV)
    have fS : ∀ k σ, fz k σ fzD (vSl vStp (slo rw.steps)) = some (vSl vStp (slo rw.steps)) := fun k σ => Qaw (Qaj fun n x => Qr6)
    have ih := Wb3 i st RV hRV lenR iR hiR r1 rw hst hs r (q ++ [s]) (by rw [hq]; simp)
    rw [show ((q ++ [s]).length : Int) = q.length + 1 by simp] at ih
    rw [← ih, u_Z1n_1]
    clear ih hs hq
    generalize Qaa n = N at *
    generalize plC p L = P at *
    generalize rwC rw = R at *
    generalize stC s = S at *
    simp +contextual -implicitDefEqProofs (disch := first | assumption | omega | (simp -implicitDefEqProofs only [go_sem]; try omega)) only [↓reduceIte, go_sem, iP, iN, w64, w8, w32, b_Z1n_1, e1, i1, i2, l1, lp, k1, c3, fZ, fR, fS, Qak]
theorem Wb4 (st : Int) (a : Atm) (iA : Int) (hiA : 0 ≤ iA ∧ iA ≤ 1000000) (r1 : Rk) (l : Sl Atm) (hl : l.l.length ≤ 1000000) (AV : V) (hAV : V.rb 0 AV = true) (lenA : Int) (hne : ∀ b ∈ l.l, ¬ a = b) : ∀ (r q : List Atm), l.l = q ++ r →
    l_Z1n_3 (Mi cx) 0 2 r1 3 [Z, .ptr 1 0, .int .i64 st, .ptr 2 0, AV, .int .i64 lenA, .int .i64 iA, vSl vAtm l, .int .i64 l.l.length, .int .i64 q.length] [.cells (Qaa n), .cells (plC p L), .cells (atC a)] =
      r1 [Z, .ptr 1 0, .int .i64 st, AV, .int .i64 lenA, .int .i64 (iA + 1)] [.cells (Qaa n), .cells (plC p L)]
  | [], q, hq => by
    have hlen : l.l.length = q.length := by rw [hq]; simp
    have e1 : ¬ (q.length : Int) < l.l.length := by omega
    have cl3 : Cl0 [.cells (Qaa n), .cells (plC p L), .cells (atC a)] := Qae Qal (Qae Qb4 (Qae Qdc Qay))
    have c3 : cuO 3 [.cells (Qaa n), .cells (plC p L), .cells (atC a)] = some [.cells (Qaa n), .cells (plC p L), .cells (atC a)] := Qe6 (Qb5 cl3)
    have c2 : ∀ τ : Objs, cuO 2 (.cells (Qaa n) :: .cells (plC p L) :: τ) = some [.cells (Qaa n), .cells (plC p L)] := fun τ => Qhv Qal Qb4
    have fZ : ∀ k σ, fz k σ fzD Z = some Z := fun k σ => Qaw (rb0 hZ)
    have fR : ∀ k σ, fz k σ fzD AV = some AV := fun k σ => Qaw (rb0 hAV)
    rw [u_Z1n_3]
    generalize Qaa n = N at *
    generalize plC p L = P at *
    generalize atC a = R at *
    simp +contextual -implicitDefEqProofs (disch := first | assumption | omega | (simp -implicitDefEqProofs only [go_sem]; try omega)) only [↓reduceIte, go_sem, iP, iN, w64, w8, w32, b_Z1n_3, e1, c3, c2, fZ, fR]
  | b :: r, q, hq => by
    have hlen : l.l.length = q.length + r.length + 1 := by rw [hq]; simp; omega
    have e1 : (q.length : Int) < l.l.length := by omega
    have hb := hne b (by rw [hq]; simp)
    have i1 : eI 7 (.int .i64 q.length) (vSl vAtm l) = some (.eptr (atC b) 0) := Qaz (f := vAtm) hq rfl rfl
    have i2 : ∀ σ, eL σ true 7 (.eptr (atC b) 0) = some (.agg (atC b)) := fun σ => Qdb rfl Qge
    have y1 : (atC b).length = 7 := rfl
    have y2 : Qai (atC b) = true := Qov
    have y3 : (atC b).map V.ng = atC b := Qge
    have l2 : ∀ (O1 O2 : O) (τ : Objs), eL (O1 :: O2 :: .cells (atC a) :: τ) true 7 (.ptr 2 0) = some (.agg (atC a)) := fun O1 O2 τ => Qbt rfl rfl Qge
    have l3 : ∀ O1 O2 O3 : O, eL [O1, O2, O3, .cells (atC b)] true 7 (.ptr 3 0) = some (.agg (atC b)) := fun O1 O2 O3 => Qbt rfl rfl Qge
    have eq := Wbv (a := a) (b := b)
    rw [decide_eq_false hb] at eq
    have cl3 : Cl0 [.cells (Qaa n), .cells (plC p L), .cells (atC a)] := Qae Qal (Qae Qb4 (Qae Qdc Qay))
    have c3 : ∀ τ : Objs, cuO 3 (.cells (Qaa n) :: .cells (plC p L) :: .cells (atC a) :: τ) = some [.cells (Qaa n), .cells (plC p L), .cells (atC a)] := fun τ => Qd9 (σ := [_, _, _]) (τ := τ) (Qb5 cl3)
    have fZ : ∀ k σ, fz k σ fzD Z = some Z := fun k σ => Qaw (rb0 hZ)
    have fR : ∀ k σ, fz k σ fzD AV = some AV := fun k σ => Qaw (rb0 hAV)
    have fS : ∀ k σ, fz k σ fzD (vSl vAtm l) = some (vSl vAtm l) := fun k σ => Qaw (Qaj fun n x => Qe8)
    have ih := Wb4 st a iA hiA r1 l hl AV hAV lenA hne r (q ++ [b]) (by rw [hq]; simp)
    rw [show ((q ++ [b]).length : Int) = q.length + 1 by simp] at ih
    rw [← ih, u_Z1n_3]
    clear ih hne hq hb
    generalize Qaa n = N at *
    generalize plC p L = P at *
    generalize atC a = R at *
    generalize atC b = S at *
    simp +contextual -implicitDefEqProofs (disch := first | assumption | omega | (simp -implicitDefEqProofs only [go_sem]; try omega)) only [↓reduceIte, go_sem, iP, iN, w64, w8, w32, b_Z1n_3, e1, i1, i2, l2, l3, eq, c3, fZ, fR, fS, Qak]
theorem Wb5 (hl : p.atoms.length ≤ 1000000) (hok : ∀ a ∈ p.atoms, AtOk a) (hnd : p.atoms.Nodup) (hLZ : Qaq Z = some (.int .i64 L.length)) : ∀ (r q : List Atm), p.atoms = q ++ r →
    l_Z1n_2 (Mi cx) 0 2 [Z, .ptr 1 0, .int .i64 p.steps, vSl vAtm (slo p.atoms), .int .i64 p.atoms.length, .int .i64 q.length] [.cells (Qaa n), .cells (plC p L)] = some (.bool true, [])
  | [], q, hq => by
    have hlen : p.atoms.length = q.length := by rw [hq]; simp
    have e1 : ¬ (q.length : Int) < p.atoms.length := by omega
    have w2 : Wf [.cells (Qaa n), .cells (plC p L)] := Qb5 (Qae Qal (Qae Qb4 Qay))
    have c2 : cuO 2 [.cells (Qaa n), .cells (plC p L)] = some [.cells (Qaa n), .cells (plC p L)] := Qkl Qal Qb4
    have fZ : ∀ k σ, fz k σ fzD Z = some Z := fun k σ => Qaw (rb0 hZ)
    have l4 : ∀ O1 : O, eL [O1, .cells (plC p L)] false 1 (.ptr 1 4) = some (.int .i64 p.steps) := fun O1 => rfl
    have l0 : ∀ O1 : O, eL [O1, .cells (plC p L)] false 1 (.ptr 1 0) = some (vSl vAtm (slo p.atoms)) := fun O1 => by
      show Option.map V.ng (some (vSl vAtm (slo p.atoms))) = _
      rw [Qao, Qak]
    have l3 : ∀ O1 : O, eL [O1, .cells (plC p L)] false 1 (.ptr 1 3) = some (vSl vIs (slo L)) := fun O1 => by
      show Option.map V.ng (some (vSl vIs (slo L))) = _
      rw [Qao, Qak]
    have k1 := Qtr p.atoms hl hok _ w2
    have sL : (slo L).l.length = L.length := by rw [Qc3]
    rw [u_Z1n_2]
    clear hok hnd
    generalize Qaa n = N at *
    generalize plC p L = P at *
    simp +contextual -implicitDefEqProofs (disch := first | assumption | omega | (simp -implicitDefEqProofs only [go_sem]; try omega)) only [↓reduceIte, go_sem, iP, iN, w64, w8, w32, b_Z1n_2, e1, c2, fZ, l4, l0, l3, k1, Qag, sL, Qak, hZn, hLZ]
  | a :: r, q, hq => by
    have hlen : p.atoms.length = q.length + r.length + 1 := by rw [hq]; simp; omega
    have e1 : (q.length : Int) < p.atoms.length := by omega
    have hne : ∀ b ∈ ((slo p.atoms).take q.length).l, ¬ a = b := fun b hb h => by
      rw [Sl.take_l, Qc3, hq, List.take_left] at hb
      rw [hq] at hnd
      exact (List.nodup_append.1 hnd).2.2 b hb a (List.mem_cons_self ..) h.symm
    have i1 : eI 7 (.int .i64 q.length) (vSl vAtm (slo p.atoms)) = some (.eptr (atC a) 0) := Qaz (f := vAtm) (p := q) (r := r) (by rw [Qc3, hq]) rfl rfl
    have i2 : ∀ σ, eL σ true 7 (.eptr (atC a) 0) = some (.agg (atC a)) := fun σ => Qdb rfl Qge
    have y1 : (atC a).length = 7 := rfl
    have y2 : Qai (atC a) = true := Qov
    have y3 : (atC a).map V.ng = atC a := Qge
    have l0 : ∀ (O1 : O) (τ : Objs), eL (O1 :: .cells (plC p L) :: τ) false 1 (.ptr 1 0) = some (vSl vAtm (slo p.atoms)) := fun O1 τ => by
      show Option.map V.ng (some (vSl vAtm (slo p.atoms))) = _
      rw [Qao, Qak]
    have hc : Qba 7 (vSl vAtm (slo p.atoms)) none (some (.int .i64 q.length)) none = some (vSl vAtm ((slo p.atoms).take q.length)) := by
      have := Qln (f := vAtm) (s := slo p.atoms) (sz := 7) (fun _ => rfl) (k := .i64) (b := (q.length : Int)) (by rw [Qc3]; omega)
      rw [Int.toNat_natCast] at this
      exact this
    have fZ : ∀ k σ, fz k σ fzD Z = some Z := fun k σ => Qaw (rb0 hZ)
    have fA : ∀ k σ l, fz k σ fzD (vSl vAtm l) = some (vSl vAtm l) := fun k σ l => Qaw (Qaj fun n x => Qe8)
    have k3 := Wb4 (p := p) (L := L) (n := n) hZ hZn p.steps a q.length (by omega) (l_Z1n_2 (Mi cx) 0 2) ((slo p.atoms).take q.length) (by rw [Sl.take_l, Qc3, List.length_take]; omega) (vSl vAtm (slo p.atoms)) (Qaj fun n x => Qe8) p.atoms.length hne ((slo p.atoms).take q.length).l [] rfl
    have ih := Wb5 hl hok hnd hLZ r (q ++ [a]) (by rw [hq]; simp)
    rw [show ((q ++ [a]).length : Int) = q.length + 1 by simp] at ih
    rw [ih] at k3
    have k3' : l_Z1n_3 (Mi cx) 0 2 (l_Z1n_2 (Mi cx) 0 2) 3 [Z, .ptr 1 0, .int .i64 p.steps, .ptr 2 0, vSl vAtm (slo p.atoms), .int .i64 p.atoms.length, .int .i64 q.length, vSl vAtm ((slo p.atoms).take q.length), .int .i64 ((slo p.atoms).take q.length).l.length, .int .i64 0] [.cells (Qaa n), .cells (plC p L), .cells (atC a)] = some (.bool true, []) := k3
    rw [u_Z1n_2]
    clear hok hnd hne ih k3 hq
    generalize (slo p.atoms).take q.length = TK at *
    generalize Qaa n = N at *
    generalize plC p L = P at *
    generalize atC a = A at *
    simp +contextual -implicitDefEqProofs (disch := first | assumption | omega | (simp -implicitDefEqProofs only [go_sem]; try omega)) only [↓reduceIte, go_sem, iP, iN, w64, w8, w32, b_Z1n_2, e1, i1, i2, l0, hc, fZ, fA, Qag, Qak, k3']
def PlOk (p : Pln) : Prop := p.atoms.length ≤ 1000000 ∧ p.rows.length ≤ 1000000 ∧ (∀ a ∈ p.atoms, AtOk a) ∧ p.atoms.Nodup ∧ RI p.atoms.length p.ctrs 0 0 p.rows ∧ p.steps = totR p.rows ∧ p.steps ≤ 1000000
theorem Wb6 (hp : PlOk p) (hLZ : Qaq Z = some (.int .i64 L.length)) : ∀ (r q : List Rw) (st : Int), p.rows = q ++ r → RI p.atoms.length p.ctrs q.length st r → st + totR r = p.steps → 0 ≤ st →
    l_Z1n_0 (Mi cx) 0 2 [Z, .ptr 1 0, .int .i64 st, vSl vRw (slo p.rows), .int .i64 p.rows.length, .int .i64 q.length] [.cells (Qaa n), .cells (plC p L)] = some (.bool true, [])
  | [], q, st, hq, hR, hs, h0 => by
    obtain ⟨b1, b2, b3, b4, b5, b6, b7⟩ := hp
    have hst : st = p.steps := by
      have : totR [] = 0 := rfl
      omega
    subst hst
    have hlen : p.rows.length = q.length := by rw [hq]; simp
    have e1 : ¬ (q.length : Int) < p.rows.length := by omega
    have c2 : cuO 2 [.cells (Qaa n), .cells (plC p L)] = some [.cells (Qaa n), .cells (plC p L)] := Qkl Qal Qb4
    have fZ : ∀ k σ, fz k σ fzD Z = some Z := fun k σ => Qaw (rb0 hZ)
    have l0 : ∀ O1 : O, eL [O1, .cells (plC p L)] false 1 (.ptr 1 0) = some (vSl vAtm (slo p.atoms)) := fun O1 => by
      show Option.map V.ng (some (vSl vAtm (slo p.atoms))) = _
      rw [Qao, Qak]
    have fA : ∀ k σ l, fz k σ fzD (vSl vAtm l) = some (vSl vAtm l) := fun k σ l => Qaw (Qaj fun n x => Qe8)
    have sA : (slo p.atoms).l.length = p.atoms.length := by rw [Qc3]
    have k2 := Wb5 (p := p) (L := L) (n := n) hZ hZn b1 b3 b4 hLZ p.atoms [] rfl
    have k2' : l_Z1n_2 (Mi cx) 0 2 [Z, .ptr 1 0, .int .i64 p.steps, vSl vAtm (slo p.atoms), .int .i64 p.atoms.length, .int .i64 0] [.cells (Qaa n), .cells (plC p L)] = some (.bool true, []) := k2
    rw [u_Z1n_0]
    clear b3 b4 b5 hR hq k2
    generalize Qaa n = N at *
    generalize plC p L = P at *
    simp +contextual -implicitDefEqProofs (disch := first | assumption | omega | (simp -implicitDefEqProofs only [go_sem]; try omega)) only [↓reduceIte, go_sem, iP, iN, w64, w8, w32, b_Z1n_0, e1, c2, fZ, l0, fA, sA, Qag, Qak, k2']
  | w :: r, q, st, hq, hR, hs, h0 => by
    obtain ⟨r1, r2, r3, r4, r5⟩ := hR
    have hlen : p.rows.length = q.length + r.length + 1 := by rw [hq]; simp; omega
    have e1 : (q.length : Int) < p.rows.length := by omega
    have hrl := hp.2.1
    have hbd := hp.2.2.2.2.2.2
    have hnn := Qxy r
    have hs' : st + ((w.steps.length : Int) + totR r) = p.steps := hs
    have i1 : eI 3 (.int .i64 q.length) (vSl vRw (slo p.rows)) = some (.eptr (rwC w) 0) := Qaz (f := vRw) (p := q) (r := r) (by rw [Qc3, hq]) rfl rfl
    have i2 : ∀ σ, eL σ true 3 (.eptr (rwC w) 0) = some (.agg (rwC w)) := fun σ => Qdb rfl Wh7
    have y1 : (rwC w).length = 3 := rfl
    have y2 : Qai (rwC w) = true := Wew
    have y3 : (rwC w).map V.ng = rwC w := Wh7
    have l0 : ∀ O1 O2 : O, eL [O1, O2, .cells (rwC w)] false 1 (.ptr 2 0) = some (.int .i64 st) := fun O1 O2 => by rw [← r1]; rfl
    have l1 : ∀ O1 O2 : O, eL [O1, O2, .cells (rwC w)] false 1 (.ptr 2 1) = some (vSl vStp (slo w.steps)) := fun O1 O2 => by
      show Option.map V.ng (some (vSl vStp (slo w.steps))) = _
      rw [Qao, Qak]
    have hne : ¬ (w.steps.length : Int) = 0 := fun h => r2 (List.length_eq_zero_iff.1 (by omega))
    have fZ : ∀ k σ, fz k σ fzD Z = some Z := fun k σ => Qaw (rb0 hZ)
    have fR : ∀ k σ, fz k σ fzD (vSl vRw (slo p.rows)) = some (vSl vRw (slo p.rows)) := fun k σ => Qaw (Qaj fun n x => Qxi)
    have fS : ∀ k σ, fz k σ fzD (vSl vStp (slo w.steps)) = some (vSl vStp (slo w.steps)) := fun k σ => Qaw (Qaj fun n x => Qr6)
    have sS : (slo w.steps).l.length = w.steps.length := by rw [Qc3]
    have k1 := Wb3 (p := p) (L := L) (n := n) hZ hZn q.length (st + w.steps.length) (vSl vRw (slo p.rows)) (Qaj fun n x => Qxi) p.rows.length q.length (by omega) (l_Z1n_0 (Mi cx) 0 2) w r3 r4 w.steps [] rfl
    have ih := Wb6 hp hLZ r (q ++ [w]) (st + w.steps.length) (by rw [hq]; simp) (by rw [show (q ++ [w]).length = q.length + 1 by simp]; exact r5) (by omega) (by omega)
    rw [show ((q ++ [w]).length : Int) = q.length + 1 by simp] at ih
    rw [ih] at k1
    have k1' : l_Z1n_1 (Mi cx) 0 2 (l_Z1n_0 (Mi cx) 0 2) 3 [Z, .ptr 1 0, .int .i64 (st + w.steps.length), .int .i64 q.length, vSl vRw (slo p.rows), .int .i64 p.rows.length, .int .i64 q.length, vSl vStp (slo w.steps), .int .i64 w.steps.length, .int .i64 0] [.cells (Qaa n), .cells (plC p L), .cells (rwC w)] = some (.bool true, []) := k1
    rw [u_Z1n_0]
    clear ih k1 hq r4 r5 hp hs
    generalize Qaa n = N at *
    generalize plC p L = P at *
    generalize rwC w = R at *
    simp +contextual -implicitDefEqProofs (disch := first | assumption | omega | (simp -implicitDefEqProofs only [go_sem]; try omega)) only [↓reduceIte, go_sem, iP, iN, w64, w8, w32, b_Z1n_0, e1, i1, i2, l0, l1, fZ, fR, fS, sS, hne, Qag, Qak, k1']
end
end Go.Proofs.YtapnplljnpconaaGreatDoor
namespace Go.Proofs.YtapnplljnpconaaGreatDoor
open Go.Ev
set_option maxRecDepth 100000
set_option maxHeartbeats 4000000
theorem Wik {α : Type} {w0 t0 : Sl α → Nat} (h : ∀ s, w0 s ≤ 4 * t0 s) : ∀ l : List (Sm α), wX w0 l ≤ 4 * tX t0 l
  | [] => Nat.zero_le _
  | y :: r => by
    have := Wik h r
    have := h y.of
    show 4 + w0 y.of + wX w0 r ≤ 4 * (1 + t0 y.of + tX t0 r)
    omega
theorem Wil {α : Type} {w0 t0 : Sl α → Nat} (h : ∀ s, w0 s ≤ 4 * t0 s) : ∀ l : List (Cp α), wC w0 l ≤ l.length + 4 * tC t0 l
  | [] => Nat.zero_le _
  | x :: r => by
    have := Wil h r
    have := Wik h x.list.l
    show 1 + wX w0 x.list.l + wC w0 r ≤ (r.length + 1) + 4 * (tX t0 x.list.l + tC t0 r)
    omega
theorem Wim {α : Type} {w0 t0 : Sl α → Nat} (h : ∀ s, w0 s ≤ 4 * t0 s) : ∀ l : List (Co α), wL w0 l ≤ l.length + 4 * tS t0 l
  | [] => Nat.zero_le _
  | c :: r => by
    have := Wim h r
    have := Wil h c.list.l
    show 1 + wC w0 c.list.l + wL w0 r ≤ (r.length + 1) + 4 * (c.list.l.length + tC t0 c.list.l + tS t0 r)
    omega
theorem Win : ∀ (k : Nat) (s : Sl (Cx k)), wN k s ≤ 4 * tot k s
  | 0, s => Nat.le_refl _
  | k + 1, s => by
    have h := Wim (Win k) (show List (Co (Cx k)) from s.l)
    have e1 : wN (k + 1) s = wL (wN k) (show List (Co (Cx k)) from s.l) := rfl
    have e2 : tot (k + 1) s = (show List (Co (Cx k)) from s.l).length + tS (tot k) (show List (Co (Cx k)) from s.l) := rfl
    omega
def Ex (p q : Pln) : Prop := p.atoms.length ≤ q.atoms.length ∧ (∃ t, q.ctrs = p.ctrs ++ t) ∧ p.rows.length ≤ q.rows.length
theorem Ex.rfl' {p : Pln} : Ex p p := ⟨Nat.le_refl _, ⟨[], by simp⟩, Nat.le_refl _⟩
theorem Ex.tr {p q r : Pln} (h : Ex p q) (h' : Ex q r) : Ex p r := by
  obtain ⟨a1, ⟨t, a2⟩, a3⟩ := h
  obtain ⟨b1, ⟨u, b2⟩, b3⟩ := h'
  exact ⟨by omega, ⟨t ++ u, by rw [b2, a2, List.append_assoc]⟩, by omega⟩
theorem OkK.mono {A A' : Nat} {C C' : List Ctr} {row row' k i : Int} {len : Nat} (hA : A ≤ A') (hC : ∃ t, C' = C ++ t) (hr : row ≤ row') (h : OkK A C row k i len) : OkK A' C' row' k i len := by
  obtain ⟨h1, h2⟩ := h
  refine ⟨h1, ?_⟩
  rcases h2 with ⟨a, b, c⟩ | ⟨a, b, c⟩ | h | ⟨a, b, c, d, e, f⟩ | h | h | h
  · exact .inl ⟨a, b, by omega⟩
  · exact .inr (.inl ⟨a, b, by omega⟩)
  · exact .inr (.inr (.inl h))
  · refine .inr (.inr (.inr (.inl ⟨a, b, c, ?_, e, fun r hr' => ⟨(f r hr').1, by have := (f r hr').2; omega⟩⟩)))
    obtain ⟨t, rfl⟩ := hC
    obtain ⟨hl, _⟩ := List.getElem?_eq_some_iff.1 d
    rw [List.getElem?_append_left hl]; exact d
  · exact .inr (.inr (.inr (.inr (.inl h))))
  · exact .inr (.inr (.inr (.inr (.inr (.inl h)))))
  · exact .inr (.inr (.inr (.inr (.inr (.inr h)))))
theorem OkD.mono {A A' : Nat} {C C' : List Ctr} {row row' : Int} (hA : A ≤ A') (hC : ∃ t, C' = C ++ t) (hr : row ≤ row') : ∀ (d : Nat) (t : Trm), OkD A C row d t → OkD A' C' row' d t
  | 0, _, h => h.elim
  | d + 1, .mk k i ts, h => ⟨h.1.mono hA hC hr, fun t ht => OkD.mono hA hC hr d t (h.2 t ht)⟩
theorem RI.mono {A A' : Nat} {C C' : List Ctr} (hA : A ≤ A') (hC : ∃ t, C' = C ++ t) : ∀ (l : List Rw) (i : Nat) (n : Int), RI A C i n l → RI A' C' i n l
  | [], i, n, _ => trivial
  | r :: rs, i, n, ⟨h1, h2, h3, h4, h5⟩ => ⟨h1, h2, h3, fun s hs => ⟨(h4 s hs).1, fun t ht => OkD.mono hA hC (Int.le_refl _) 8 t ((h4 s hs).2 t ht)⟩, RI.mono hA hC rs _ _ h5⟩
theorem Qsc : ∀ (l : List Rw) (r : Rw), totR (l ++ [r]) = totR l + r.steps.length
  | [], r => by show (r.steps.length : Int) + 0 = 0 + _; omega
  | x :: l, r => by
    have := Qsc l r
    show (x.steps.length : Int) + totR (l ++ [r]) = x.steps.length + totR l + _
    omega
theorem RI.app {A : Nat} {C : List Ctr} {r : Rw} (h2 : ¬ r.steps = []) (h3 : r.steps.length ≤ 800000) : ∀ (l : List Rw) (i : Nat) (n : Int), RI A C i n l → r.first = n + totR l → (∀ s ∈ r.steps, s.ts.length ≤ 800000 ∧ ∀ t ∈ s.ts, OkD A C ((i + l.length : Nat) : Int) 8 t) → RI A C i n (l ++ [r])
  | [], i, n, _, hf, ho => ⟨by rw [hf]; show n + 0 = n; omega, h2, h3, ho, trivial⟩
  | x :: l, i, n, ⟨a1, a2, a3, a4, a5⟩, hf, ho => by
    refine ⟨a1, a2, a3, a4, RI.app h2 h3 l (i + 1) (n + x.steps.length) a5 ?_ ?_⟩
    · rw [hf]
      show n + ((x.steps.length : Int) + totR l) = _
      omega
    · intro s hs
      have := ho s hs
      rw [show i + (x :: l).length = i + 1 + l.length by simp; omega] at this
      exact this
def Iv (p : Pln) : Prop := (∀ a ∈ p.atoms, AtOk a) ∧ p.atoms.Nodup ∧ RI p.atoms.length p.ctrs 0 0 p.rows ∧ p.steps = totR p.rows
def TOk (p : Pln) (t : Trm) : Prop := OkD p.atoms.length p.ctrs p.rows.length 8 t
theorem TOk.mono {p q : Pln} {t : Trm} (h : TOk p t) (e : Ex p q) : TOk q t := OkD.mono e.1 e.2.1 (by have := e.2.2; omega) 8 t h
theorem Qxz {a : Atm} : ∀ (l : List Atm) (i : Nat), posA a l i = none → a ∉ l
  | [], i, _ => by simp
  | b :: r, i, h => by
    unfold posA at h
    split at h
    · cases h
    · rename_i c
      have := Qxz r (i + 1) h
      intro hm
      rcases List.mem_cons.1 hm with rfl | hm
      · exact c rfl
      · exact this hm
theorem Qhx {p : Pln} {a : Atm} (h : Iv p) (ha : AtOk a) : Iv (Qbd p a).2 ∧ Ex p (Qbd p a).2 ∧ ∃ i : Nat, (Qbd p a).1 = .mk 1 i [] ∧ i < (Qbd p a).2.atoms.length := by
  obtain ⟨h1, h2, h3, h4⟩ := h
  unfold Qbd
  cases c : posA a p.atoms 0 with
  | some i => exact ⟨⟨h1, h2, h3, h4⟩, Ex.rfl', i, rfl, by have := Wbx _ _ _ c; show i < p.atoms.length; omega⟩
  | none =>
    have hn := Qxz _ _ c
    have hlen : (p.atoms ++ [a]).length = p.atoms.length + 1 := by simp
    refine ⟨⟨?_, ?_, ?_, h4⟩, ⟨by show p.atoms.length ≤ (p.atoms ++ [a]).length; omega, ⟨[], by show p.ctrs = _; simp⟩, Nat.le_refl _⟩, p.atoms.length, rfl, by show p.atoms.length < (p.atoms ++ [a]).length; omega⟩
    · intro b hb
      have hb' : b ∈ p.atoms ++ [a] := hb
      rcases List.mem_append.1 hb' with hb | hb
      · exact h1 b hb
      · rw [List.mem_singleton.1 hb]; exact ha
    · show (p.atoms ++ [a]).Nodup
      refine List.nodup_append.2 ⟨h2, by simp, fun x hx y hy => ?_⟩
      rw [List.mem_singleton.1 hy]
      rintro rfl
      exact hn hx
    · show RI (p.atoms ++ [a]).length p.ctrs 0 0 p.rows
      exact RI.mono (by omega) ⟨[], by simp⟩ _ _ _ h3
theorem Qhy {A : Nat} {C : List Ctr} {row k i : Int} {d : Nat} (h : OkK A C row k i 0) : OkD A C row (d + 1) (.mk k i []) := ⟨h, fun t ht => (by cases ht)⟩
def TA (p : Pln) (t : Trm) : Prop := ∀ d, OkD p.atoms.length p.ctrs p.rows.length (d + 1) t
theorem Qm8 {p : Pln} {a : Atm} (h : Iv p) (ha : AtOk a) : TA (Qbd p a).2 (Qbd p a).1 := by
  obtain ⟨_, _, i, e, hi⟩ := Qhx h ha
  intro d
  rw [e]
  exact Qhy ⟨by decide, .inl ⟨rfl, by omega, by omega⟩⟩
theorem TA.mono {p q : Pln} {t : Trm} (h : TA p t) (e : Ex p q) : TA q t := fun d => OkD.mono e.1 e.2.1 (by have := e.2.2; omega) (d + 1) t (h d)
theorem Wio {p : Pln} : TA p (.mk 7 0 []) := fun d => Qhy ⟨by decide, .inr (.inr (.inr (.inr (.inr (.inr rfl)))))⟩
theorem Wkj {p : Pln} : TA p (.mk 6 0 []) := fun d => Qhy ⟨by decide, .inr (.inr (.inr (.inr (.inr (.inl rfl)))))⟩
section
variable {n : Nms} (hn : NmB n) (hok : okN n = true)
theorem Wb7 : ∀ (f i j : Nat), okF n f i = true → i ≤ j → j < i + f → j < n.pres.l.length → okAt n j = true
  | 0, i, j, h, h1, h2, h3 => by omega
  | f + 1, i, j, h, h1, h2, h3 => by
    unfold okF at h
    rw [if_pos (show i < n.pres.l.length by omega), Bool.and_eq_true] at h
    by_cases c : i = j
    · subst c; exact h.1
    · exact Wb7 f (i + 1) j h.2 (by omega) (by omega) h3
theorem Wb8 (l : List (List UInt8)) (t : List UInt8) : ∀ (f i : Nat), 0 ≤ idxF l t f i → (idxF l t f i).toNat < l.length
  | 0, i, h => by
    have : idxF l t 0 i = -1 := rfl
    omega
  | f + 1, i, h => by
    unfold idxF at h ⊢
    split
    · rename_i c1
      rw [if_pos c1] at h
      split
      · rw [Int.toNat_natCast]; exact c1
      · rename_i c2
        rw [if_neg c2] at h
        exact Wb8 l t f (i + 1) h
    · rename_i c1
      rw [if_neg c1] at h
      omega
theorem Qc5 : Qcn [] = true := rfl
include hn hok
theorem We9 : Qcn n.dflt = true := by
  unfold okN okN0 at hok
  simp only [Bool.and_eq_true] at hok
  exact hok.1.2
theorem Wip (pre : List UInt8) : Qcn (spT n pre) = true ∧ (spT n pre).length ≤ 100 := by
  unfold spT
  split
  · rename_i c
    have h1 := Wb8 n.pres.l pre _ _ c
    have h2 : okF n (n.pres.l.length + 1) 0 = true := by
      unfold okN at hok
      rw [Bool.and_eq_true] at hok
      exact hok.2
    have h3 := Wb7 (n.pres.l.length + 1) 0 (idxS n.pres.l pre).toNat h2 (by omega) (by have h1' : (idxS n.pres.l pre).toNat < n.pres.l.length := h1; omega) h1
    unfold okAt at h3
    simp only [Bool.and_eq_true] at h3
    refine ⟨h3.2, ?_⟩
    rw [List.getD_eq_getElem?_getD]
    cases hx : n.spaces.l[(idxS n.pres.l pre).toNat]? with
    | none => simp
    | some x => exact hn.2.2.2.2 x (List.mem_of_getElem? hx)
  · exact ⟨Qc5, by simp⟩
theorem Qo3 (a : Atm) (ha : a.space = []) (ns : Int) (pre : List UInt8) : (Qe9 n a ns pre).kind = a.kind ∧ (Qe9 n a ns pre).name = a.name ∧ (Qe9 n a ns pre).text = a.text ∧ Qcn (Qe9 n a ns pre).space = true ∧ (Qe9 n a ns pre).space.length ≤ 100 := by
  have h1 := We9 hn hok
  have h2 := Wip hn hok pre
  have h3 := hn.1
  unfold Qe9
  simp only
  have e : (if 0 ≤ idxS n.pres.l pre then n.spaces.l.getD (idxS n.pres.l pre).toNat [] else []) = spT n pre := rfl
  rw [e]
  by_cases c1 : ns = 0
  · rw [if_pos c1]
    split <;> refine ⟨rfl, rfl, rfl, ?_⟩
    · exact ⟨h1, h3⟩
    · exact ⟨Qc5, by simp⟩
  rw [if_neg c1]
  by_cases c2 : ns = 2
  · rw [if_pos c2]
    split <;> exact ⟨rfl, rfl, rfl, Qc5, by simp⟩
  rw [if_neg c2]
  by_cases c3 : ns = 3
  · rw [if_pos c3]
    split <;> refine ⟨rfl, rfl, rfl, ?_⟩
    · exact h2
    · exact ⟨Qc5, by simp⟩
  rw [if_neg c3]
  split <;> refine ⟨rfl, rfl, rfl, ?_⟩
  · rw [ha]; exact ⟨Qc5, by simp⟩
  · exact ⟨Qc5, by simp⟩
theorem Qg5 {p : Pln} (h : Iv p) (ns : Int) (pre name : List UInt8) (hg : Qcn name = true) (hl : name.length ≤ 100) : Iv (Qa7 n p ns pre name).2 ∧ Ex p (Qa7 n p ns pre name).2 ∧ TA (Qa7 n p ns pre name).2 (Qa7 n p ns pre name).1 := by
  unfold Qa7
  split
  · exact ⟨h, Ex.rfl', Wio⟩
  · obtain ⟨k1, k2, k3, k4, k5⟩ := Qo3 hn hok ⟨1, false, [], name, 0, [], false⟩ rfl ns pre
    have ha : AtOk (elA n ns pre name) := by
      unfold elA
      refine ⟨by omega, by rw [k3]; simp, by rw [k2]; show name.length ≤ 1000; omega, k4, by rw [k3]; exact Qc5, by rw [k2]; exact hg, .inl k1⟩
    obtain ⟨a1, a2, _⟩ := Qhx h ha
    exact ⟨a1, a2, Qm8 h ha⟩
omit hn hok in
theorem Qm9 {p : Pln} (h : Iv p) (name : List UInt8) (op : Int) (text : List UInt8) (hg : Qcn name = true) (hne : ¬ name = []) (hl : name.length ≤ 100) (ht : Qcn text = true) (hl' : text.length ≤ 100) : Iv (Qil p name op text).2 ∧ Ex p (Qil p name op text).2 ∧ TA (Qil p name op text).2 (Qil p name op text).1 := by
  have ha : AtOk (atA name op text) := ⟨by show ([] : List UInt8).length ≤ _; simp, by show text.length ≤ _; omega, by show name.length ≤ _; omega, Qc5, ht, hg, .inr (.inl ⟨rfl, hne⟩)⟩
  obtain ⟨a1, a2, _⟩ := Qhx h ha
  exact ⟨a1, a2, Qm8 h ha⟩
theorem Waq {p : Pln} (h : Iv p) : Iv (Qk7 n p).2 ∧ Ex p (Qk7 n p).2 ∧ TOk (Qk7 n p).2 (Qk7 n p).1 := by
  obtain ⟨a1, a2, a3⟩ := Qg5 hn hok h 0 [] [97] rfl (by simp)
  obtain ⟨b1, b2, b3⟩ := Qg5 hn hok a1 0 [] [97, 114, 101, 97] rfl (by simp)
  obtain ⟨c1, c2, c3⟩ := Qm9 b1 [104, 114, 101, 102] 1 [] rfl (by simp) (by simp) rfl (by simp)
  refine ⟨c1, (a2.tr b2).tr c2, ?_⟩
  have a4 := (a3.mono b2).mono c2
  have b4 := b3.mono c2
  show OkD _ _ _ 8 (notT (anyT [notT (anyT [_, _]), notT _]))
  refine ⟨⟨by simp, .inr (.inr (.inl ⟨rfl, rfl⟩))⟩, fun t ht => ?_⟩
  rw [List.mem_singleton.1 ht]
  refine ⟨⟨by simp, .inr (.inr (.inr (.inr (.inl rfl))))⟩, fun t ht => ?_⟩
  simp only [List.mem_cons, List.mem_nil_iff, or_false] at ht
  rcases ht with rfl | rfl
  · refine ⟨⟨by simp, .inr (.inr (.inl ⟨rfl, rfl⟩))⟩, fun t ht => ?_⟩
    rw [List.mem_singleton.1 ht]
    refine ⟨⟨by simp, .inr (.inr (.inr (.inr (.inl rfl))))⟩, fun t ht => ?_⟩
    simp only [List.mem_cons, List.mem_nil_iff, or_false] at ht
    rcases ht with rfl | rfl
    · exact a4 3
    · exact b4 3
  · refine ⟨⟨by simp, .inr (.inr (.inl ⟨rfl, rfl⟩))⟩, fun t ht => ?_⟩
    rw [List.mem_singleton.1 ht]
    exact c3 4
end
end Go.Proofs.YtapnplljnpconaaGreatDoor
namespace Go.Proofs.YtapnplljnpconaaGreatDoor
open Go.Ev
set_option maxRecDepth 100000
set_option maxHeartbeats 4000000
section
variable {α : Type} {n : Nms} {s : Sm α} {b : Bool}
theorem Wiq (h : s.kind = 1) (hs : Qdw n b s = true) : Qik s.name = true := by
  unfold Qdw at hs
  rw [if_pos h] at hs
  simp only [Bool.and_eq_true] at hs
  exact hs.1.2
theorem Wir (h : s.kind = 2) (hs : Qdw n b s = true) : s.name = [] := by
  unfold Qdw at hs
  rw [if_neg (by omega), if_pos h, Bool.and_eq_true] at hs
  have h2 := hs.2
  unfold Qey at h2
  simp only [Bool.and_eq_true, decide_eq_true_eq] at h2
  exact h2.1.1.1.1.2
theorem Qx0 (h : s.kind = 3 ∨ s.kind = 4) (hs : Qdw n b s = true) : Qik s.name = true := by
  unfold Qdw at hs
  rw [if_neg (by omega), if_neg (by omega), if_pos h, Bool.and_eq_true] at hs
  exact hs.1
theorem Wfa (h : s.kind = 11) (hs : Qdw n b s = true) : Qgl s.name = true := by
  unfold Qdw at hs
  rw [if_neg (by omega), if_neg (by omega), if_neg (by omega), if_pos h, Bool.and_eq_true] at hs
  exact hs.1
theorem Wis (h : s.kind = 5) (hs : Qdw n b s = true) : Qik s.name = true ∧ Qcn s.text = true := by
  unfold Qdw at hs
  rw [if_neg (by omega), if_neg (by omega), if_neg (by omega), if_neg (by omega), if_neg (by omega), if_pos h] at hs
  simp only [Bool.and_eq_true] at hs
  refine ⟨hs.1.1.2, ?_⟩
  have h2 := hs.1.2
  unfold Qw9 at h2
  split at h2
  · cases h2
  · rename_i c
    cases hg : Qcn s.text with
    | true => rfl
    | false => exact absurd (.inr (.inr (.inl hg))) c
theorem Wit (h : s.kind = 7) (hs : Qdw n b s = true) : b = true ∨ s.of.l = [] := by
  unfold Qdw at hs
  rw [if_neg (by omega), if_neg (by omega), if_neg (by omega), if_neg (by omega), if_neg (by omega), if_neg (by omega), if_neg (by omega), if_pos h] at hs
  simp only [Bool.and_eq_true, Bool.or_eq_true, decide_eq_true_eq] at hs
  rcases hs.1.2 with h | h
  · exact .inr (List.length_eq_zero_iff.1 (by omega))
  · exact .inl h
theorem Wb9 (h : s.kind = 8 ∨ s.kind = 9 ∨ s.kind = 10) (hs : Qdw n b s = true) : b = true := by
  unfold Qdw at hs
  rw [if_neg (by omega), if_neg (by omega), if_neg (by omega), if_neg (by omega), if_neg (by omega), if_neg (by omega), if_neg (by omega), if_neg (by omega), if_pos h, Bool.and_eq_true] at hs
  exact hs.1
theorem Qhz {t : List UInt8} (h : Qik t = true) : Qcn t = true ∧ ¬ t = [] := by
  unfold Qik at h
  simp only [Bool.and_eq_true, decide_eq_true_eq] at h
  exact ⟨h.2, h.1⟩
theorem Qqe : Qb0.all Qcn = true := by decide +kernel
theorem Qts {t : List UInt8} (h : Qgl t = true) : Qcn t = true := by
  unfold Qgl hasS at h
  rw [List.any_eq_true] at h
  obtain ⟨x, hx, he⟩ := h
  rw [decide_eq_true_eq] at he
  rw [he]
  exact List.all_eq_true.1 Qqe x hx
end
section
variable {α : Type} {v : α → V} {n : Nms} (hn : NmB n) (hok : okN n = true) {r0 : Pln → Sl α → List Int × Pln} {w0 : Sl α → Nat} {okl : Sl α → Bool} {bq : Sl α → Prop}
def Qx1 (r0 : Pln → Sl α → List Int × Pln) (w0 : Sl α → Nat) (okl : Sl α → Bool) (bq : Sl α → Prop) : Prop := ∀ (p : Pln) (s : Sl α) (m : Nat), Iv p → Pz p m → m + w0 s ≤ 800000 → bq s → (okl s = true ∨ s.l = []) →
  Iv (r0 p s).2 ∧ Ex p (r0 p s).2 ∧ ∀ x ∈ (r0 p s).1, 0 ≤ x ∧ x < (r0 p s).2.rows.length
def SmL (n : Nms) (okl : Sl α → Bool) (bq : Sl α → Prop) (s : Sm α) : Prop := SmB s ∧ bq s.of ∧ Qdw n (okl s.of) s = true
theorem Qx2 {p : Pln} {rs : List Int} (h : ∀ x ∈ rs, 0 ≤ x ∧ x < p.rows.length) (hl : rs.length ≤ 800000) (d : Nat) : OkD p.atoms.length p.ctrs p.rows.length (d + 2) (Qc4 rs) := by
  refine ⟨⟨by rw [List.length_map]; exact hl, .inr (.inr (.inr (.inr (.inl rfl))))⟩, fun t ht => ?_⟩
  obtain ⟨x, hx, rfl⟩ := List.mem_map.1 ht
  exact Qhy ⟨by decide, .inr (.inl ⟨rfl, h x hx⟩)⟩
variable (hR : Qhw v n r0 w0) (hW : Qx1 r0 w0 okl bq)
include hn hok hR hW
theorem War {p : Pln} {m : Nat} (s : Sm α) (hs : SmL n okl bq s) (h : Iv p) (hp : Pz p m) (hm : m + (4 + w0 s.of) ≤ 800000) :
    Iv (Qdd r0 n p s).2 ∧ Ex p (Qdd r0 n p s).2 ∧ TOk (Qdd r0 n p s).2 (Qdd r0 n p s).1 ∧ Pz (Qdd r0 n p s).2 (m + (4 + w0 s.of)) := by
  obtain ⟨⟨b1, b2, b3⟩, hq, hsm⟩ := hs
  obtain ⟨_, pr, lr⟩ := hR p s.of m .nils rfl hp (by omega)
  suffices hh : Iv (Qdd r0 n p s).2 ∧ Ex p (Qdd r0 n p s).2 ∧ TOk (Qdd r0 n p s).2 (Qdd r0 n p s).1 from ⟨hh.1, hh.2.1, hh.2.2, Pz.term hp pr⟩
  have hw := fun ho => hW p s.of m h hp (by omega) hq ho
  have cg : Qcn [99, 108, 97, 115, 115] = true := rfl
  have ig : Qcn [105, 100] = true := rfl
  unfold Qdd
  by_cases c1 : s.kind = 1 ∨ s.kind = 2
  · rw [if_pos c1]
    have hg : Qcn s.name = true := by
      rcases c1 with c | c
      · exact (Qhz (Wiq c hsm)).1
      · rw [Wir c hsm]; exact Qc5
    obtain ⟨a1, a2, a3⟩ := Qg5 hn hok h s.ns s.pre s.name hg b2
    exact ⟨a1, a2, a3 7⟩
  rw [if_neg c1]
  by_cases c3 : s.kind = 3
  · rw [if_pos c3]
    obtain ⟨hg, hne⟩ := Qhz (Qx0 (.inl c3) hsm)
    obtain ⟨a1, a2, a3⟩ := Qm9 h [99, 108, 97, 115, 115] 3 s.name cg (by simp) (by simp) hg b2
    exact ⟨a1, a2, a3 7⟩
  rw [if_neg c3]
  by_cases c4 : s.kind = 4
  · rw [if_pos c4]
    obtain ⟨hg, hne⟩ := Qhz (Qx0 (.inr c4) hsm)
    obtain ⟨a1, a2, a3⟩ := Qm9 h [105, 100] 2 s.name ig (by simp) (by simp) hg b2
    exact ⟨a1, a2, a3 7⟩
  rw [if_neg c4]
  by_cases c5 : s.kind = 5
  · rw [if_pos c5]
    obtain ⟨h5, ht⟩ := Wis c5 hsm
    obtain ⟨hg, hne⟩ := Qhz h5
    obtain ⟨k1, k2, k3, k4, k5⟩ := Qo3 hn hok ⟨2, false, [], s.name, s.op, s.text, s.fold⟩ rfl (if s.ns = 0 then 2 else s.ns) s.pre
    have ha : AtOk (Qdy n s) := by
      unfold Qdy
      exact ⟨by omega, by rw [k3]; show s.text.length ≤ 1000; omega, by rw [k2]; show s.name.length ≤ 1000; omega, k4, by rw [k3]; exact ht, by rw [k2]; exact hg, .inr (.inl ⟨k1, by rw [k2]; exact hne⟩)⟩
    obtain ⟨a1, a2, _⟩ := Qhx h ha
    exact ⟨a1, a2, Qm8 h ha 7⟩
  rw [if_neg c5]
  by_cases c11 : s.kind = 11
  · rw [if_pos c11]
    have hst := Wfa c11 hsm
    have ha : AtOk ⟨3, false, [], s.name, 0, [], false⟩ := ⟨by simp, by simp, by show s.name.length ≤ 1000; omega, Qc5, Qc5, Qts hst, .inr (.inr ⟨rfl, hst⟩)⟩
    obtain ⟨a1, a2, _⟩ := Qhx h ha
    exact ⟨a1, a2, Qm8 h ha 7⟩
  rw [if_neg c11]
  by_cases c6 : s.kind = 6
  · rw [if_pos c6]
    exact ⟨h, Ex.rfl', Wkj 7⟩
  rw [if_neg c6]
  by_cases c8 : s.kind = 8 ∨ s.kind = 9
  · rw [if_pos c8]
    obtain ⟨w1, w2, w3⟩ := hw (.inl (Wb9 (by omega) hsm))
    exact ⟨w1, w2, Qx2 w3 (by omega) 6⟩
  rw [if_neg c8]
  by_cases c10 : s.kind = 10
  · rw [if_pos c10]
    obtain ⟨w1, w2, w3⟩ := hw (.inl (Wb9 (.inr (.inr c10)) hsm))
    refine ⟨w1, w2, ⟨⟨by simp, .inr (.inr (.inl ⟨rfl, rfl⟩))⟩, fun t ht => ?_⟩⟩
    rw [List.mem_singleton.1 ht]
    exact Qx2 w3 (by omega) 5
  rw [if_neg c10]
  by_cases c7 : s.kind = 7
  · rw [if_pos c7]
    obtain ⟨w1, w2, w3⟩ := hw (Wit c7 hsm)
    have e1 : Ex (r0 p s.of).2 (addC (r0 p s.of).2 ⟨s.a, s.b, (r0 p s.of).1⟩) := ⟨Nat.le_refl _, ⟨[_], rfl⟩, Nat.le_refl _⟩
    obtain ⟨i1, i2, i3, i4⟩ := w1
    refine ⟨⟨i1, i2, RI.mono (Nat.le_refl _) e1.2.1 _ _ _ i3, i4⟩, w2.tr e1, ?_⟩
    refine Qhy (d := 7) ⟨by decide, .inr (.inr (.inr (.inl ⟨rfl, by omega, ⟨s.a, s.b, (r0 p s.of).1⟩, ?_, by show (r0 p s.of).1.length ≤ _; omega, w3⟩)))⟩
    show ((r0 p s.of).2.ctrs ++ [_])[((r0 p s.of).2.ctrs.length : Int).toNat]? = _
    rw [Int.toNat_natCast]
    simp
  rw [if_neg c7]
  by_cases c12 : s.kind = 12
  · rw [if_pos c12]
    exact Waq hn hok h
  rw [if_neg c12]
  exact ⟨h, Ex.rfl', Wio 7⟩
theorem Qo4 : ∀ (r : List (Sm α)) (p : Pln) (m : Nat), (∀ s ∈ r, SmL n okl bq s) → Iv p → Pz p m → m + wX w0 r ≤ 800000 →
    Iv (Qb3 r0 n p r).2 ∧ Ex p (Qb3 r0 n p r).2 ∧ Pz (Qb3 r0 n p r).2 (m + wX w0 r) ∧ (Qb3 r0 n p r).1.length = r.length ∧ ∀ t ∈ (Qb3 r0 n p r).1, TOk (Qb3 r0 n p r).2 t
  | [], p, m, hs, h, hp, hm => ⟨h, Ex.rfl', hp, rfl, fun t ht => (by cases ht)⟩
  | s :: r, p, m, hs, h, hp, hm => by
    have e : wX w0 (s :: r) = 4 + w0 s.of + wX w0 r := rfl
    obtain ⟨a1, a2, a3, a4⟩ := War hn hok hR hW s (hs s (List.mem_cons_self ..)) h hp (by omega)
    obtain ⟨b1, b2, b3, b4, b5⟩ := Qo4 r (Qdd r0 n p s).2 (m + (4 + w0 s.of)) (fun s' h' => hs s' (List.mem_cons_of_mem _ h')) a1 a4 (by omega)
    refine ⟨b1, a2.tr b2, b3.le (by omega), by show _ + 1 = _ + 1; rw [b4], fun t ht => ?_⟩
    rcases List.mem_cons.1 ht with rfl | ht
    · exact a3.mono b2
    · exact b5 t ht
theorem Qo5 : ∀ (r : List (Cp α)) (p : Pln) (m : Nat), (∀ x ∈ r, ∀ s ∈ x.list.l, SmL n okl bq s) → Iv p → Pz p m → m + wC w0 r ≤ 800000 →
    Iv (Qck r0 n p r).2 ∧ Ex p (Qck r0 n p r).2 ∧ (∃ m', Pz (Qck r0 n p r).2 m' ∧ m' + r.length ≤ m + wC w0 r) ∧ ∀ st ∈ (Qck r0 n p r).1, st.ts.length ≤ 800000 ∧ ∀ t ∈ st.ts, TOk (Qck r0 n p r).2 t
  | [], p, m, hs, h, hp, hm => ⟨h, Ex.rfl', ⟨m, hp, Nat.le_refl _⟩, fun t ht => (by cases ht)⟩
  | x :: r, p, m, hs, h, hp, hm => by
    have e : wC w0 (x :: r) = 1 + wX w0 x.list.l + wC w0 r := rfl
    obtain ⟨a1, a2, a3, a4, a5⟩ := Qo4 hn hok hR hW x.list.l p m (hs x (List.mem_cons_self ..)) h hp (by omega)
    obtain ⟨b1, b2, ⟨m', b3, b4⟩, b5⟩ := Qo5 r (Qb3 r0 n p x.list.l).2 (m + wX w0 x.list.l) (fun s' h' => hs s' (List.mem_cons_of_mem _ h')) a1 a3 (by omega)
    refine ⟨b1, a2.tr b2, ⟨m', b3, by show m' + (r.length + 1) ≤ _; omega⟩, fun st hst => ?_⟩
    rcases List.mem_cons.1 hst with rfl | hst
    · have := Qxu (w0 := w0) x.list.l
      refine ⟨by show (Qb3 r0 n p x.list.l).1.length ≤ _; omega, fun t ht => (a5 t ht).mono b2⟩
    · exact b5 st hst
def CoL (n : Nms) (okl : Sl α → Bool) (bq : Sl α → Prop) (c : Co α) : Prop := ¬ c.list.l = [] ∧ ∀ x ∈ c.list.l, ∀ s ∈ x.list.l, SmL n okl bq s
theorem Wfb {p : Pln} {m : Nat} (c : Co α) (hc : CoL n okl bq c) (h : Iv p) (hp : Pz p m) (hm : m + wR w0 c ≤ 800000) :
    Iv (rowP r0 n p c).2 ∧ Ex p (rowP r0 n p c).2 ∧ Pz (rowP r0 n p c).2 (m + wR w0 c) ∧ 0 ≤ (rowP r0 n p c).1 ∧ (rowP r0 n p c).1 < (rowP r0 n p c).2.rows.length := by
  have e : wR w0 c = 1 + wC w0 c.list.l := rfl
  obtain ⟨b1, b2, ⟨m', b3, b4⟩, b5⟩ := Qo5 hn hok hR hW c.list.l p m hc.2 h hp (by omega)
  have hlen := Qim (r0 := r0) (n := n) c.list.l p
  unfold rowP
  simp only
  generalize Qck r0 n p c.list.l = q at *
  obtain ⟨i1, i2, i3, i4⟩ := b1
  have hrows : (addR q.2 q.1 (Qde c)).rows.length = q.2.rows.length + 1 := by
    show (q.2.rows ++ [_]).length = _
    simp
  have hcl := Qxv (w0 := w0) c.list.l
  refine ⟨⟨i1, i2, ?_, ?_⟩, b2.tr ⟨Nat.le_refl _, ⟨[], by show q.2.ctrs = _; simp⟩, by omega⟩, (b3.addR (k := c.list.l.length + 1) (by omega) (by omega)).le (by omega), by omega, by omega⟩
  · show RI q.2.atoms.length q.2.ctrs 0 0 (q.2.rows ++ [⟨q.2.steps, q.1, Qde c⟩])
    refine RI.app ?_ ?_ _ _ _ i3 ?_ ?_
    · show ¬ q.1 = []
      intro hq
      rw [hq] at hlen
      exact hc.1 (List.length_eq_zero_iff.1 hlen.symm)
    · show q.1.length ≤ _
      omega
    · show q.2.steps = 0 + totR q.2.rows
      omega
    · intro s hs
      rw [Nat.zero_add]
      exact b5 s hs
  · show q.2.steps + q.1.length = totR (q.2.rows ++ [_])
    rw [Qsc, i4]
theorem Qna : ∀ (r : List (Co α)) (p : Pln) (m : Nat), (∀ c ∈ r, CoL n okl bq c) → Iv p → Pz p m → m + wL w0 r ≤ 800000 →
    Iv (Qdx r0 n p r).2 ∧ Ex p (Qdx r0 n p r).2 ∧ ∀ x ∈ (Qdx r0 n p r).1, 0 ≤ x ∧ x < (Qdx r0 n p r).2.rows.length
  | [], p, m, hs, h, hp, hm => ⟨h, Ex.rfl', fun t ht => (by cases ht)⟩
  | c :: r, p, m, hs, h, hp, hm => by
    have e : wL w0 (c :: r) = wR w0 c + wL w0 r := rfl
    obtain ⟨a1, a2, a3, a4, a5⟩ := Wfb hn hok hR hW c (hs c (List.mem_cons_self ..)) h hp (by omega)
    obtain ⟨b1, b2, b3⟩ := Qna r (rowP r0 n p c).2 (m + wR w0 c) (fun s' h' => hs s' (List.mem_cons_of_mem _ h')) a1 a3 (by omega)
    refine ⟨b1, a2.tr b2, fun x hx => ?_⟩
    rcases List.mem_cons.1 hx with rfl | hx
    · have h1 := b2.2.2
      refine ⟨a4, ?_⟩
      show _ < ((Qdx r0 n (rowP r0 n p c).2 r).2.rows.length : Int)
      omega
    · exact b3 x hx
end
section
variable {α : Type} {n : Nms} {okl : Sl α → Bool}
theorem Qx3 {pseudo : Bool} {len : Nat} : ∀ (r : List (Sm α)) (i : Nat), cmpR n okl pseudo len i r = true → ∀ s ∈ r, Qdw n (okl s.of) s = true
  | [], i, h, s, hs => by cases hs
  | y :: r, i, h, s, hs => by
    unfold cmpR at h
    split at h
    · cases h
    split at h
    · cases h
    split at h
    · cases h
    rename_i c1 _ _
    rcases List.mem_cons.1 hs with rfl | hs
    · cases hh : Qdw n (okl s.of) s with
      | true => rfl
      | false => exact absurd hh c1
    · exact Qx3 r (i + 1) h s hs
theorem Qx4 {outer : Bool} {len : Nat} : ∀ (r : List (Cp α)) (i : Nat), innR n okl outer len i r = true → ∀ x ∈ r, ∀ s ∈ x.list.l, Qdw n (okl s.of) s = true
  | [], i, h, x, hx => by cases hx
  | y :: r, i, h, x, hx => by
    unfold innR at h
    split at h
    · cases h
    split at h
    · cases h
    split at h
    · cases h
    rename_i _ _ c1
    rcases List.mem_cons.1 hx with rfl | hx
    · unfold Qxa at c1
      cases hh : cmpR n okl (outer && decide ((i : Int) = len - 1)) x.list.l.length 0 x.list.l with
      | true => exact Qx3 _ _ hh
      | false => exact absurd hh c1
    · exact Qx4 r (i + 1) h x hx
theorem Qx5 {outer : Bool} {tot : Nat} : ∀ (r : List (Co α)), lstR n okl outer tot r = true → ∀ c ∈ r, ¬ c.list.l = [] ∧ ∀ x ∈ c.list.l, ∀ s ∈ x.list.l, Qdw n (okl s.of) s = true
  | [], h, x, hx => by cases hx
  | y :: r, h, x, hx => by
    unfold lstR at h
    split at h
    · cases h
    rename_i c0
    split at h
    · rename_i c1
      rcases List.mem_cons.1 hx with rfl | hx
      · exact ⟨fun e => c0 (by rw [e]; rfl), Qx4 _ _ c1⟩
      · exact Qx5 r h x hx
    · cases h
end
section
variable {n : Nms} (hn : NmB n) (hok : okN n = true)
include hn hok
theorem Wca {k : Nat} {okl : Sl (Cx k) → Bool} {outer : Bool} {s : Sl (Co (Cx k))} {d : Nat} (hb : Bd d (k + 1) s) (h : lstS n okl outer s = true) : ∀ c ∈ s.l, CoL n okl (fun s => ∃ d, Bd d k s) c := fun c hc => by
  obtain ⟨h1, h2⟩ := Qx5 _ h c hc
  refine ⟨h1, fun x hx y hy => ?_⟩
  have hB := ((hb.2 c hc).2 x hx).2 y hy
  exact ⟨⟨hB.1, hB.2.1, hB.2.2.1⟩, ⟨d - 1, hB.2.2.2.2⟩, h2 x hx y hy⟩
theorem Qsd : ∀ k : Nat, Qx1 (rwsN n k) (wN k) (okC n k false) (fun s => ∃ d, Bd d k s)
  | 0 => fun p s m h hp hm hb ho => ⟨h, Ex.rfl', fun x hx => (by cases hx)⟩
  | k + 1 => fun p s m h hp hm ⟨d, hb⟩ ho => by
    rcases ho with ho | ho
    · exact Qna hn hok (Qkx hn k) (Qsd k) _ p m (Wca hn hok hb ho) h hp hm
    · have e : rwsN n (k + 1) p s = ([], p) := by
        show Qdx (rwsN n k) n p (show List (Co (Cx k)) from s.l) = _
        rw [show (show List (Co (Cx k)) from s.l) = [] from ho]
        rfl
      rw [e]
      exact ⟨h, Ex.rfl', fun x hx => (by cases hx)⟩
theorem Wfc : ∀ (k : Nat) (s : Sl (Cx k)) (d : Nat), Bd d k s → okC n k true s = true → ∀ (p : Pln) (m : Nat), Iv p → Pz p m → m + wN k s ≤ 800000 → Iv (rwsN n k p s).2
  | 0, s, d, hb, ho, p, m, h, hp, hm => by cases ho
  | k + 1, s, d, hb, ho, p, m, h, hp, hm => (Qna hn hok (Qkx hn k) (Qsd hn hok k) _ p m (Wca hn hok hb ho) h hp hm).1
theorem Qse {k : Nat} : ∀ (r : List (Sl (Cx k))) (p : Pln) (L : List (List Int)) (i m : Nat) (q : Pln × List (List Int)), Qi8 n p L i r = .inl q → (∀ s ∈ r, ∃ d, Bd d k s) → Iv p → Pz p m → m + wA r ≤ 800000 → Iv q.1 ∧ Pz q.1 (m + wA r) ∧ q.2.length = L.length + r.length
  | [], p, L, i, m, q, e, hb, h, hp, hm => by
    cases e
    exact ⟨h, hp, rfl⟩
  | s :: r, p, L, i, m, q, e, hb, h, hp, hm => by
    have e2 : wA (s :: r) = wN k s + wA r := rfl
    unfold Qi8 at e
    split at e
    · rename_i c
      obtain ⟨d, hd⟩ := hb s (List.mem_cons_self ..)
      have ho : okC n k true s = true := by
        unfold chkS at c
        rw [hok, if_neg (by decide)] at c
        split at c
        · omega
        · split at c
          · omega
          · rename_i c3
            cases hh : okC n k true s with
            | true => rfl
            | false => exact absurd hh c3
      have h1 := Wfc hn hok k s d hd ho p m h hp (by omega)
      have h2 := (Qkx hn k p s m .nils rfl hp (by omega)).2.1
      obtain ⟨a1, a2, a3⟩ := Qse r _ _ _ (m + wN k s) q e (fun s' hs' => hb s' (List.mem_cons_of_mem _ hs')) h1 h2 (by omega)
      refine ⟨a1, a2.le (by omega), ?_⟩
      rw [a3, List.length_append, List.length_cons, List.length_cons, List.length_nil]
      omega
    · cases e
theorem Wfd {k : Nat} {LL : List (Sl (Cx k))} {q : Pln × List (List Int)} (e : Qi8 n p0 [] 0 LL = .inl q) (hb : ∀ s ∈ LL, ∃ d, Bd d k s) (hw : wA LL ≤ 800000) : PlOk q.1 ∧ q.2.length = LL.length := by
  have h0 : Iv p0 := ⟨fun a ha => (by cases ha), List.nodup_nil, trivial, rfl⟩
  obtain ⟨⟨a1, a2, a3, a4⟩, ⟨b1, b2, b3, b4, b5⟩, c⟩ := Qse hn hok LL p0 [] 0 0 q e hb h0 ⟨Nat.le_refl _, Nat.le_refl _, Nat.le_refl _, Int.le_refl _, Int.le_refl _⟩ (by omega)
  exact ⟨⟨by omega, by omega, a1, a2, a3, a4, by omega⟩, by rw [c]; simp⟩
end
end Go.Proofs.YtapnplljnpconaaGreatDoor
namespace Go.Ev
open Go
abbrev Road := Mach → List V → Objs → Ro
def ap1 (s : Mach → V → Objs → Ro) : Road := fun M xs σ => match xs with | [a] => s M a σ | _ => none
def ap2 (s : Mach → V → V → Objs → Ro) : Road := fun M xs σ => match xs with | [a, b] => s M a b σ | _ => none
def ap3 (s : Mach → V → V → V → Objs → Ro) : Road := fun M xs σ => match xs with | [a, b, c] => s M a b c σ | _ => none
def ap4 (s : Mach → V → V → V → V → Objs → Ro) : Road := fun M xs σ => match xs with | [a, b, c, d] => s M a b c d σ | _ => none
def Qky (F : Fn) (h : Road) : Prop := ∀ M xs σ, Le (h M xs σ) (fnK M F xs σ)
theorem Qa5 {F : Fn} {s} (h : ∀ M a σ, fnK M F [a] σ = s M a σ) : Qky F (ap1 s) := fun M xs σ r hr => by
  unfold ap1 at hr
  split at hr
  · rw [h]; exact hr
  · cases hr
theorem Qb6 {F : Fn} {s} (h : ∀ M a b σ, fnK M F [a, b] σ = s M a b σ) : Qky F (ap2 s) := fun M xs σ r hr => by
  unfold ap2 at hr
  split at hr
  · rw [h]; exact hr
  · cases hr
theorem Qgm {F : Fn} {s} (h : ∀ M a b c σ, fnK M F [a, b, c] σ = s M a b c σ) : Qky F (ap3 s) := fun M xs σ r hr => by
  unfold ap3 at hr
  split at hr
  · rw [h]; exact hr
  · cases hr
theorem Wiu {F : Fn} {s} (h : ∀ M a b c d σ, fnK M F [a, b, c, d] σ = s M a b c d σ) : Qky F (ap4 s) := fun M xs σ r hr => by
  unfold ap4 at hr
  split at hr
  · rw [h]; exact hr
  · cases hr
def fnR (F : Fn) : Road := fun M xs σ => fnK M F xs σ
theorem Qbi (F : Fn) : Qky F (fnR F) := fun _ _ _ => Le.refl _
inductive Tr where
  | nil | node (f : Nat) (h : Road) (l r : Tr)
noncomputable def Tr.get (t : Tr) (g : Nat) : Option Road :=
  Tr.rec none (fun f h _ _ il ir => cond (Nat.beq g f) (some h) (cond (Nat.ble g f) il ir)) t
def TrOk (C : Ctx) : Tr → Prop
  | .nil => True
  | .node f h l r => (∃ F, C.prim f = none ∧ C.code f = some F ∧ Qky F h) ∧ TrOk C l ∧ TrOk C r
theorem Qx6 {C : Ctx} : ∀ {t : Tr}, TrOk C t → ∀ {g : Nat} {h : Road}, t.get g = some h → ∃ F, C.prim g = none ∧ C.code g = some F ∧ Qky F h
  | .nil, _, g, h, hg => by cases hg
  | .node f h0 l r, ht, g, h, hg => by
    have e : (Tr.node f h0 l r).get g = cond (Nat.beq g f) (some h0) (cond (Nat.ble g f) (l.get g) (r.get g)) := rfl
    rw [e] at hg
    cases hb : Nat.beq g f with
    | true =>
      rw [hb] at hg
      cases hg
      rw [Nat.eq_of_beq_eq_true hb]
      exact ht.1
    | false =>
      rw [hb] at hg
      cases hl : Nat.ble g f with
      | true => rw [hl] at hg; exact Qx6 ht.2.1 hg
      | false => rw [hl] at hg; exact Qx6 ht.2.2 hg
noncomputable def run (G : GV) (prim : FuncId → Option (List V → Objs → Ro)) (t : Tr) (k : Nat) (n : Nat) : FuncId → List V → Objs → Ro :=
  Nat.rec (fun _ _ _ => none) (fun _ ih f xs σ => match t.get f with | some h => h ⟨G, ih, fun F => iter F k⟩ xs σ | none => match prim f with | some h => h xs σ | none => none) n
theorem Was {F F' : Rk → Rk} (hF : ∀ f g, LeF f g → LeF (F f) (F g)) (hF' : ∀ f g, LeF f g → LeF (F' f) (F' g)) (h : ∀ f g, LeF f g → LeF (F f) (F' g)) : LeF (fixL F) (fixL F') := by
  intro vs σ r hr
  obtain ⟨j, hj⟩ := ((Qn4 (Qfn hF vs σ)).iff r).1 hr
  exact ((Qn4 (Qfn hF' vs σ)).iff r).2 ⟨j, Qic h (Nat.le_refl j) vs σ r hj⟩
theorem Wat {F F' : Rk → Rk} (hF' : ∀ f g, LeF f g → LeF (F' f) (F' g)) (h : ∀ f g, LeF f g → LeF (F f) (F' g)) (k : Nat) : LeF (iter F k) (fixL F') := by
  intro vs σ r hr
  exact ((Qn4 (Qfn hF' vs σ)).iff r).2 ⟨k, Qic h (Nat.le_refl k) vs σ r hr⟩
theorem Wiv {C : Ctx} {t : Tr} (ht : TrOk C t) (k : Nat) : ∀ (n : Nat) (f : FuncId) (xs : List V) (σ : Objs), Le (run C.G C.prim t k n f xs σ) (E C f xs σ)
  | 0, f, xs, σ => fun r h => by cases h
  | n + 1, f, xs, σ => by
    intro r h
    have e : run C.G C.prim t k (n + 1) f xs σ = match t.get f with | some h => h ⟨C.G, run C.G C.prim t k n, fun F => iter F k⟩ xs σ | none => match C.prim f with | some h => h xs σ | none => none := rfl
    rw [e] at h
    cases hg : t.get f with
    | none =>
      rw [hg] at h
      simp only at h
      cases hp : C.prim f with
      | none => rw [hp] at h; cases h
      | some p => rw [hp] at h; rw [Wa1 hp]; exact h
    | some hh =>
      rw [hg] at h
      obtain ⟨F, hp, hc, hr⟩ := Qx6 ht hg
      have h1 := hr _ _ _ r h
      rw [E_fn hp hc]
      refine Qk4 (M := ⟨C.G, run C.G C.prim t k n, fun F => iter F k⟩) (N := Mi C) F.body ⟨rfl, fun f xs σ => Wiv ht k n f xs σ⟩ (fun F F' _ h2 h3 => Wat h2 h3 k) ⟨rfl, fun _ _ _ => Le.refl _⟩ (fun F F' _ _ h3 => Qic h3 (Nat.le_refl k)) ⟨rfl, fun _ _ _ => Le.refl _⟩ (fun F F' h2 h3 h4 => Was h2 h3 h4) (Qmb _) _ _ r h1
theorem Wkk {C : Ctx} {t : Tr} (ht : TrOk C t) {k n : Nat} {f : FuncId} {xs : List V} {σ : Objs} {r : V × Objs} (h : run C.G C.prim t k n f xs σ = some r) : E C f xs σ = some r := Wiv ht k n f xs σ r h
end Go.Ev
set_option maxRecDepth 100000
namespace Go.Proofs.YtapnplljnpconaaGreatDoor
open Go.Ev
def Wfe : Tr := (.node 104 (ap1 s_Z12) (.node 52 (ap2 s_Zw) (.node 30 (ap2 s_Z13) (.node 13 (fnR c_Z1r) (.node 8 (ap2 s_Z10) (.node 6 (fnR c_Z1q) (.node 3 (ap2 s_Z1n) .nil .nil) (.node 7 (ap3 s_Z1o) .nil .nil)) (.node 10 (ap1 s_Z2y) (.node 9 (ap3 s_Z1p) .nil .nil) .nil)) (.node 27 (ap1 s_Z1m) (.node 21 (fnR c_Zz) (.node 14 (fnR c_Z2q) .nil .nil) (.node 26 (fnR c_Z2w) .nil .nil)) (.node 29 (ap1 s_Z14) (.node 28 (ap2 s_Z2o) .nil .nil) .nil))) (.node 39 (ap2 s_Z2p) (.node 34 (ap1 s_Z2r) (.node 32 (ap2 s_Z6) (.node 31 (ap3 s_Zx) .nil .nil) (.node 33 (ap1 s_Z2z) .nil .nil)) (.node 38 (ap1 s_Z2t) (.node 37 (ap1 s_Z2u) .nil .nil) .nil)) (.node 49 (ap3 s_Z2s) (.node 47 (fnR c_Z2x) (.node 46 (ap2 s_Z1h) .nil .nil) (.node 48 (fnR c_Z2d) .nil .nil)) (.node 51 (ap1 s_Z1b) (.node 50 (ap1 s_Z1g) .nil .nil) .nil)))) (.node 78 (ap1 s_Z22) (.node 70 (fnR c_Z1v) (.node 67 (ap2 s_Z1j) (.node 55 (ap2 s_Z5) (.node 54 (ap3 s_Zp) .nil .nil) (.node 56 (ap1 s_Z1u) .nil .nil)) (.node 69 (fnR c_Z29) (.node 68 (fnR c_Zh) .nil .nil) .nil)) (.node 75 (ap1 s_Z16) (.node 72 (ap1 s_Zy) (.node 71 (fnR c_Z1s) .nil .nil) (.node 74 (ap3 s_Zo) .nil .nil)) (.node 77 (ap2 s_Z1t) (.node 76 (ap2 s_Z9) .nil .nil) .nil))) (.node 98 (ap2 s_Zq) (.node 94 (ap2 s_Z2c) (.node 91 (fnR c_Za) (.node 90 (fnR c_Ze) .nil .nil) (.node 92 (ap2 s_Zn) .nil .nil)) (.node 96 (ap1 s_Z1k) (.node 95 (ap1 s_Z1x) .nil .nil) .nil)) (.node 101 (ap2 s_Z0) (.node 100 (ap4 s_Z1) (.node 99 (ap2 s_Z3) .nil .nil) .nil) (.node 103 (ap2 s_Z7) (.node 102 (ap3 s_Z8) .nil .nil) .nil))))) (.node 139 (ap1 s_Z19) (.node 126 (fnR c_Z2f) (.node 117 (fnR c_Zd) (.node 108 (ap1 s_Z1z) (.node 106 (ap1 s_Z4) (.node 105 (ap2 s_Z2) .nil .nil) (.node 107 (ap1 s_Z21) .nil .nil)) (.node 116 (fnR c_Zf) (.node 109 (ap1 s_Z1w) .nil .nil) .nil)) (.node 122 (fnR c_Z2k) (.node 119 (ap1 s_Z27) (.node 118 (ap2 s_Z2e) .nil .nil) (.node 120 (fnR c_Z2l) .nil .nil)) (.node 125 (fnR c_Z2b) (.node 124 (ap3 s_Z2i) .nil .nil) .nil))) (.node 133 (ap2 s_Z1e) (.node 130 (fnR c_Z2n) (.node 128 (ap2 s_Z2h) (.node 127 (fnR c_Z2j) .nil .nil) (.node 129 (fnR c_Z2a) .nil .nil)) (.node 132 (ap2 s_Zv) (.node 131 (ap1 s_Z1l) .nil .nil) .nil)) (.node 136 (ap1 s_Z1c) (.node 135 (ap1 s_Z1f) (.node 134 (ap1 s_Zq_1) .nil .nil) .nil) (.node 138 (ap1 s_Z15) (.node 137 (ap1 s_Z18) .nil .nil) .nil)))) (.node 155 (ap2 s_Z2g) (.node 146 (ap2 s_Z17) (.node 143 (ap1 s_Zq_4) (.node 141 (ap1 s_Zq_3) (.node 140 (ap1 s_Zq_2) .nil .nil) (.node 142 (ap1 s_Z1d) .nil .nil)) (.node 145 (ap2 s_Z1i) (.node 144 (ap1 s_Z1a) .nil .nil) .nil)) (.node 151 (fnR c_Zi) (.node 148 (ap3 s_Z20) (.node 147 (ap1 s_Z11) .nil .nil) (.node 150 (fnR c_Zj) .nil .nil)) (.node 153 (fnR c_Zm) (.node 152 (ap3 s_Zl) .nil .nil) .nil))) (.node 167 (ap1 s_Z23) (.node 161 (fnR c_Z1y) (.node 158 (fnR c_Z24) (.node 157 (fnR c_Z2m) .nil .nil) (.node 160 (ap1 s_Z25) .nil .nil)) (.node 165 (fnR c_Zc) (.node 162 (fnR c_Zk) .nil .nil) .nil)) (.node 172 (fnR c_Z2v) (.node 169 (ap1 s_Z26) (.node 168 (ap1 s_Z28) .nil .nil) .nil) (.node 177 (fnR c_Zg) (.node 174 (fnR c_Zb) .nil .nil) .nil))))))
theorem Qtt : TrOk cx Wfe := ⟨⟨c_Z12, by kernel_rfl, by kernel_rfl, Qa5 k_Z12⟩, ⟨⟨c_Zw, by kernel_rfl, by kernel_rfl, Qb6 k_Zw⟩, ⟨⟨c_Z13, by kernel_rfl, by kernel_rfl, Qb6 k_Z13⟩, ⟨⟨c_Z1r, by kernel_rfl, by kernel_rfl, Qbi _⟩, ⟨⟨c_Z10, by kernel_rfl, by kernel_rfl, Qb6 k_Z10⟩, ⟨⟨c_Z1q, by kernel_rfl, by kernel_rfl, Qbi _⟩, ⟨⟨c_Z1n, by kernel_rfl, by kernel_rfl, Qb6 k_Z1n⟩, trivial, trivial⟩, ⟨⟨c_Z1o, by kernel_rfl, by kernel_rfl, Qgm k_Z1o⟩, trivial, trivial⟩⟩, ⟨⟨c_Z2y, by kernel_rfl, by kernel_rfl, Qa5 k_Z2y⟩, ⟨⟨c_Z1p, by kernel_rfl, by kernel_rfl, Qgm k_Z1p⟩, trivial, trivial⟩, trivial⟩⟩, ⟨⟨c_Z1m, by kernel_rfl, by kernel_rfl, Qa5 k_Z1m⟩, ⟨⟨c_Zz, by kernel_rfl, by kernel_rfl, Qbi _⟩, ⟨⟨c_Z2q, by kernel_rfl, by kernel_rfl, Qbi _⟩, trivial, trivial⟩, ⟨⟨c_Z2w, by kernel_rfl, by kernel_rfl, Qbi _⟩, trivial, trivial⟩⟩, ⟨⟨c_Z14, by kernel_rfl, by kernel_rfl, Qa5 k_Z14⟩, ⟨⟨c_Z2o, by kernel_rfl, by kernel_rfl, Qb6 k_Z2o⟩, trivial, trivial⟩, trivial⟩⟩⟩, ⟨⟨c_Z2p, by kernel_rfl, by kernel_rfl, Qb6 k_Z2p⟩, ⟨⟨c_Z2r, by kernel_rfl, by kernel_rfl, Qa5 k_Z2r⟩, ⟨⟨c_Z6, by kernel_rfl, by kernel_rfl, Qb6 k_Z6⟩, ⟨⟨c_Zx, by kernel_rfl, by kernel_rfl, Qgm k_Zx⟩, trivial, trivial⟩, ⟨⟨c_Z2z, by kernel_rfl, by kernel_rfl, Qa5 k_Z2z⟩, trivial, trivial⟩⟩, ⟨⟨c_Z2t, by kernel_rfl, by kernel_rfl, Qa5 k_Z2t⟩, ⟨⟨c_Z2u, by kernel_rfl, by kernel_rfl, Qa5 k_Z2u⟩, trivial, trivial⟩, trivial⟩⟩, ⟨⟨c_Z2s, by kernel_rfl, by kernel_rfl, Qgm k_Z2s⟩, ⟨⟨c_Z2x, by kernel_rfl, by kernel_rfl, Qbi _⟩, ⟨⟨c_Z1h, by kernel_rfl, by kernel_rfl, Qb6 k_Z1h⟩, trivial, trivial⟩, ⟨⟨c_Z2d, by kernel_rfl, by kernel_rfl, Qbi _⟩, trivial, trivial⟩⟩, ⟨⟨c_Z1b, by kernel_rfl, by kernel_rfl, Qa5 k_Z1b⟩, ⟨⟨c_Z1g, by kernel_rfl, by kernel_rfl, Qa5 k_Z1g⟩, trivial, trivial⟩, trivial⟩⟩⟩⟩, ⟨⟨c_Z22, by kernel_rfl, by kernel_rfl, Qa5 k_Z22⟩, ⟨⟨c_Z1v, by kernel_rfl, by kernel_rfl, Qbi _⟩, ⟨⟨c_Z1j, by kernel_rfl, by kernel_rfl, Qb6 k_Z1j⟩, ⟨⟨c_Z5, by kernel_rfl, by kernel_rfl, Qb6 k_Z5⟩, ⟨⟨c_Zp, by kernel_rfl, by kernel_rfl, Qgm k_Zp⟩, trivial, trivial⟩, ⟨⟨c_Z1u, by kernel_rfl, by kernel_rfl, Qa5 k_Z1u⟩, trivial, trivial⟩⟩, ⟨⟨c_Z29, by kernel_rfl, by kernel_rfl, Qbi _⟩, ⟨⟨c_Zh, by kernel_rfl, by kernel_rfl, Qbi _⟩, trivial, trivial⟩, trivial⟩⟩, ⟨⟨c_Z16, by kernel_rfl, by kernel_rfl, Qa5 k_Z16⟩, ⟨⟨c_Zy, by kernel_rfl, by kernel_rfl, Qa5 k_Zy⟩, ⟨⟨c_Z1s, by kernel_rfl, by kernel_rfl, Qbi _⟩, trivial, trivial⟩, ⟨⟨c_Zo, by kernel_rfl, by kernel_rfl, Qgm k_Zo⟩, trivial, trivial⟩⟩, ⟨⟨c_Z1t, by kernel_rfl, by kernel_rfl, Qb6 k_Z1t⟩, ⟨⟨c_Z9, by kernel_rfl, by kernel_rfl, Qb6 k_Z9⟩, trivial, trivial⟩, trivial⟩⟩⟩, ⟨⟨c_Zq, by kernel_rfl, by kernel_rfl, Qb6 k_Zq⟩, ⟨⟨c_Z2c, by kernel_rfl, by kernel_rfl, Qb6 k_Z2c⟩, ⟨⟨c_Za, by kernel_rfl, by kernel_rfl, Qbi _⟩, ⟨⟨c_Ze, by kernel_rfl, by kernel_rfl, Qbi _⟩, trivial, trivial⟩, ⟨⟨c_Zn, by kernel_rfl, by kernel_rfl, Qb6 k_Zn⟩, trivial, trivial⟩⟩, ⟨⟨c_Z1k, by kernel_rfl, by kernel_rfl, Qa5 k_Z1k⟩, ⟨⟨c_Z1x, by kernel_rfl, by kernel_rfl, Qa5 k_Z1x⟩, trivial, trivial⟩, trivial⟩⟩, ⟨⟨c_Z0, by kernel_rfl, by kernel_rfl, Qb6 k_Z0⟩, ⟨⟨c_Z1, by kernel_rfl, by kernel_rfl, Wiu k_Z1⟩, ⟨⟨c_Z3, by kernel_rfl, by kernel_rfl, Qb6 k_Z3⟩, trivial, trivial⟩, trivial⟩, ⟨⟨c_Z7, by kernel_rfl, by kernel_rfl, Qb6 k_Z7⟩, ⟨⟨c_Z8, by kernel_rfl, by kernel_rfl, Qgm k_Z8⟩, trivial, trivial⟩, trivial⟩⟩⟩⟩⟩, ⟨⟨c_Z19, by kernel_rfl, by kernel_rfl, Qa5 k_Z19⟩, ⟨⟨c_Z2f, by kernel_rfl, by kernel_rfl, Qbi _⟩, ⟨⟨c_Zd, by kernel_rfl, by kernel_rfl, Qbi _⟩, ⟨⟨c_Z1z, by kernel_rfl, by kernel_rfl, Qa5 k_Z1z⟩, ⟨⟨c_Z4, by kernel_rfl, by kernel_rfl, Qa5 k_Z4⟩, ⟨⟨c_Z2, by kernel_rfl, by kernel_rfl, Qb6 k_Z2⟩, trivial, trivial⟩, ⟨⟨c_Z21, by kernel_rfl, by kernel_rfl, Qa5 k_Z21⟩, trivial, trivial⟩⟩, ⟨⟨c_Zf, by kernel_rfl, by kernel_rfl, Qbi _⟩, ⟨⟨c_Z1w, by kernel_rfl, by kernel_rfl, Qa5 k_Z1w⟩, trivial, trivial⟩, trivial⟩⟩, ⟨⟨c_Z2k, by kernel_rfl, by kernel_rfl, Qbi _⟩, ⟨⟨c_Z27, by kernel_rfl, by kernel_rfl, Qa5 k_Z27⟩, ⟨⟨c_Z2e, by kernel_rfl, by kernel_rfl, Qb6 k_Z2e⟩, trivial, trivial⟩, ⟨⟨c_Z2l, by kernel_rfl, by kernel_rfl, Qbi _⟩, trivial, trivial⟩⟩, ⟨⟨c_Z2b, by kernel_rfl, by kernel_rfl, Qbi _⟩, ⟨⟨c_Z2i, by kernel_rfl, by kernel_rfl, Qgm k_Z2i⟩, trivial, trivial⟩, trivial⟩⟩⟩, ⟨⟨c_Z1e, by kernel_rfl, by kernel_rfl, Qb6 k_Z1e⟩, ⟨⟨c_Z2n, by kernel_rfl, by kernel_rfl, Qbi _⟩, ⟨⟨c_Z2h, by kernel_rfl, by kernel_rfl, Qb6 k_Z2h⟩, ⟨⟨c_Z2j, by kernel_rfl, by kernel_rfl, Qbi _⟩, trivial, trivial⟩, ⟨⟨c_Z2a, by kernel_rfl, by kernel_rfl, Qbi _⟩, trivial, trivial⟩⟩, ⟨⟨c_Zv, by kernel_rfl, by kernel_rfl, Qb6 k_Zv⟩, ⟨⟨c_Z1l, by kernel_rfl, by kernel_rfl, Qa5 k_Z1l⟩, trivial, trivial⟩, trivial⟩⟩, ⟨⟨c_Z1c, by kernel_rfl, by kernel_rfl, Qa5 k_Z1c⟩, ⟨⟨c_Z1f, by kernel_rfl, by kernel_rfl, Qa5 k_Z1f⟩, ⟨⟨c_Zq_1, by kernel_rfl, by kernel_rfl, Qa5 k_Zq_1⟩, trivial, trivial⟩, trivial⟩, ⟨⟨c_Z15, by kernel_rfl, by kernel_rfl, Qa5 k_Z15⟩, ⟨⟨c_Z18, by kernel_rfl, by kernel_rfl, Qa5 k_Z18⟩, trivial, trivial⟩, trivial⟩⟩⟩⟩, ⟨⟨c_Z2g, by kernel_rfl, by kernel_rfl, Qb6 k_Z2g⟩, ⟨⟨c_Z17, by kernel_rfl, by kernel_rfl, Qb6 k_Z17⟩, ⟨⟨c_Zq_4, by kernel_rfl, by kernel_rfl, Qa5 k_Zq_4⟩, ⟨⟨c_Zq_3, by kernel_rfl, by kernel_rfl, Qa5 k_Zq_3⟩, ⟨⟨c_Zq_2, by kernel_rfl, by kernel_rfl, Qa5 k_Zq_2⟩, trivial, trivial⟩, ⟨⟨c_Z1d, by kernel_rfl, by kernel_rfl, Qa5 k_Z1d⟩, trivial, trivial⟩⟩, ⟨⟨c_Z1i, by kernel_rfl, by kernel_rfl, Qb6 k_Z1i⟩, ⟨⟨c_Z1a, by kernel_rfl, by kernel_rfl, Qa5 k_Z1a⟩, trivial, trivial⟩, trivial⟩⟩, ⟨⟨c_Zi, by kernel_rfl, by kernel_rfl, Qbi _⟩, ⟨⟨c_Z20, by kernel_rfl, by kernel_rfl, Qgm k_Z20⟩, ⟨⟨c_Z11, by kernel_rfl, by kernel_rfl, Qa5 k_Z11⟩, trivial, trivial⟩, ⟨⟨c_Zj, by kernel_rfl, by kernel_rfl, Qbi _⟩, trivial, trivial⟩⟩, ⟨⟨c_Zm, by kernel_rfl, by kernel_rfl, Qbi _⟩, ⟨⟨c_Zl, by kernel_rfl, by kernel_rfl, Qgm k_Zl⟩, trivial, trivial⟩, trivial⟩⟩⟩, ⟨⟨c_Z23, by kernel_rfl, by kernel_rfl, Qa5 k_Z23⟩, ⟨⟨c_Z1y, by kernel_rfl, by kernel_rfl, Qbi _⟩, ⟨⟨c_Z24, by kernel_rfl, by kernel_rfl, Qbi _⟩, ⟨⟨c_Z2m, by kernel_rfl, by kernel_rfl, Qbi _⟩, trivial, trivial⟩, ⟨⟨c_Z25, by kernel_rfl, by kernel_rfl, Qa5 k_Z25⟩, trivial, trivial⟩⟩, ⟨⟨c_Zc, by kernel_rfl, by kernel_rfl, Qbi _⟩, ⟨⟨c_Zk, by kernel_rfl, by kernel_rfl, Qbi _⟩, trivial, trivial⟩, trivial⟩⟩, ⟨⟨c_Z2v, by kernel_rfl, by kernel_rfl, Qbi _⟩, ⟨⟨c_Z26, by kernel_rfl, by kernel_rfl, Qa5 k_Z26⟩, ⟨⟨c_Z28, by kernel_rfl, by kernel_rfl, Qa5 k_Z28⟩, trivial, trivial⟩, trivial⟩, ⟨⟨c_Zg, by kernel_rfl, by kernel_rfl, Qbi _⟩, ⟨⟨c_Zb, by kernel_rfl, by kernel_rfl, Qbi _⟩, trivial, trivial⟩, trivial⟩⟩⟩⟩⟩⟩
end Go.Proofs.YtapnplljnpconaaGreatDoor
namespace Go.Proofs.YtapnplljnpconaaGreatDoor
open Go.Ev
set_option maxRecDepth 100000
theorem Wau : E cx 6 [] [] = some (.bool true, []) := Wkk Qtt (k := 100) (n := 40) (by kernel_rfl)
end Go.Proofs.YtapnplljnpconaaGreatDoor
namespace Go.Proofs.YtapnplljnpconaaGreatDoor
open Go.Ev
set_option maxRecDepth 100000
set_option maxHeartbeats 4000000
theorem Wiw {k : Nat} : ∀ l : List (Sl (Cx k)), (∀ s ∈ l, tot k s ≤ 100) → wA l ≤ 400 * l.length
  | [], h => Nat.zero_le _
  | s :: r, h => by
    have h1 := Wiw r fun s' h' => h s' (List.mem_cons_of_mem _ h')
    have h2 := Win k s
    have h3 := h s (List.mem_cons_self ..)
    show wN k s + wA r ≤ 400 * (r.length + 1)
    omega
theorem Qqf (n : Nms) {k : Nat} (LL : Sl (Sl (Cx k))) (hL : SlOk (SlOk (CxOk k)) LL) : E cx 3 [vSl (vSl (vCx k)) LL, vNms n] [] = some (.bool true, []) := by
  show E cx 3 [vSl (vSl (vCx k)) LL, .agg (Qaa n)] [] = _
  have w1 : Wf [.cells (Qaa n)] := Qb5 (Qae Qal Qay)
  have h1 : boxV [] (.agg (Qaa n)) = some (.ptr 0 0, [.cells (Qaa n)]) := Qbc ok_n no_n
  have l0 : ∀ τ : Objs, eL (.cells (Qaa n) :: τ) true 4 (.ptr 0 0) = some (.agg (Qaa n)) := fun τ => Qbt rfl rfl no_n
  have ks := Qcm Qci Wau rfl rfl _ w1
  obtain ⟨g, kg, hg⟩ := Wah n LL hL
  have kg1 := kg _ w1
  have hZ : V.rb 0 (vSl (vSl (vCx k)) LL) = true := Qaj fun _ _ => Qea
  have fZ : ∀ k' σ, fz k' σ fzD (vSl (vSl (vCx k)) LL) = some (vSl (vSl (vCx k)) LL) := fun k' σ => Qaw (rb0 hZ)
  have nZ : (vSl (vSl (vCx k)) LL).ng = vSl (vSl (vCx k)) LL := Qak
  have lZ : Qaq (vSl (vSl (vCx k)) LL) = some (.int .i64 LL.l.length) := Qag
  rw [e_Z1n]
  cases g with
  | true =>
    clear kg hg fZ
    generalize vSl (vSl (vCx k)) LL = Z at *
    generalize Qaa n = N at *
    simp +contextual -implicitDefEqProofs (disch := first | assumption | omega | (simp -implicitDefEqProofs only [go_sem]; try omega)) only [↓reduceIte, go_sem, iP, iN, w64, w8, w32, s_Z1n, h1, l0, ks, kg1, nZ]
  | false =>
    obtain ⟨g1, hn, g3⟩ := hg rfl
    have hw : wA LL.l ≤ 800000 := by
      have := Wiw LL.l fun s hs => (g3 s hs).2.2
      omega
    obtain ⟨x, hx, kx⟩ := Wii hn LL g1 (fun s hs => (g3 s hs).1) hw
    have kx1 := kx _ w1
    rcases hx with ⟨_, e, t, y, rfl, rfl⟩ | ⟨hok, ⟨i, _, t, y, rfl⟩ | ⟨q, hq, rfl⟩⟩
    · clear kg g3 fZ kx
      unfold plZ at kx1
      generalize vSl (vSl (vCx k)) LL = Z at *
      generalize Qaa n = N at *
      simp +contextual -implicitDefEqProofs (disch := first | assumption | omega | (simp -implicitDefEqProofs only [go_sem]; try omega)) only [↓reduceIte, go_sem, iP, iN, w64, w8, w32, s_Z1n, h1, l0, ks, kg1, kx1, nZ]
    · clear kg g3 fZ kx
      unfold plZ at kx1
      generalize vSl (vSl (vCx k)) LL = Z at *
      generalize Qaa n = N at *
      simp +contextual -implicitDefEqProofs (disch := first | assumption | omega | (simp -implicitDefEqProofs only [go_sem]; try omega)) only [↓reduceIte, go_sem, iP, iN, w64, w8, w32, s_Z1n, h1, l0, ks, kg1, kx1, nZ]
    · obtain ⟨hp, hlen⟩ := Wfd hn hok hq (fun s hs => ⟨41, (g3 s hs).1⟩) hw
      have hR := hp.2.2.2.2.1
      have hst := hp.2.2.2.2.2.1
      have lo := Wb6 (p := q.1) (L := q.2) (n := n) hZ nZ hp (by rw [lZ, hlen]) q.1.rows [] 0 rfl hR (by omega) (Int.le_refl _)
      have lo' : l_Z1n_0 (Mi cx) 0 2 [vSl (vSl (vCx k)) LL, .ptr 1 0, .int .i64 0, vSl vRw (slo q.1.rows), .int .i64 q.1.rows.length, .int .i64 0] [.cells (Qaa n), .cells (plC q.1 q.2)] = some (.bool true, []) := lo
      have l1 : ∀ O1 : O, eL [O1, .cells (plC q.1 q.2)] false 1 (.ptr 1 1) = some (vSl vRw (slo q.1.rows)) := fun O1 => by
        show Option.map V.ng (some (vSl vRw (slo q.1.rows))) = _
        rw [Qao, Qak]
      have sR : (slo q.1.rows).l.length = q.1.rows.length := by rw [Qc3]
      have y1 : (plC q.1 q.2).length = 5 := rfl
      have y2 : Qai (plC q.1 q.2) = true := We8
      have y3 : (plC q.1 q.2).map V.ng = plC q.1 q.2 := Qtp
      have fR : ∀ k σ, fz k σ fzD (vSl vRw (slo q.1.rows)) = some (vSl vRw (slo q.1.rows)) := fun k σ => Qaw (Qaj fun n x => Qxi)
      clear kg g3 kx lo hp hR hst hq
      generalize plC q.1 q.2 = P at *
      generalize vSl (vSl (vCx k)) LL = Z at *
      generalize Qaa n = N at *
      simp +contextual -implicitDefEqProofs (disch := first | assumption | omega | (simp -implicitDefEqProofs only [go_sem]; try omega)) only [↓reduceIte, go_sem, iP, iN, w64, w8, w32, s_Z1n, h1, l0, ks, kg1, kx1, nZ, l1, sR, fZ, fR, Qag, Qak, lo']
end Go.Proofs.YtapnplljnpconaaGreatDoor
set_option maxRecDepth 100000
namespace Go.Proofs.YtapnplljnpconaaGreatDoor
open Go Go.Ev Go.ChangeShapes Go.WideShapes Go.RowKit
theorem Wcb : ∀ (n : Nat) (cs : List Value) (g : Nat → List Value), cs.length = 2 * n → (∀ i, i < n → (cs.drop (i * 2)).take 2 = g i) → cs = (List.range n).flatMap g
  | 0, cs, g, h, _ => by rw [List.length_eq_zero_iff.1 (by omega : cs.length = 0)]; rfl
  | n + 1, cs, g, h, hg => by
    have h0 := hg 0 (by omega)
    rw [Nat.zero_mul, List.drop_zero] at h0
    have ih := Wcb n (cs.drop 2) (fun i => g (i + 1)) (by rw [List.length_drop]; omega) (fun i hi => by
      rw [List.drop_drop]
      have := hg (i + 1) (by omega)
      rw [show (i + 1) * 2 = 2 + i * 2 by omega] at this
      exact this)
    rw [List.range_succ_eq_map, List.flatMap_cons, List.flatMap_map, ← h0]
    show cs = cs.take 2 ++ (List.range n).flatMap fun i => g (i + 1)
    rw [← ih, List.take_append_drop]
theorem Qkz {H : Type} {enc : TypeId × Value → H} {P : Program} {w : World} {base : Nat} {sp : Nat → Bool} {held : Bool} {fuel : Nat} {t e : TypeId} {n : Nat} {cs : List Value} {zs : List (List UInt8)} {p : List MemPlace}
    (ht : P.underlying t = some (.array n e)) (he : P.underlying e = some .string) (hce : P.cellsOf e = 1) (hct : P.cellsOf t = n)
    (h : DataW.trod enc P w base sp held fuel t cs = some (.agg (zs.map fun z => .lit (.string z)), p)) : cs = zs.map fun z => Value.string ⟨z.toArray⟩ := by
  cases fuel with
  | zero => simp [DataW.trod] at h
  | succ fuel =>
    simp only [DataW.trod, ht, hce, hct, Nat.mul_one] at h
    split at h
    · rename_i hl
      obtain ⟨xs, hm, hx⟩ := Option.map_eq_some_iff.1 h
      have hxs : xs.map (·.1) = zs.map fun z => (DataW.lit (.string z) : DataW H) := by
        have := congrArg Prod.fst hx
        simpa using this
      have hxl : xs.length = n := by simpa using Lib.mapM_length hm
      have hzl : zs.length = n := by
        have := congrArg List.length hxs
        simp at this
        omega
      apply List.ext_getElem?
      intro i
      by_cases hi : i < n
      · obtain ⟨b, hb, hf⟩ := Lib.mapM_at hm i i (by simp [hi])
        obtain ⟨c, hc⟩ : ∃ c, cs[i]? = some c := ⟨cs[i]'(by omega), List.getElem?_eq_getElem (by omega)⟩
        have hone : (cs.drop i).take 1 = [c] := by
          rw [List.drop_eq_getElem_cons (by omega)]
          have := (List.getElem?_eq_some_iff.1 hc).2
          rw [this]; rfl
        rw [hone] at hf
        have h2 : (xs.map (·.1))[i]? = some b.1 := by simp [hb]
        rw [hxs] at h2
        simp only [List.getElem?_map, Option.map_eq_some_iff] at h2
        obtain ⟨z, hz, hz2⟩ := h2
        have hcz : c = .string ⟨z.toArray⟩ := by
          cases fuel with
          | zero => simp [DataW.trod] at hf
          | succ fuel =>
            cases c with
            | string s =>
              simp only [DataW.trod, he] at hf
              split at hf
              · cases hf
                cases hz2
                rfl
              · cases hf
            | _ => simp [DataW.trod, he] at hf
        rw [hc, List.getElem?_map, hz, hcz]; rfl
      · rw [List.getElem?_eq_none (by omega), List.getElem?_eq_none (by simp; omega)]
    · cases h
theorem Qe0 {P : Program} {W : World} {n : String} {g : Nat} {us : List Value} {Vs : List V} (hg : P.globalNamed n = some g) (hv : W.var? P n = some us.toArray) (hl : Vs.length = us.length) (hr : ∀ (i : Nat) u c, us[i]? = some u → Vs[i]? = some c → Rep (memOf W) noPlc u c) :
    Rep (memOf W) noPlc (.pointer (some ⟨g, 0, none⟩)) (.eptr Vs 0) := by
  refine Rep.eptr (M := memOf W) (ι := noPlc) Vs 0 g 0 us (by omega) (fun i u hu => ?_) hr
  have h := World.var?_cell hg hv i
  rw [Nat.zero_add]
  exact h.trans (by rw [List.getElem?_toArray]; exact hu)
end Go.Proofs.YtapnplljnpconaaGreatDoor
namespace Go.Proofs.YtapnplljnpconaaGreatDoor
open Go.ChangeShapes Go.WideShapes Go.RowKit Go.Joins
open Go.ChangeMaps (open_string)
open Go Go.Ev
set_option maxRecDepth 100000
def accI : List Int := accN.flatMap fun p => [(p.1 : Int), (p.2 : Int)]
theorem Qsf : Tryz.prog.globalNamed "wattle/sel.states" = some 3 := by kernel_rfl
theorem Qlx : Tryz.prog.globalNamed "wattle/sel.elements" = some 4 := by kernel_rfl
theorem Qx7 : Tryz.prog.globalNamed "unicode/utf8.first" = some 1 := by kernel_rfl
theorem Wix : Tryz.prog.globalNamed "unicode/utf8.acceptRanges" = some 2 := by kernel_rfl
theorem Wff {W : World} (h : laidMetH Tryz.prog Rows.flatOrderRow.laid W) : ∀ g, Ev.Rep (Ev.memOf W) Ev.noPlc (.pointer (some ⟨g, 0, none⟩)) (gTab g) := by
  have hm : laidMet Tryz.prog [("unicode/utf8.acceptRanges", Rows.laid_unicode_utf8_acceptRanges), ("wattle/sel.states", Rows.laid_wattle_sel_states), ("wattle/sel.elements", Rows.laid_wattle_sel_elements), ("unicode/utf8.first", Rows.laid_unicode_utf8_first)] W := by rw [MakeChecks.laidMetH_plain _ _ _ (by kernel_rfl)] at h; exact h
  intro g
  unfold gTab
  split
  · rename_i e
    subst e
    obtain ⟨g, t, cs, fuel, p, e1, e2, e3, e4⟩ := Lib.laidMet.reads hm (n := "wattle/sel.states") (d := Rows.laid_wattle_sel_states) (by simp)
    obtain rfl := Option.some.inj (e1.symm.trans Qsf)
    obtain rfl := Option.some.inj (e2.symm.trans (show _ = some 218 by kernel_rfl))
    have e5 : cs.toList = Qb0.map fun z => Value.string ⟨z.toArray⟩ := Qkz Tryz.underlying218 Tryz.underlying9 (by kernel_rfl) (by kernel_rfl) e4
    refine Qe0 (us := Qb0.map fun z => Value.string ⟨z.toArray⟩) Qsf (by rw [e3, ← e5]) (by simp [Qp9]) (fun i u c hu hc => ?_)
    unfold Qp9 at hc
    rw [List.getElem?_map] at hu hc
    cases hz : Qb0[i]? with
    | none => rw [hz] at hu; cases hu
    | some z =>
      rw [hz] at hu hc
      cases hu; cases hc
      exact .str _ _ rfl
  split
  · rename_i e
    subst e
    obtain ⟨g, t, cs, fuel, p, e1, e2, e3, e4⟩ := Lib.laidMet.reads hm (n := "wattle/sel.elements") (d := Rows.laid_wattle_sel_elements) (by simp)
    obtain rfl := Option.some.inj (e1.symm.trans Qlx)
    obtain rfl := Option.some.inj (e2.symm.trans (show _ = some 219 by kernel_rfl))
    have e5 : cs.toList = Qb1.map fun z => Value.string ⟨z.toArray⟩ := Qkz Tryz.underlying219 Tryz.underlying9 (by kernel_rfl) (by kernel_rfl) e4
    refine Qe0 (us := Qb1.map fun z => Value.string ⟨z.toArray⟩) Qlx (by rw [e3, ← e5]) (by simp [Qkb]) (fun i u c hu hc => ?_)
    unfold Qkb at hc
    rw [List.getElem?_map] at hu hc
    cases hz : Qb1[i]? with
    | none => rw [hz] at hu; cases hu
    | some z =>
      rw [hz] at hu hc
      cases hu; cases hc
      exact .str _ _ rfl
  split
  · rename_i e
    subst e
    obtain ⟨g, t, cs, fuel, p, e1, e2, e3, e4⟩ := Lib.laidMet.reads hm (n := "unicode/utf8.first") (d := Rows.laid_unicode_utf8_first) (by simp)
    obtain rfl := Option.some.inj (e1.symm.trans Qx7)
    obtain rfl := Option.some.inj (e2.symm.trans (show _ = some 193 by kernel_rfl))
    have hd : Rows.laid_unicode_utf8_first = Lib.tabData .u8 (Qe7.map fun (n : Nat) => (n : Int)) := by kernel_rfl
    rw [hd] at e4
    have e5 := Lib.cells_of_tab Tryz.underlying193 Tryz.underlying5 (by kernel_rfl) (by kernel_rfl) e4
    refine Qe0 (us := (Qe7.map fun (n : Nat) => (n : Int)).map fun z => Value.int .u8 z) Qx7 (by rw [e3, ← e5]) (by simp [Qhp]) (fun i u c hu hc => ?_)
    unfold Qhp at hc
    rw [List.getElem?_map, List.getElem?_map] at hu
    rw [List.getElem?_map] at hc
    cases hz : Qe7[i]? with
    | none => rw [hz] at hu; cases hu
    | some z =>
      rw [hz] at hu hc
      cases hu; cases hc
      exact .int _ _
  split
  · rename_i e
    subst e
    obtain ⟨g, t, cs, fuel, p, e1, e2, e3, e4⟩ := Lib.laidMet.reads hm (n := "unicode/utf8.acceptRanges") (d := Rows.laid_unicode_utf8_acceptRanges) (by simp)
    obtain rfl := Option.some.inj (e1.symm.trans Wix)
    obtain rfl := Option.some.inj (e2.symm.trans (show _ = some 196 by kernel_rfl))
    have hd : (Rows.laid_unicode_utf8_acceptRanges : DataW Unit) = .agg (accN.map fun p => .agg ([(p.1 : Int), (p.2 : Int)].map fun z => .lit (.int .u8 z))) := by kernel_rfl
    rw [hd] at e4
    have hlen : cs.toList.length = 2 * 16 := by
      cases fuel with
      | zero => simp [DataW.trod] at e4
      | succ fuel =>
        simp only [DataW.trod, Tryz.underlying196] at e4
        split at e4
        · rename_i hl; rw [hl]; kernel_rfl
        · cases e4
    have e5 := Wcb 16 cs.toList (fun i => [Value.int .u8 ((accN.getD i (0, 0)).1 : Int), .int .u8 ((accN.getD i (0, 0)).2 : Int)]) hlen (fun i hi => by
      obtain ⟨fuel', d, q, h1, h2⟩ := Lib.array_elem Tryz.underlying196 e4 i hi
      have hc2 : Tryz.prog.cellsOf 195 = 2 := by kernel_rfl
      rw [hc2] at h2
      have hi' : i < accN.length := hi
      rw [List.getElem?_map, List.getElem?_eq_getElem hi'] at h1
      simp only [Option.map_some, Option.some.injEq] at h1
      have hgd : accN.getD i (0, 0) = accN[i] := by rw [List.getD_eq_getElem?_getD, List.getElem?_eq_getElem hi']; rfl
      rw [← h1] at h2
      rw [hgd]
      exact Lib.ints_of_struct Tryz.underlying195 (fun j f hf => by
        match j, hf with
        | 0, hf => cases hf; exact ⟨Tryz.underlying5, rfl, by kernel_rfl⟩
        | 1, hf => cases hf; exact ⟨Tryz.underlying5, rfl, by kernel_rfl⟩
        | j + 2, hf => exact absurd hf (by simp)) (by kernel_rfl) h2)
    have e6 : (List.range 16).flatMap (fun i => [Value.int .u8 ((accN.getD i (0, 0)).1 : Int), .int .u8 ((accN.getD i (0, 0)).2 : Int)]) = accI.map (Value.int .u8) := by kernel_rfl
    refine Qe0 (us := accI.map (Value.int .u8)) Wix (by rw [e3, ← e6, ← e5]) (by kernel_rfl) (fun i u c hu hc => ?_)
    have e7 : accV = accI.map (V.int .u8) := by kernel_rfl
    rw [e7] at hc
    rw [List.getElem?_map] at hu hc
    cases hz : accI[i]? with
    | none => rw [hz] at hu; cases hu
    | some z =>
      rw [hz] at hu hc
      cases hu; cases hc
      exact .int _ _
  · exact .any _
set_option maxRecDepth 100000 in
theorem Qi9 (os : Os) (started : os.Started) (H : Type) (enc : TypeId × Value → H) :
    ReturnsInHanded {} Tryz.checked os 3 .any (fun w args => (Rows.flatOrderSpec.pre enc Tryz.prog Tryz.f3 [] false w args ∧ laidMetH Tryz.prog Rows.flatOrderRow.laid w) ∧ sizedMet enc Tryz.prog Tryz.f3 (OpenSpec.ofChange Rows.flatOrderSpec) false w args)
      (Rows.flatOrderSpec.post enc Tryz.prog Tryz.f3 false true false false) := by
  refine returnsInHanded_of_change_and (C := Tryz.checked) (X := fun w _ => laidMetH Tryz.prog Rows.flatOrderRow.laid w) (fun _ _ _ hh h => h.of_heap hh) Tryz.ownKnob started (by kernel_rfl) Tryz.func3
    (ChangeSpec.witness_shaped (enc := enc) (C := Tryz.checked) (os := os) (X := fun w _ => laidMetH Tryz.prog Rows.flatOrderRow.laid w) false (World.laidAll Tryz.prog os Rows.flatOrderRow.laid) #[.slice none 0 0, .agg #[.bool false, .string ⟨#[]⟩, .slice none 0 0, .slice none 0 0]] 8 (World.laidAll_os _ _ _)
      (World.shaped_of_ZipB (by kernel_rfl) (by kernel_rfl)) (by kernel_rfl) (by kernel_rfl) (by kernel_rfl)
      (by rw [MakeChecks.laidMetH_plain _ _ _ (by kernel_rfl)]; exact laidMet_laidAll _ (by kernel_rfl) (by kernel_rfl))) ?_
  intro W base args ds gs before hval0 hW _ hS hL _
  have hval : ∀ (j : Nat) t v, Tryz.f3.params[j]? = some t → args[j]? = some v → Value.okWide Tryz.prog W .any base t v := hval0
  have hW' := hW
  obtain ⟨p, q, hA0, hV0, rfl, hfz, hnd⟩ := hW
  have hA : DataW.TrodAll enc Tryz.prog W 0 (fun _ => true) true Tryz.f3.params.toList args.toList ds p := hA0
  have hV : DataW.TrodVars enc Tryz.prog W (fun _ => true) [] gs q := hV0
  rw [Tryz.params3] at hA hval hS
  obtain ⟨v0, v1, d0, d1, p0, p1, rfl, rfl, rfl, h0, h1⟩ := trodAll_two hA
  obtain ⟨rfl, rfl⟩ := trodVars_none hV
  have z0 : Hv Tryz.prog 22 d0 := fun m hm => by
    have := List.all_eq_true.1 hS m (DataW.weights_mem_each (j := 0) (t := 22) (d := d0) rfl rfl m hm)
    simpa using this
  obtain ⟨k0, x0, q0, hb0⟩ := Qti (hval 0 22 v0 rfl rfl) h0 z0
  have z1 : Hv Tryz.prog 25 d1 := fun m hm => by
    have := List.all_eq_true.1 hS m (DataW.weights_mem_each (j := 1) (t := 25) (d := d1) rfl rfl m hm)
    simpa using this
  obtain ⟨x1, q1, hb1⟩ := Qtj (hval 1 25 v1 rfl rfl) h1 z1
  clear hA0 hval0
  obtain ⟨nf, hev⟩ := Ev.ev_of_E Whj (Qqf x1 x0 q0)
  refine (Ev.calls_of_ev (P := Tryz.prog) (by kernel_rfl) cx Wd8 Wi8 (F := c_Z1n) rfl W (args := [vSl (vSl (vCx k0)) x0, vNms x1]) (Ev.Reps.cons (hb0) (Ev.Reps.cons (hb1) (Ev.Reps.nil))) (by intro x hx; simp only [List.mem_cons, List.not_mem_nil, or_false] at hx; (repeat' (rcases hx with rfl | hx)); all_goals first | rfl | exact Qak | (subst hx; first | rfl | exact Qak)) ⟨Wff hL, fun p hp => by cases hp⟩ hev).mono fun e W' ⟨he, hb⟩ => ?_
  subst he
  exact ⟨_, rfl, Qz9 (tb := 4) Tryz.laidOut (by rw [Tryz.params3]; intro t ht; simp only [List.mem_cons, List.not_mem_nil, or_false] at ht; (repeat' (rcases ht with rfl | ht)); all_goals first | exact ⟨by kernel_rfl, of_decide_eq_true (by kernel_rfl)⟩ | (subst ht; exact ⟨by kernel_rfl, of_decide_eq_true (by kernel_rfl)⟩)) hW' rfl rfl Tryz.underlying4 rfl hb⟩
theorem Qk0 : Rows.FlatOrderSaid :=
  OpenClaim.holds_of_wide 3 Tryz.f3 rfl rfl rfl rfl rfl rfl rfl ⟨rfl, rfl, rfl, rfl, rfl⟩ rfl rfl rfl rfl rfl (by kernel_rfl) Tryz.func3 (by kernel_rfl)
    (of_decide_eq_true (by kernel_rfl)) (by unfold Func.isWrapper; rw [if_neg (of_decide_eq_false (by kernel_rfl))]; exact ⟨rfl, rfl⟩)
    (fun os started H enc _ => Qi9 os started H enc)
theorem flatOrder_card : Rows.FlatOrderCardSaid :=
  Claim7.holds_tied_plain_at .later [] _ _ _ _
    Qk0 (fun _ h => by cases h) (by kernel_rfl) (fun _ h => by cases h) flatOrder_row_tie rfl ⟨rfl, rfl⟩ (by kernel_rfl) rfl
    (fun f fn hf hfn => by
      obtain rfl : f = 3 := Option.some.inj ((show Tryz.prog.funcNamed "wattle/wattlelaw14.FlatOrder" = some 3 by kernel_rfl).symm.trans hf) |>.symm
      obtain rfl : fn = Tryz.f3 := (Option.some.inj (Tryz.func3.symm.trans hfn)).symm
      exact ⟨by kernel_rfl, fun j t ht => by
        rw [Tryz.params3] at ht
        have hm := Array.mem_of_getElem? ht
        simp only [List.mem_toArray, List.mem_cons, List.not_mem_nil, or_false] at hm
        (repeat' (rcases hm with rfl | hm))
        all_goals first | (subst hm; show Tryz.prog.wantsStandIn _ = false; kernel_rfl) | (show Tryz.prog.wantsStandIn _ = false; kernel_rfl)⟩)
    (by kernel_rfl)
#print axioms flatOrder_card
end Go.Proofs.YtapnplljnpconaaGreatDoor
