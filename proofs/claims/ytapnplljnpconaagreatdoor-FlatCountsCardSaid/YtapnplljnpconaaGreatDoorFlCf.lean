/- For any two lists and names FlatCounts answers true, and its arguments read as they did. Condition: the row's listed variables read as the program's text lays them; the card ties that. -/
import Derived.Test.YtapnplljnpconaaGreatDoorFlCe
import Derived.Stop.LaidErr
import Derived.Lib.LaidTab
import Derived.Lib.LaidU8
import Derived.ChangeVars
import Derived.JoinedOf
import Derived.LaidLaws
import Derived.LaidHandle
import Derived.SizedLaws
import Derived.Stop.Joined
import Derived.Lay
import Derived.SevenTiedAt
import Derived.LaidOnce
import Derived.Test.YtapnplljnpconaaGreatDoorTie
import Derived.Test.YtapnplljnpconaaGreatDoorCards
set_option linter.unusedSimpArgs false
set_option linter.unusedVariables false
set_option linter.unusedSectionVars false
namespace Go.Proofs.YtapnplljnpconaaGreatDoor
open Go.Ev
set_option maxRecDepth 100000
set_option maxHeartbeats 4000000
section
variable {α : Type} {v : α → V} (hv : ∀ n x, V.rb n (v x) = true) {n : Nms} (hn : NmB n)
include hv hn
theorem Wiq (okl : Sl α → Bool) (outer : Bool) (c : Co α) (hc : CoR v n okl c) (LV : V) (hLV : ∀ k, V.rb k LV = true) (hLn : LV.ng = LV) (i : Int) (hi : 0 ≤ i ∧ i ≤ 100000) (r1 : Rk) : ∀ (r q : List (Cp α)), c.list.l = q ++ r →
  l_Z2w_1 (Mi cx) 0 1 r1 1 [LV, .bool outer, .ptr 0 0, .int .i64 i, vSl (vCp v) c.list, .int .i64 q.length] [.cells (Qaa n)] =
   if (innR n okl outer c.list.l.length q.length r && decide (¬ (c.list.l.length : Int) = 0)) = true then r1 [LV, .bool outer, .ptr 0 0, .int .i64 (i + 1)] [.cells (Qaa n)] else some (.bool false, [])
 | [], q, hq => by
  have hlen : c.list.l.length = q.length := by rw [hq]; simp
  have e1 : ¬ (q.length : Int) < c.list.l.length := by omega
  have hN : V.rbs 1 (Qaa n) = true := Qai
  have c1 : ∀ τ : Objs, cuO 1 (.cells (Qaa n) :: τ) = some [.cells (Qaa n)] := fun τ => Qc2 hN
  have f1 : ∀ k σ, fz k σ fzD LV = some LV := fun k σ => Qax (hLV k)
  have f2 : ∀ k σ, fz k σ fzD (vSl (vCp v) c.list) = some (vSl (vCp v) c.list) := fun k σ => Qax (Qam (Qdg hv))
  have e2 : innR n okl outer c.list.l.length q.length [] = true := rfl
  rw [u_Z2w_1, e2, Bool.true_and]
  clear hc
  generalize Qaa n = N at *
  by_cases g : (c.list.l.length : Int) = 0
  ·rw [if_neg (by simp [g])]
   simp +contextual -implicitDefEqProofs (disch := first | assumption | omega | (simp -implicitDefEqProofs only [go_sem]; try omega)) only [↓reduceIte, go_sem, iP, iN, w64, w8, w32, b_Z2w_1, j_Z2w_0, e1, f1, f2, c1, Qae, Qah, hLn, g]
  ·rw [if_pos (show decide (¬ (c.list.l.length : Int) = 0) = true from decide_eq_true g)]
   simp +contextual -implicitDefEqProofs (disch := first | assumption | omega | (simp -implicitDefEqProofs only [go_sem]; try omega)) only [↓reduceIte, go_sem, iP, iN, w64, w8, w32, b_Z2w_1, j_Z2w_0, e1, f1, f2, c1, Qae, Qah, hLn, g]
 | x :: r, q, hq => by
  have hlen : c.list.l.length = q.length + r.length + 1 := by rw [hq]; simp; omega
  have hcl := hc.1
  have hx := hc.2 x (by rw [hq]; simp)
  have e1 : (q.length : Int) < c.list.l.length := by omega
  have hN : V.rbs 1 (Qaa n) = true := Qai
  have c1 : ∀ τ : Objs, cuO 1 (.cells (Qaa n) :: τ) = some [.cells (Qaa n)] := fun τ => Qc2 hN
  have f1 : ∀ k σ, fz k σ fzD LV = some LV := fun k σ => Qax (hLV k)
  have f2 : ∀ k σ, fz k σ fzD (vSl (vCp v) c.list) = some (vSl (vCp v) c.list) := fun k σ => Qax (Qam (Qdg hv))
  have i1 : eI 2 (.int .i64 q.length) (vSl (vCp v) c.list) = some (.eptr (cpC v x) 0) := Qav (f := vCp v) hq rfl rfl
  have l0 : ∀ σ, eL σ false 1 (.eptr (cpC v x) 0) = some (.int .i64 x.comb) := fun σ => rfl
  have l1 : ∀ σ, eL σ false 1 (.eptr (cpC v x) 1) = some (vSl (vSm v) x.list) := fun σ => by
   show Option.map V.ng (some (vSl (vSm v) x.list)) = _
   rw [Qak, Qah]
  have ih := Wiq okl outer c hc LV hLV hLn i hi r1 r (q ++ [x]) (by rw [hq]; simp)
  rw [show ((q ++ [x]).length : Int) = q.length + 1 by simp, show (q ++ [x]).length = q.length + 1 by simp] at ih
  have k2 := fun hne => Wip hv hn okl outer c hcl LV hLV hLn i q.length x (by omega) i1 hx hne r1 (l_Z2w_1 (Mi cx) 0 1 r1 1) x.list.l [] rfl
  rw [u_Z2w_1]
  unfold innR
  by_cases d1 : x.comb < 0 ∨ 4 < x.comb
  ·rw [if_pos d1, Bool.false_and, if_neg (by decide)]
   clear k2 ih hc hx
   generalize Qaa n = N at *
   generalize cpC v x = Y at *
   generalize x.comb = comb at *
   by_cases d2 : comb < 0
   ·simp +contextual -implicitDefEqProofs (disch := first | assumption | omega | (simp -implicitDefEqProofs only [go_sem]; try omega)) only [↓reduceIte, go_sem, iP, iN, w64, w8, w32, b_Z2w_1, j_Z2w_1, j_Z2w_0, e1, f1, f2, c1, Qae, Qah, hLn, i1, l0, d2]
   ·have d3 : 4 < comb := by omega
    simp +contextual -implicitDefEqProofs (disch := first | assumption | omega | (simp -implicitDefEqProofs only [go_sem]; try omega)) only [↓reduceIte, go_sem, iP, iN, w64, w8, w32, b_Z2w_1, j_Z2w_1, j_Z2w_0, e1, f1, f2, c1, Qae, Qah, hLn, i1, l0, d2, d3]
  rw [if_neg d1]
  have d2 : ¬ x.comb < 0 := by omega
  have d3 : ¬ 4 < x.comb := by omega
  by_cases d4 : decide (x.comb = 0) = decide ((q.length : Int) = 0)
  case neg =>
   rw [if_pos d4, Bool.false_and, if_neg (by decide)]
   clear k2 ih hc hx
   generalize Qaa n = N at *
   generalize cpC v x = Y at *
   generalize x.comb = comb at *
   cases g1 : decide (comb = 0) <;> cases g2 : decide ((q.length : Int) = 0) <;> first | (rw [g1, g2] at d4; exact absurd rfl d4) | simp +contextual -implicitDefEqProofs (disch := first | assumption | omega | (simp -implicitDefEqProofs only [go_sem]; try omega)) only [↓reduceIte, go_sem, iP, iN, w64, w8, w32, b_Z2w_1, j_Z2w_1, j_Z2w_0, e1, f1, f2, c1, Qae, Qah, hLn, i1, l0, d2, d3, g1, g2]
  rw [if_neg (show ¬ ¬ (decide (x.comb = 0) = decide ((q.length : Int) = 0)) from fun h => h d4)]
  by_cases d5 : (x.list.l.length : Int) = 0
  ·have e5 : Qm7 n okl (outer && decide ((q.length : Int) = (c.list.l.length : Int) - 1)) x = false := by
    unfold Qm7
    have : x.list.l = [] := List.length_eq_zero_iff.1 (by omega)
    rw [this]; rfl
   rw [e5, if_pos (show (false = false) from rfl), Bool.false_and, if_neg (by decide)]
   clear k2 ih hc hx e5
   generalize Qaa n = N at *
   generalize cpC v x = Y at *
   generalize x.comb = comb at *
   cases g1 : decide (comb = 0) <;> cases g2 : decide ((q.length : Int) = 0) <;> first | (rw [g1, g2] at d4; exact absurd d4 (by decide)) | simp +contextual -implicitDefEqProofs (disch := first | assumption | omega | (simp -implicitDefEqProofs only [go_sem]; try omega)) only [↓reduceIte, go_sem, iP, iN, w64, w8, w32, b_Z2w_1, j_Z2w_1, j_Z2w_0, e1, f1, f2, c1, Qae, Qah, hLn, i1, l0, l1, d2, d3, d5, g1, g2]
  ·have k2' := k2 (by omega)
   have k3 : l_Z2w_2 (Mi cx) 0 1 r1 1 (l_Z2w_1 (Mi cx) 0 1 r1 1) 1 [LV, .bool outer, .ptr 0 0, .int .i64 i, vSl (vCp v) c.list, .int .i64 q.length, .int .i64 0] [.cells (Qaa n)] = if Qm7 n okl (outer && decide ((q.length : Int) = (c.list.l.length : Int) - 1)) x = true then l_Z2w_1 (Mi cx) 0 1 r1 1 [LV, .bool outer, .ptr 0 0, .int .i64 i, vSl (vCp v) c.list, .int .i64 (q.length + 1)] [.cells (Qaa n)] else some (.bool false, []) := k2'
   rw [ih] at k3
   clear k2 k2' ih hc hx
   generalize innR n okl outer c.list.l.length (q.length + 1) r = IR at *
   generalize Qm7 n okl (outer && decide ((q.length : Int) = (c.list.l.length : Int) - 1)) x = CS at *
   generalize Qaa n = N at *
   generalize cpC v x = Y at *
   generalize x.comb = comb at *
   cases CS with
   | false =>
    rw [if_neg (by decide)] at k3
    rw [if_pos (show (false = false) from rfl), Bool.false_and, if_neg (by decide)]
    cases g1 : decide (comb = 0) <;> cases g2 : decide ((q.length : Int) = 0) <;> first | (rw [g1, g2] at d4; exact absurd d4 (by decide)) | simp +contextual -implicitDefEqProofs (disch := first | assumption | omega | (simp -implicitDefEqProofs only [go_sem]; try omega)) only [↓reduceIte, go_sem, iP, iN, w64, w8, w32, b_Z2w_1, j_Z2w_1, j_Z2w_0, e1, f1, f2, c1, Qae, Qah, hLn, i1, l0, l1, d2, d3, d5, g1, g2, k3]
   | true =>
    rw [if_pos rfl] at k3
    rw [if_neg (show ¬ (true = false) by decide)]
    generalize (if (IR && decide (¬ (c.list.l.length : Int) = 0)) = true then r1 [LV, .bool outer, .ptr 0 0, .int .i64 (i + 1)] [.cells N] else some (.bool false, [])) = RES at *
    cases g1 : decide (comb = 0) <;> cases g2 : decide ((q.length : Int) = 0) <;> first | (rw [g1, g2] at d4; exact absurd d4 (by decide)) | simp +contextual -implicitDefEqProofs (disch := first | assumption | omega | (simp -implicitDefEqProofs only [go_sem]; try omega)) only [↓reduceIte, go_sem, iP, iN, w64, w8, w32, b_Z2w_1, j_Z2w_1, j_Z2w_0, e1, f1, f2, c1, Qae, Qah, hLn, i1, l0, l1, d2, d3, d5, g1, g2, k3]
theorem Wir (okl : Sl α → Bool) (outer : Bool) (s : Sl (Co α)) (hs : s.l.length ≤ 1000) (hc : ∀ c ∈ s.l, CoR v n okl c) : ∀ (r q : List (Co α)), s.l = q ++ r →
  l_Z2w_0 (Mi cx) 0 1 [vSl (vCo v) s, .bool outer, .ptr 0 0, .int .i64 q.length] [.cells (Qaa n)] = some (.bool (lstR n okl outer s.l.length r), [])
 | [], q, hq => by
  have hlen : s.l.length = q.length := by rw [hq]; simp
  have e1 : ¬ (q.length : Int) < s.l.length := by omega
  have hN : V.rbs 1 (Qaa n) = true := Qai
  have f1 : ∀ k σ, fz k σ fzD (vSl (vCo v) s) = some (vSl (vCo v) s) := fun k σ => Qax (Qam (Qco hv))
  have e2 : lstR n okl outer s.l.length [] = decide (0 < (s.l.length : Int)) := rfl
  rw [u_Z2w_0, e2]
  clear hc
  generalize Qaa n = N at *
  simp +contextual -implicitDefEqProofs (disch := first | assumption | omega | (simp -implicitDefEqProofs only [go_sem]; try omega)) only [↓reduceIte, go_sem, iP, iN, w64, w8, w32, b_Z2w_0, e1, f1, Qae, Qah]
 | c :: r, q, hq => by
  have hlen : s.l.length = q.length + r.length + 1 := by rw [hq]; simp; omega
  have e1 : (q.length : Int) < s.l.length := by omega
  have hN : V.rbs 1 (Qaa n) = true := Qai
  have f1 : ∀ k σ, fz k σ fzD (vSl (vCo v) s) = some (vSl (vCo v) s) := fun k σ => Qax (Qam (Qco hv))
  have f2 : ∀ k σ, fz k σ fzD (vSl (vCp v) c.list) = some (vSl (vCp v) c.list) := fun k σ => Qax (Qam (Qdg hv))
  have i1 : eI 1 (.int .i64 q.length) (vSl (vCo v) s) = some (.eptr (coC v c) 0) := Qav (f := vCo v) hq rfl rfl
  have l0 : ∀ σ, eL σ false 1 (.eptr (coC v c) 0) = some (vSl (vCp v) c.list) := fun σ => by
   show Option.map V.ng (some (vSl (vCp v) c.list)) = _
   rw [Qak, Qah]
  have k1 := Wiq hv hn okl outer c (hc c (by rw [hq]; simp)) (vSl (vCo v) s) (fun k => Qam (Qco hv)) Qah q.length (by omega) (l_Z2w_0 (Mi cx) 0 1) c.list.l [] rfl
  have ih := Wir okl outer s hs hc r (q ++ [c]) (by rw [hq]; simp)
  rw [show ((q ++ [c]).length : Int) = q.length + 1 by simp] at ih
  rw [ih] at k1
  have k2 : l_Z2w_1 (Mi cx) 0 1 (l_Z2w_0 (Mi cx) 0 1) 1 [vSl (vCo v) s, .bool outer, .ptr 0 0, .int .i64 q.length, vSl (vCp v) c.list, .int .i64 0] [.cells (Qaa n)] = some (.bool (lstR n okl outer s.l.length (c :: r)), []) := by
   refine k1.trans ?_
   unfold lstR
   show (if (innR n okl outer c.list.l.length 0 c.list.l && decide (¬ (c.list.l.length : Int) = 0)) = true then _ else _) = _
   by_cases g : (c.list.l.length : Int) = 0
   ·rw [if_pos g, if_neg (by simp [g])]
   ·rw [if_neg g]
    cases hI : innR n okl outer c.list.l.length 0 c.list.l with
    | false => rfl
    | true => rw [Bool.true_and, if_pos (show decide (¬ (c.list.l.length : Int) = 0) = true from decide_eq_true g), if_pos rfl]; cases r <;> rfl
  rw [u_Z2w_0]
  clear hc k1 ih
  generalize lstR n okl outer s.l.length (c :: r) = RES at *
  generalize Qaa n = N at *
  generalize coC v c = C at *
  simp +contextual -implicitDefEqProofs (disch := first | assumption | omega | (simp -implicitDefEqProofs only [go_sem]; try omega)) only [↓reduceIte, go_sem, iP, iN, w64, w8, w32, b_Z2w_0, e1, f1, f2, i1, l0, Qae, Qah, k2]
theorem Qqm (okl : Sl α → Bool) (outer : Bool) (s : Sl (Co α)) (hs : s.l.length ≤ 1000) (hc : ∀ c ∈ s.l, CoR v n okl c) (σ : Objs) (hσ : Wf σ) :
  E cx 36 [vSl (vCo v) s, .agg (Qaa n), .bool outer] σ = some (.bool (lstS n okl outer s), σ) := by
 refine Qbv Qbm ?_ (by simp only [Qaf, Qa3, Qai, Qam (Qco hv)]; rfl) rfl σ hσ
 have h1 : boxV [] (.agg (Qaa n)) = some (.ptr 0 0, [.cells (Qaa n)]) := Qa0 ok_n no_n
 have f1 : ∀ k σ, fz k σ fzD (vSl (vCo v) s) = some (vSl (vCo v) s) := fun k σ => Qax (Qam (Qco hv))
 have k := Wir hv hn okl outer s hs hc s.l [] rfl
 have k' : l_Z2w_0 (Mi cx) 0 1 [vSl (vCo v) s, .bool outer, .ptr 0 0, .int .i64 0] [.cells (Qaa n)] = some (.bool (lstS n okl outer s), []) := k
 clear hc k
 rw [e_Z2w]
 generalize lstS n okl outer s = RES at *
 generalize Qaa n = N at *
 simp +contextual -implicitDefEqProofs (disch := first | assumption | omega | (simp -implicitDefEqProofs only [go_sem]; try omega)) only [↓reduceIte, go_sem, iP, iN, w64, w8, w32, s_Z2w, h1, f1, k']
end
theorem Qks {n : Nms} (hn : NmB n) : ∀ (k d : Nat) (s : Sl (Cx k)), Bd d k s → ∀ (outer : Bool) (σ : Objs), Wf σ → E cx 36 [vSl (vCx k) s, .agg (Qaa n), .bool outer] σ = some (.bool (okC n k outer s), σ)
 | 0, d, s, hb, outer, σ, hσ => by
  have e := sl0 (α := Cx 0) (fun x => Empty.elim x) s
  refine Qbv Qbm ?_ (by simp only [Qaf, Qa3, Qai, Qc5]; rfl) rfl σ hσ
  have h1 : boxV [] (.agg (Qaa n)) = some (.ptr 0 0, [.cells (Qaa n)]) := Qa0 ok_n no_n
  have f1 : ∀ k σ, fz k σ fzD (vSl (vCx 0) s) = some (vSl (vCx 0) s) := fun k σ => Qax (Qam (Qdv 0))
  have e2 : (s.l.length : Int) = 0 := by rw [e]; rfl
  have hN : V.rbs 1 (Qaa n) = true := Qai
  show _ = some (V.bool false, [])
  rw [e_Z2w]
  generalize Qaa n = N at *
  have u : l_Z2w_0 (Mi cx) 0 1 [vSl (vCx 0) s, .bool outer, .ptr 0 0, .int .i64 0] [.cells N] = some (.bool false, []) := by
   rw [u_Z2w_0]
   simp +contextual -implicitDefEqProofs (disch := first | assumption | omega | (simp -implicitDefEqProofs only [go_sem]; try omega)) only [↓reduceIte, go_sem, iP, iN, w64, w8, w32, b_Z2w_0, Qae, Qah, e2, f1]
  simp +contextual -implicitDefEqProofs (disch := first | assumption | omega | (simp -implicitDefEqProofs only [go_sem]; try omega)) only [↓reduceIte, go_sem, iP, iN, w64, w8, w32, s_Z2w, h1, f1, u]
 | k + 1, d, s, hb, outer, σ, hσ => by
  refine Qqm (Qdv k) hn (okC n k false) outer s hb.1 (fun c hc => ⟨(hb.2 c hc).1, fun x hx => ⟨((hb.2 c hc).2 x hx).1, fun y hy => ?_⟩⟩) σ hσ
  have hB := ((hb.2 c hc).2 x hx).2 y hy
  exact ⟨⟨hB.1, hB.2.1, hB.2.2.1⟩, fun σ hσ => Qks hn k (d - 1) y.of hB.2.2.2.2 false σ hσ⟩
end Go.Proofs.YtapnplljnpconaaGreatDoor
namespace Go.Proofs.YtapnplljnpconaaGreatDoor
open Go.Ev
set_option maxRecDepth 100000
set_option maxHeartbeats 4000000
def mxD (a b : Int) : Int := if b > a then b else a
section
variable {α : Type} {v : α → V} (hv : ∀ n x, V.rb n (v x) = true) (D : Sl α → Int)
def Qo5 : Int → List (Sm α) → Int
 | d, [] => d
 | d, y :: r => Qo5 (if 0 < (y.of.l.length : Int) then mxD d (D y.of) else d) r
def Qo6 : Int → List (Cp α) → Int
 | d, [] => d
 | d, x :: r => Qo6 (Qo5 D d x.list.l) r
def Qkt : Int → List (Co α) → Int
 | d, [] => d
 | d, c :: r => Qkt (Qo6 D d c.list.l) r
def DpR (v : α → V) (D : Sl α → Int) (y : Sm α) : Prop := E cx 35 [vSl v y.of] [] = some (.int .i64 (D y.of), [])
include hv
theorem Wis (LV : V) (hLV : ∀ k, V.rb k LV = true) (hLn : LV.ng = LV) (c : Co α) (x : Cp α) (i k : Int) (hk : 0 ≤ k ∧ k ≤ 1000) (hx : x.list.l.length ≤ 1000) (hic : eI 1 (.int .i64 i) LV = some (.eptr (coC v c) 0)) (hik : eI 2 (.int .i64 k) (vSl (vCp v) c.list) = some (.eptr (cpC v x) 0)) (r1 r2 : Rk) (hD : ∀ y ∈ x.list.l, DpR v D y) : ∀ (r q : List (Sm α)) (d : Int), x.list.l = q ++ r →
  l_Z2r_2 (Mi cx) 0 0 r1 0 r2 0 [LV, .int .i64 d, .int .i64 i, .int .i64 k, .int .i64 q.length] [] = r2 [LV, .int .i64 (Qo5 D d r), .int .i64 i, .int .i64 (k + 1)] []
 | [], q, d, hq => by
  have hlen : x.list.l.length = q.length := by rw [hq]; simp
  have e1 : ¬ (q.length : Int) < x.list.l.length := by omega
  have l0 : ∀ σ, eL σ false 1 (.eptr (coC v c) 0) = some (vSl (vCp v) c.list) := fun σ => by
   show Option.map V.ng (some (vSl (vCp v) c.list)) = _
   rw [Qak, Qah]
  have l1 : ∀ σ, eL σ false 1 (.eptr (cpC v x) 1) = some (vSl (vSm v) x.list) := fun σ => by
   show Option.map V.ng (some (vSl (vSm v) x.list)) = _
   rw [Qak, Qah]
  have f1 : ∀ k σ, fz k σ fzD LV = some LV := fun k σ => Qax (hLV k)
  rw [u_Z2r_2]
  show _ = r2 [LV, .int .i64 d, .int .i64 i, .int .i64 (k + 1)] []
  clear hD
  generalize coC v c = C at *
  generalize cpC v x = Y at *
  simp +contextual -implicitDefEqProofs (disch := first | assumption | omega | (simp -implicitDefEqProofs only [go_sem]; try omega)) only [↓reduceIte, go_sem, iP, iN, w64, w8, w32, b_Z2r_2, e1, hLn, hic, hik, l0, l1, f1, Qae, Qah]
 | y :: r, q, d, hq => by
  have hlen : x.list.l.length = q.length + r.length + 1 := by rw [hq]; simp; omega
  have e1 : (q.length : Int) < x.list.l.length := by omega
  have l0 : ∀ σ, eL σ false 1 (.eptr (coC v c) 0) = some (vSl (vCp v) c.list) := fun σ => by
   show Option.map V.ng (some (vSl (vCp v) c.list)) = _
   rw [Qak, Qah]
  have l1 : ∀ σ, eL σ false 1 (.eptr (cpC v x) 1) = some (vSl (vSm v) x.list) := fun σ => by
   show Option.map V.ng (some (vSl (vSm v) x.list)) = _
   rw [Qak, Qah]
  have i1 : eI 11 (.int .i64 q.length) (vSl (vSm v) x.list) = some (.eptr (smC v y) 0) := Qav (f := vSm v) hq rfl rfl
  have l10 : ∀ σ, eL σ false 1 (.eptr (smC v y) 10) = some (vSl v y.of) := fun σ => by
   show Option.map V.ng (some (vSl v y.of)) = _
   rw [Qak, Qah]
  have f1 : ∀ k σ, fz k σ fzD LV = some LV := fun k σ => Qax (hLV k)
  have hy : E cx 35 [vSl v y.of] [] = some (.int .i64 (D y.of), []) := hD y (by rw [hq]; simp)
  have mm : mmV true [.int .i64 d, .int .i64 (D y.of)] = some (.int .i64 (mxD d (D y.of))) := rfl
  have ih := fun d' => Wis LV hLV hLn c x i k hk hx hic hik r1 r2 hD r (q ++ [y]) d' (by rw [hq]; simp)
  rw [show ((q ++ [y]).length : Int) = q.length + 1 by simp] at ih
  rw [u_Z2r_2]
  unfold Qo5
  by_cases g : 0 < (y.of.l.length : Int)
  ·rw [if_pos g, ← ih]
   have ih' := ih (mxD d (D y.of))
   clear ih hD
   generalize coC v c = C at *
   generalize cpC v x = Y at *
   generalize smC v y = S at *
   simp +contextual -implicitDefEqProofs (disch := first | assumption | omega | (simp -implicitDefEqProofs only [go_sem]; try omega)) only [↓reduceIte, go_sem, iP, iN, w64, w8, w32, b_Z2r_2, j_Z2r_0, e1, hLn, hic, hik, l0, l1, i1, l10, f1, Qae, Qah, g, hy, mm]
  ·rw [if_neg g, ← ih]
   clear ih hD
   generalize coC v c = C at *
   generalize cpC v x = Y at *
   generalize smC v y = S at *
   simp +contextual -implicitDefEqProofs (disch := first | assumption | omega | (simp -implicitDefEqProofs only [go_sem]; try omega)) only [↓reduceIte, go_sem, iP, iN, w64, w8, w32, b_Z2r_2, j_Z2r_0, e1, hLn, hic, hik, l0, l1, i1, l10, f1, Qae, Qah, g]
theorem Wit (LV : V) (hLV : ∀ k, V.rb k LV = true) (hLn : LV.ng = LV) (c : Co α) (i : Int) (hi : 0 ≤ i ∧ i ≤ 1000) (hc : c.list.l.length ≤ 1000) (hcx : ∀ x ∈ c.list.l, x.list.l.length ≤ 1000) (hic : eI 1 (.int .i64 i) LV = some (.eptr (coC v c) 0)) (r1 : Rk) (hD : ∀ x ∈ c.list.l, ∀ y ∈ x.list.l, DpR v D y) : ∀ (r q : List (Cp α)) (d : Int), c.list.l = q ++ r →
  l_Z2r_1 (Mi cx) 0 0 r1 0 [LV, .int .i64 d, .int .i64 i, .int .i64 q.length] [] = r1 [LV, .int .i64 (Qo6 D d r), .int .i64 (i + 1)] []
 | [], q, d, hq => by
  have hlen : c.list.l.length = q.length := by rw [hq]; simp
  have e1 : ¬ (q.length : Int) < c.list.l.length := by omega
  have l0 : ∀ σ, eL σ false 1 (.eptr (coC v c) 0) = some (vSl (vCp v) c.list) := fun σ => by
   show Option.map V.ng (some (vSl (vCp v) c.list)) = _
   rw [Qak, Qah]
  have f1 : ∀ k σ, fz k σ fzD LV = some LV := fun k σ => Qax (hLV k)
  rw [u_Z2r_1]
  show _ = r1 [LV, .int .i64 d, .int .i64 (i + 1)] []
  clear hD
  generalize coC v c = C at *
  simp +contextual -implicitDefEqProofs (disch := first | assumption | omega | (simp -implicitDefEqProofs only [go_sem]; try omega)) only [↓reduceIte, go_sem, iP, iN, w64, w8, w32, b_Z2r_1, e1, hLn, hic, l0, f1, Qae, Qah]
 | x :: r, q, d, hq => by
  have hlen : c.list.l.length = q.length + r.length + 1 := by rw [hq]; simp; omega
  have e1 : (q.length : Int) < c.list.l.length := by omega
  have l0 : ∀ σ, eL σ false 1 (.eptr (coC v c) 0) = some (vSl (vCp v) c.list) := fun σ => by
   show Option.map V.ng (some (vSl (vCp v) c.list)) = _
   rw [Qak, Qah]
  have f1 : ∀ k σ, fz k σ fzD LV = some LV := fun k σ => Qax (hLV k)
  have i1 : eI 2 (.int .i64 q.length) (vSl (vCp v) c.list) = some (.eptr (cpC v x) 0) := Qav (f := vCp v) hq rfl rfl
  have k2 := Wis hv D LV hLV hLn c x i q.length (by omega) (hcx x (by rw [hq]; simp)) hic i1 r1 (l_Z2r_1 (Mi cx) 0 0 r1 0) (hD x (by rw [hq]; simp)) x.list.l [] d rfl
  have k2' : l_Z2r_2 (Mi cx) 0 0 r1 0 (l_Z2r_1 (Mi cx) 0 0 r1 0) 0 [LV, .int .i64 d, .int .i64 i, .int .i64 q.length, .int .i64 0] [] = _ := k2
  have ih := Wit LV hLV hLn c i hi hc hcx hic r1 hD r (q ++ [x]) (Qo5 D d x.list.l) (by rw [hq]; simp)
  rw [show ((q ++ [x]).length : Int) = q.length + 1 by simp] at ih
  rw [ih] at k2'
  rw [u_Z2r_1]
  show _ = r1 [LV, .int .i64 (Qo6 D (Qo5 D d x.list.l) r), .int .i64 (i + 1)] []
  rw [← k2']
  clear hD k2 k2' ih
  generalize coC v c = C at *
  generalize cpC v x = Y at *
  simp +contextual -implicitDefEqProofs (disch := first | assumption | omega | (simp -implicitDefEqProofs only [go_sem]; try omega)) only [↓reduceIte, go_sem, iP, iN, w64, w8, w32, b_Z2r_1, e1, hLn, hic, l0, f1, Qae, Qah]
theorem Wiu (s : Sl (Co α)) (hs : s.l.length ≤ 1000) (hc : ∀ c ∈ s.l, c.list.l.length ≤ 1000 ∧ (∀ x ∈ c.list.l, x.list.l.length ≤ 1000) ∧ ∀ x ∈ c.list.l, ∀ y ∈ x.list.l, DpR v D y) (hbd : ∀ d, Qkt D d s.l = Qkt D d s.l) : ∀ (r q : List (Co α)) (d : Int), s.l = q ++ r → 0 ≤ Qkt D d r ∧ Qkt D d r ≤ 1000000 →
  l_Z2r_0 (Mi cx) 0 0 [vSl (vCo v) s, .int .i64 d, .int .i64 q.length] [] = some (.int .i64 (Qkt D d r + 1), [])
 | [], q, d, hq, hd => by
  have hlen : s.l.length = q.length := by rw [hq]; simp
  have e1 : ¬ (q.length : Int) < s.l.length := by omega
  have hd' : 0 ≤ d ∧ d ≤ 1000000 := hd
  rw [u_Z2r_0]
  show _ = some (V.int .i64 (d + 1), [])
  clear hc
  simp +contextual -implicitDefEqProofs (disch := first | assumption | omega | (simp -implicitDefEqProofs only [go_sem]; try omega)) only [↓reduceIte, go_sem, iP, iN, w64, w8, w32, b_Z2r_0, e1, Qae, Qah]
 | c :: r, q, d, hq, hd => by
  have hlen : s.l.length = q.length + r.length + 1 := by rw [hq]; simp; omega
  have e1 : (q.length : Int) < s.l.length := by omega
  obtain ⟨h1, h2, h3⟩ := hc c (by rw [hq]; simp)
  have f1 : ∀ k σ, fz k σ fzD (vSl (vCo v) s) = some (vSl (vCo v) s) := fun k σ => Qax (Qam (Qco hv))
  have i1 : eI 1 (.int .i64 q.length) (vSl (vCo v) s) = some (.eptr (coC v c) 0) := Qav (f := vCo v) hq rfl rfl
  have k1 := Wit hv D (vSl (vCo v) s) (fun k => Qam (Qco hv)) Qah c q.length (by omega) h1 h2 i1 (l_Z2r_0 (Mi cx) 0 0) h3 c.list.l [] d rfl
  have k1' : l_Z2r_1 (Mi cx) 0 0 (l_Z2r_0 (Mi cx) 0 0) 0 [vSl (vCo v) s, .int .i64 d, .int .i64 q.length, .int .i64 0] [] = _ := k1
  have ih := Wiu s hs hc hbd r (q ++ [c]) (Qo6 D d c.list.l) (by rw [hq]; simp) hd
  rw [show ((q ++ [c]).length : Int) = q.length + 1 by simp] at ih
  rw [ih] at k1'
  rw [u_Z2r_0]
  show _ = some (V.int .i64 (Qkt D (Qo6 D d c.list.l) r + 1), [])
  clear hc k1 ih h3
  simp +contextual -implicitDefEqProofs (disch := first | assumption | omega | (simp -implicitDefEqProofs only [go_sem]; try omega)) only [↓reduceIte, go_sem, iP, iN, w64, w8, w32, b_Z2r_0, e1, f1, i1, Qae, Qah, k1']
end
end Go.Proofs.YtapnplljnpconaaGreatDoor
namespace Go.Proofs.YtapnplljnpconaaGreatDoor
open Go.Ev
set_option maxRecDepth 100000
set_option maxHeartbeats 4000000
def gD (h : Nat) : Int := if h = 0 then 0 else ((h + 2) / 3 : Nat)
theorem Qlv {α : Type} {f : α → V} {s : Sl α} : V.hh (vSl f s) = if s.l = [] then 0 else V.hhs (s.l.map f) + 1 := by
 cases s with
 | nil => rfl
 | row xs =>
  show V.hh (.sl (xs.map f) .no) = _
  rw [V.hh]
  cases xs with
  | nil => rfl
  | cons x r => rfl
section
variable {α : Type} {v : α → V}
def mX (v : α → V) : List (Sm α) → Nat
 | [] => 0
 | y :: r => max (V.hh (vSl v y.of)) (mX v r)
def mC (v : α → V) : List (Cp α) → Nat
 | [] => 0
 | x :: r => max (mX v x.list.l) (mC v r)
def mL (v : α → V) : List (Co α) → Nat
 | [] => 0
 | c :: r => max (mC v c.list.l) (mL v r)
theorem Qsl : ∀ (r : List (Sm α)) (d : Int), 0 ≤ d → Qo5 (fun o => dpI (vSl v o)) d r = mxD d (gD (mX v r))
 | [], d, hd => by
  show d = mxD d (gD 0)
  unfold mxD gD
  rw [if_pos rfl, if_neg (by omega)]
 | y :: r, d, hd => by
  have hy : (if 0 < (y.of.l.length : Int) then mxD d (dpI (vSl v y.of)) else d) = mxD d (gD (V.hh (vSl v y.of))) := by
   by_cases g : 0 < (y.of.l.length : Int)
   ·rw [if_pos g]
    have hne : ¬ y.of.l = [] := fun e => by rw [e, List.length_nil] at g; omega
    have h1 : V.hh (vSl v y.of) = V.hhs (y.of.l.map v) + 1 := by rw [Qlv, if_neg hne]
    unfold dpI gD
    rw [h1, if_neg (by omega)]
    congr 1
    omega
   ·rw [if_neg g]
    have he : y.of.l = [] := List.length_eq_zero_iff.1 (by omega)
    rw [Qlv, if_pos he]
    unfold mxD gD
    rw [if_pos rfl, if_neg (by omega)]
  unfold Qo5
  rw [hy]
  have h0 : 0 ≤ mxD d (gD (V.hh (vSl v y.of))) := by unfold mxD; split <;> omega
  rw [Qsl r _ h0]
  show _ = mxD d (gD (max (V.hh (vSl v y.of)) (mX v r)))
  generalize V.hh (vSl v y.of) = a
  generalize mX v r = b
  unfold mxD gD
  (repeat' split) <;> omega
theorem Wb7 {d : Int} {h : Nat} (hd : 0 ≤ d) : 0 ≤ mxD d (gD h) := by unfold mxD; split <;> omega
theorem Qx5 {d : Int} {a b : Nat} : mxD (mxD d (gD a)) (gD b) = mxD d (gD (max a b)) := by
 unfold mxD gD
 (repeat' split) <;> omega
theorem Qsm : ∀ (r : List (Cp α)) (d : Int), 0 ≤ d → Qo6 (fun o => dpI (vSl v o)) d r = mxD d (gD (mC v r))
 | [], d, hd => by
  show d = mxD d (gD 0)
  unfold mxD gD
  rw [if_pos rfl, if_neg (by omega)]
 | x :: r, d, hd => by
  unfold Qo6
  rw [Qsl _ _ hd, Qsm r _ (Wb7 hd), Qx5]
  rfl
theorem Qsn : ∀ (r : List (Co α)) (d : Int), 0 ≤ d → Qkt (fun o => dpI (vSl v o)) d r = mxD d (gD (mL v r))
 | [], d, hd => by
  show d = mxD d (gD 0)
  unfold mxD gD
  rw [if_pos rfl, if_neg (by omega)]
 | c :: r, d, hd => by
  unfold Qkt
  rw [Qsm _ _ hd, Qsn r _ (Wb7 hd), Qx5]
  rfl
theorem Wiv : ∀ l : List (Sm α), V.hhs (l.map (vSm v)) = mX v l
 | [] => rfl
 | y :: r => by
  have e3 : V.hh (vSm v y) = V.hh (vSl v y.of) := by simp [V.hh, V.hhs]
  rw [List.map_cons, V.hhs, Wiv r, e3]
  rfl
theorem Wiw : ∀ l : List (Cp α), (V.hhs (l.map (vCp v)) = 0 ∧ mC v l = 0) ∨ V.hhs (l.map (vCp v)) = mC v l + 1
 | [] => .inl ⟨rfl, rfl⟩
 | x :: r => by
  have e2 : V.hh (vCp v x) = V.hh (vSl (vSm v) x.list) := by simp [V.hh, V.hhs]
  have e3 : V.hh (vSl (vSm v) x.list) = if x.list.l = [] then 0 else mX v x.list.l + 1 := by rw [Qlv, Wiv]
  have e4 : mC v (x :: r) = max (mX v x.list.l) (mC v r) := rfl
  have e5 : V.hhs ((x :: r).map (vCp v)) = max (V.hh (vSl (vSm v) x.list)) (V.hhs (r.map (vCp v))) := by rw [List.map_cons, V.hhs, e2]
  have ih := Wiw r
  rw [e5, e4, e3]
  split
  ·rename_i he
   have : mX v x.list.l = 0 := by rw [he]; rfl
   omega
  ·omega
theorem Wix : ∀ l : List (Co α), V.hhs (l.map (vCo v)) = mL v l + 2 ∨ (V.hhs (l.map (vCo v)) ≤ 1 ∧ mL v l = 0)
 | [] => .inr ⟨Nat.zero_le _, rfl⟩
 | c :: r => by
  have e2 : V.hh (vCo v c) = V.hh (vSl (vCp v) c.list) := by simp [V.hh, V.hhs]
  have e3 : V.hh (vSl (vCp v) c.list) = if c.list.l = [] then 0 else V.hhs (c.list.l.map (vCp v)) + 1 := Qlv
  have e4 : mL v (c :: r) = max (mC v c.list.l) (mL v r) := rfl
  have e5 : V.hhs ((c :: r).map (vCo v)) = max (V.hh (vSl (vCp v) c.list)) (V.hhs (r.map (vCo v))) := by rw [List.map_cons, V.hhs, e2]
  have ih := Wix r
  have hc := Wiw (v := v) c.list.l
  rw [e5, e4, e3]
  split
  ·rename_i he
   have : mC v c.list.l = 0 := by rw [he]; rfl
   omega
  ·omega
theorem Wff (s : Sl (Co α)) : Qkt (fun o => dpI (vSl v o)) 0 s.l + 1 = dpI (vSl (vCo v) s) := by
 rw [Qsn _ _ (Int.le_refl _)]
 have h := Wix (v := v) s.l
 have e : V.hh (vSl (vCo v) s) = if s.l = [] then 0 else V.hhs (s.l.map (vCo v)) + 1 := Qlv
 have e0 : s.l = [] → mL v s.l = 0 := fun he => by rw [he]; rfl
 unfold dpI
 rw [e]
 generalize mL v s.l = m at *
 generalize V.hhs (s.l.map (vCo v)) = hh at *
 unfold mxD gD
 by_cases he : s.l = []
 ·have := e0 he
  subst this
  rw [if_pos he]
  rfl
 ·rw [if_neg he]
  (repeat' split) <;> omega
end
theorem Qo7 : ∀ (k d : Nat) (s : Sl (Cx k)), d ≤ 1000 → Bd d k s → E cx 35 [vSl (vCx k) s] [] = some (.int .i64 (dpS s), [])
 | 0, d, s, hd, hb => by
  have e := sl0 (α := Cx 0) (fun x => Empty.elim x) s
  have e1 : dpS s = 1 := by
   unfold dpS dpI
   rw [Qlv, if_pos e]; rfl
  have e2 : (s.l.length : Int) = 0 := by rw [e]; rfl
  have f1 : ∀ k σ, fz k σ fzD (vSl (vCx 0) s) = some (vSl (vCx 0) s) := fun k σ => Qax (Qam (Qdv 0))
  have u : l_Z2r_0 (Mi cx) 0 0 [vSl (vCx 0) s, .int .i64 0, .int .i64 0] [] = some (.int .i64 1, []) := by
   rw [u_Z2r_0]
   simp +contextual -implicitDefEqProofs (disch := first | assumption | omega | (simp -implicitDefEqProofs only [go_sem]; try omega)) only [↓reduceIte, go_sem, iP, iN, w64, w8, w32, b_Z2r_0, Qae, Qah, e2, f1]
  rw [e1, e_Z2r]
  simp +contextual -implicitDefEqProofs (disch := first | assumption | omega | (simp -implicitDefEqProofs only [go_sem]; try omega)) only [↓reduceIte, go_sem, iP, iN, w64, w8, w32, s_Z2r, f1, u]
 | k + 1, d, s, hd, hb => by
  have ih := Qo7 k (d - 1)
  have e1 : Qkt (fun o => dpI (vSl (vCx k) o)) 0 (show List (Co (Cx k)) from s.l) + 1 = dpS s := Wff (v := vCx k) (show Sl (Co (Cx k)) from s)
  have hh := Qw3 (k + 1) d s hb
  have hdp : 1 ≤ dpS s ∧ dpS s ≤ 1002 := by
   unfold dpS dpI
   omega
  have kk := Wiu (Qdv k) (fun o => dpI (vSl (vCx k) o)) (show Sl (Co (Cx k)) from s) hb.1 (fun c hc => ⟨(hb.2 c hc).1, fun x hx => ((hb.2 c hc).2 x hx).1, fun x hx y hy => by
   have hB := ((hb.2 c hc).2 x hx).2 y hy
   exact ih y.of (by omega) hB.2.2.2.2⟩) (fun _ => rfl) (show List (Co (Cx k)) from s.l) [] 0 rfl (by omega)
  rw [e1] at kk
  have kk' : l_Z2r_0 (Mi cx) 0 0 [vSl (vCx (k + 1)) s, .int .i64 0, .int .i64 0] [] = some (.int .i64 (dpS s), []) := kk
  have f1 : ∀ k' σ, fz k' σ fzD (vSl (vCx (k + 1)) s) = some (vSl (vCx (k + 1)) s) := fun k' σ => Qax (Qam (Qdv (k + 1)))
  rw [e_Z2r]
  clear kk ih
  simp +contextual -implicitDefEqProofs (disch := first | assumption | omega | (simp -implicitDefEqProofs only [go_sem]; try omega)) only [↓reduceIte, go_sem, iP, iN, w64, w8, w32, s_Z2r, f1, kk']
theorem Qlw {n : Nms} (hn : NmB n) {k d : Nat} (s : Sl (Cx k)) (hd : d ≤ 1000) (hb : Bd d k s) (σ : Objs) (hσ : Wf σ) :
  E cx 11 [vSl (vCx k) s, .agg (Qaa n)] σ = some (.int .i64 (chkS n s), σ) := by
 refine Qbv Qbm ?_ (by simp only [Qaf, Qa3, Qai, Qc5]; rfl) rfl σ hσ
 have h1 : boxV [] (.agg (Qaa n)) = some (.ptr 0 0, [.cells (Qaa n)]) := Qa0 ok_n no_n
 have hw : Wf [.cells (Qaa n)] := by rw [Qd5]; exact Qai
 have h2 : eL [.cells (Qaa n)] true 4 (.ptr 0 0) = some (.agg (Qaa n)) := Qbx rfl rfl no_n
 have h3 := Qtz hn _ hw
 have h4 := Qbv Qbm (Qo7 k d s hd hb) (by simp only [Qaf, Qc5]; rfl) rfl _ hw
 have h5 := Qks hn k d s hb true _ hw
 have nL : (vSl (vCx k) s).ng = vSl (vCx k) s := Qah
 rw [e_Z2q]
 unfold chkS
 generalize Qaa n = N at *
 generalize dpS s = dp at *
 generalize vSl (vCx k) s = L at *
 cases c1 : okN n with
 | false =>
  rw [c1] at h3
  simp +contextual -implicitDefEqProofs (disch := first | assumption | omega | (simp -implicitDefEqProofs only [go_sem]; try omega)) only [↓reduceIte, go_sem, iP, iN, w64, w8, w32, s_Z2q, h1, h2, h3]
 | true =>
  rw [c1] at h3
  by_cases c2 : 32 < dp
  ·simp +contextual -implicitDefEqProofs (disch := first | assumption | omega | (simp -implicitDefEqProofs only [go_sem]; try omega)) only [↓reduceIte, go_sem, iP, iN, w64, w8, w32, s_Z2q, h1, h2, h3, h4, c2, nL]
  ·cases c3 : okC n k true s with
   | false =>
    rw [c3] at h5
    simp +contextual -implicitDefEqProofs (disch := first | assumption | omega | (simp -implicitDefEqProofs only [go_sem]; try omega)) only [↓reduceIte, go_sem, iP, iN, w64, w8, w32, s_Z2q, h1, h2, h3, h4, h5, c2, nL]
   | true =>
    rw [c3] at h5
    simp +contextual -implicitDefEqProofs (disch := first | assumption | omega | (simp -implicitDefEqProofs only [go_sem]; try omega)) only [↓reduceIte, go_sem, iP, iN, w64, w8, w32, s_Z2q, h1, h2, h3, h4, h5, c2, nL]
end Go.Proofs.YtapnplljnpconaaGreatDoor
namespace Go.Proofs.YtapnplljnpconaaGreatDoor
open Go.Ev
set_option maxRecDepth 100000
set_option maxHeartbeats 4000000
theorem Qlx (l : List Int) (hl : l.length ≤ 1000000) : ∀ (r q : List Int), l = q ++ r →
  l_Z1t_0 (Mi cx) 0 0 [vIs l, vIs l, .int .i64 q.length] [] = some (.bool true, [])
 | [], q, hq => by
  have hlen : l.length = q.length := by rw [hq]; simp
  have e1 : ¬ (q.length : Int) < (slo l).l.length := by rw [Qh0]; omega
  rw [u_Z1t_0]
  simp +contextual -implicitDefEqProofs (disch := first | assumption | omega | (simp -implicitDefEqProofs only [go_sem]; try omega)) only [↓reduceIte, go_sem, iP, iN, w64, w8, w32, b_Z1t_0, Qae, Qah, e1]
 | x :: r, q, hq => by
  have hlen : l.length = q.length + r.length + 1 := by rw [hq]; simp; omega
  have e1 : (q.length : Int) < (slo l).l.length := by rw [Qh0]; omega
  have i1 : eI 1 (.int .i64 q.length) (vIs l) = some (.eptr [.int .i64 x] 0) := Qav (f := V.int .i64) (p := q) (r := r) (by rw [Qh0, hq]) rfl rfl
  have f2 : ∀ k σ, fz k σ fzD (vIs l) = some (vIs l) := fun k σ => Qax Qgj
  have ih := Qlx l hl r (q ++ [x]) (by rw [hq]; simp)
  rw [show ((q ++ [x]).length : Int) = q.length + 1 by simp] at ih
  rw [u_Z1t_0]
  simp +contextual -implicitDefEqProofs (disch := first | assumption | omega | (simp -implicitDefEqProofs only [go_sem]; try omega)) only [↓reduceIte, go_sem, iP, iN, w64, w8, w32, b_Z1t_0, Qae, Qah, e1, i1, f2, ih]
theorem Wiy (l : List Int) (hl : l.length ≤ 1000000) (σ : Objs) (hσ : Wf σ) : E cx 13 [vIs l, vIs l] σ = some (.bool true, σ) := by
 refine Qbv Qbm ?_ (by simp only [Qaf, Qgj]; rfl) rfl σ hσ
 have h : l_Z1t_0 (Mi cx) 0 0 [vIs l, vIs l, .int .i64 0] [] = some (.bool true, []) := Qlx l hl l [] rfl
 have f2 : ∀ k σ, fz k σ fzD (vIs l) = some (vIs l) := fun k σ => Qax Qgj
 rw [e_Z1t]
 simp +contextual -implicitDefEqProofs (disch := first | assumption | omega | (simp -implicitDefEqProofs only [go_sem]; try omega)) only [↓reduceIte, go_sem, iP, iN, w64, w8, w32, s_Z1t, Qae, Qah, f2, h]
section
variable {α : Type}
def crX (f : Sl α → Nat) : List (Sm α) → Nat
 | [] => 0
 | y :: r => f y.of + crX f r
def crC (f : Sl α → Nat) : List (Cp α) → Nat
 | [] => 0
 | x :: r => crX f x.list.l + crC f r
def csC (f : Sl α → Nat) : List (Cp α) → Nat
 | [] => 0
 | x :: r => 1 + crX f x.list.l + csC f r
def crL (f : Sl α → Nat) : List (Co α) → Nat
 | [] => 0
 | c :: r => 1 + crC f c.list.l + crL f r
def csL (f : Sl α → Nat) : List (Co α) → Nat
 | [] => 0
 | c :: r => csC f c.list.l + csL f r
end
section
variable {α : Type} {v : α → V} (hv : ∀ n x, V.rb n (v x) = true) (fr fs : Sl α → Nat)
def CntR (v : α → V) (fr fs : Sl α → Nat) (y : Sm α) : Prop := ∀ σ, Wf σ → E cx 12 [vSl v y.of] σ = some (.tup [.int .i64 (fr y.of), .int .i64 (fs y.of)], σ)
include hv
theorem Wiz (LV : V) (hLV : ∀ k, V.rb k LV = true) (hLn : LV.ng = LV) (n1 i : Int) (c : Co α) (k : Int) (hk : 0 ≤ k ∧ k ≤ 1000000) (x : Cp α) (hx : x.list.l.length ≤ 1000) (r1 r2 : Rk) (hD : ∀ y ∈ x.list.l, CntR v fr fs y) : ∀ (r q : List (Sm α)) (R S : Nat), x.list.l = q ++ r → R + crX fr r ≤ 1000000 → S + crX fs r ≤ 1000000 →
  l_Z1r_2 (Mi cx) 0 0 r1 1 r2 2 [.int .i64 R, .int .i64 S, LV, .int .i64 n1, .int .i64 i, vSl (vCp v) c.list, .int .i64 c.list.l.length, .int .i64 k, vSl (vSm v) x.list, .int .i64 x.list.l.length, .int .i64 q.length] [.cells (coC v c), .cells (cpC v x)] =
   r2 [.int .i64 (R + crX fr r : Nat), .int .i64 (S + crX fs r : Nat), LV, .int .i64 n1, .int .i64 i, vSl (vCp v) c.list, .int .i64 c.list.l.length, .int .i64 (k + 1)] [.cells (coC v c)]
 | [], q, R, S, hq, hr, hs => by
  have hlen : x.list.l.length = q.length := by rw [hq]; simp
  have e1 : ¬ (q.length : Int) < x.list.l.length := by omega
  have f1 : ∀ k σ, fz k σ fzD LV = some LV := fun k σ => Qax (hLV k)
  have f2 : ∀ k σ, fz k σ fzD (vSl (vCp v) c.list) = some (vSl (vCp v) c.list) := fun k σ => Qax (Qam (Qdg hv))
  have c2 : ∀ τ : Objs, cuO 2 (.cells (coC v c) :: .cells (cpC v x) :: τ) = some [.cells (coC v c), .cells (cpC v x)] := fun τ => Qhz (Qc8 hv) (Qfv hv)
  have c1 : ∀ τ : Objs, cuO 1 (.cells (coC v c) :: τ) = some [.cells (coC v c)] := fun τ => Qc2 (Qc8 hv)
  rw [u_Z1r_2]
  show _ = r2 [.int .i64 R, .int .i64 S, LV, .int .i64 n1, .int .i64 i, vSl (vCp v) c.list, .int .i64 c.list.l.length, .int .i64 (k + 1)] [.cells (coC v c)]
  clear hD
  generalize coC v c = C at *
  generalize cpC v x = Y at *
  simp +contextual -implicitDefEqProofs (disch := first | assumption | omega | (simp -implicitDefEqProofs only [go_sem]; try omega)) only [↓reduceIte, go_sem, iP, iN, w64, w8, w32, b_Z1r_2, e1, hLn, f1, f2, c1, c2, Qah]
 | y :: r, q, R, S, hq, hr, hs => by
  have hlen : x.list.l.length = q.length + r.length + 1 := by rw [hq]; simp; omega
  have e1 : (q.length : Int) < x.list.l.length := by omega
  have hr' : R + (fr y.of + crX fr r) ≤ 1000000 := hr
  have hs' : S + (fs y.of + crX fs r) ≤ 1000000 := hs
  have f1 : ∀ k σ, fz k σ fzD LV = some LV := fun k σ => Qax (hLV k)
  have f2 : ∀ k σ, fz k σ fzD (vSl (vCp v) c.list) = some (vSl (vCp v) c.list) := fun k σ => Qax (Qam (Qdg hv))
  have f3 : ∀ k σ, fz k σ fzD (vSl (vSm v) x.list) = some (vSl (vSm v) x.list) := fun k σ => Qax (Qam (Qgp hv))
  have c2 : ∀ τ : Objs, cuO 2 (.cells (coC v c) :: .cells (cpC v x) :: τ) = some [.cells (coC v c), .cells (cpC v x)] := fun τ => Qhz (Qc8 hv) (Qfv hv)
  have i1 : eI 11 (.int .i64 q.length) (vSl (vSm v) x.list) = some (.eptr (smC v y) 0) := Qav (f := vSm v) hq rfl rfl
  have i2 : ∀ σ, eL σ true 11 (.eptr (smC v y) 0) = some (.agg (smC v y)) := fun σ => Qdz rfl Qcy
  have y1 : (smC v y).length = 11 := rfl
  have y2 : Qal (smC v y) = true := Qft
  have y3 : (smC v y).map V.ng = smC v y := Qcy
  have l10 : ∀ O1 O2 : O, eL [O1, O2, .cells (smC v y)] false 1 (.ptr 2 10) = some (vSl v y.of) := fun O1 O2 => by
   show Option.map V.ng (some (vSl v y.of)) = _
   rw [Qak, Qah]
  have w3 : Wf [.cells (coC v c), .cells (cpC v x), .cells (smC v y)] := Qc6 (Qag (Qc8 hv) (Qag (Qfv hv) (Qag (Qba hv) Qa5)))
  have k1 := hD y (by rw [hq]; simp) _ w3
  have ih := Wiz LV hLV hLn n1 i c k hk x hx r1 r2 hD r (q ++ [y]) (R + fr y.of) (S + fs y.of) (by rw [hq]; simp) (by omega) (by omega)
  rw [show ((q ++ [y]).length : Int) = q.length + 1 by simp] at ih
  have e3 : R + crX fr (y :: r) = R + fr y.of + crX fr r := by show R + (fr y.of + crX fr r) = _; omega
  have e4 : S + crX fs (y :: r) = S + fs y.of + crX fs r := by show S + (fs y.of + crX fs r) = _; omega
  have e5 : ((R + fr y.of : Nat) : Int) = (R : Int) + fr y.of := by omega
  have e6 : ((S + fs y.of : Nat) : Int) = (S : Int) + fs y.of := by omega
  rw [e3, e4, ← ih, u_Z1r_2, e5, e6]
  clear ih hD
  generalize coC v c = C at *
  generalize cpC v x = Y at *
  generalize smC v y = Z at *
  generalize fr y.of = fry at *
  generalize fs y.of = fsy at *
  simp +contextual -implicitDefEqProofs (disch := first | assumption | omega | (simp -implicitDefEqProofs only [go_sem]; try omega)) only [↓reduceIte, go_sem, iP, iN, w64, w8, w32, b_Z1r_2, e1, hLn, f1, f2, f3, c2, Qah, i1, i2, l10, k1]
theorem Wi0 (LV : V) (hLV : ∀ k, V.rb k LV = true) (hLn : LV.ng = LV) (n1 : Int) (i : Int) (hi : 0 ≤ i ∧ i ≤ 1000000) (c : Co α) (hc : c.list.l.length ≤ 1000) (hcx : ∀ x ∈ c.list.l, x.list.l.length ≤ 1000) (r1 : Rk) (hD : ∀ x ∈ c.list.l, ∀ y ∈ x.list.l, CntR v fr fs y) : ∀ (r q : List (Cp α)) (R S : Nat), c.list.l = q ++ r → R + crC fr r ≤ 1000000 → S + csC fs r ≤ 1000000 →
  l_Z1r_1 (Mi cx) 0 0 r1 1 [.int .i64 R, .int .i64 S, LV, .int .i64 n1, .int .i64 i, vSl (vCp v) c.list, .int .i64 c.list.l.length, .int .i64 q.length] [.cells (coC v c)] =
   r1 [.int .i64 (R + crC fr r : Nat), .int .i64 (S + csC fs r : Nat), LV, .int .i64 n1, .int .i64 (i + 1)] []
 | [], q, R, S, hq, hr, hs => by
  have hlen : c.list.l.length = q.length := by rw [hq]; simp
  have e1 : ¬ (q.length : Int) < c.list.l.length := by omega
  have f1 : ∀ k σ, fz k σ fzD LV = some LV := fun k σ => Qax (hLV k)
  have c1 : ∀ τ : Objs, cuO 1 (.cells (coC v c) :: τ) = some [.cells (coC v c)] := fun τ => Qc2 (Qc8 hv)
  rw [u_Z1r_1]
  show _ = r1 [.int .i64 R, .int .i64 S, LV, .int .i64 n1, .int .i64 (i + 1)] []
  clear hD
  generalize coC v c = C at *
  simp +contextual -implicitDefEqProofs (disch := first | assumption | omega | (simp -implicitDefEqProofs only [go_sem]; try omega)) only [↓reduceIte, go_sem, iP, iN, w64, w8, w32, b_Z1r_1, e1, hLn, f1, c1, Qah]
 | x :: r, q, R, S, hq, hr, hs => by
  have hlen : c.list.l.length = q.length + r.length + 1 := by rw [hq]; simp; omega
  have e1 : (q.length : Int) < c.list.l.length := by omega
  have hr' : R + (crX fr x.list.l + crC fr r) ≤ 1000000 := hr
  have hs' : S + (1 + crX fs x.list.l + csC fs r) ≤ 1000000 := hs
  have f1 : ∀ k σ, fz k σ fzD LV = some LV := fun k σ => Qax (hLV k)
  have f2 : ∀ k σ, fz k σ fzD (vSl (vCp v) c.list) = some (vSl (vCp v) c.list) := fun k σ => Qax (Qam (Qdg hv))
  have f3 : ∀ k σ, fz k σ fzD (vSl (vSm v) x.list) = some (vSl (vSm v) x.list) := fun k σ => Qax (Qam (Qgp hv))
  have i1 : eI 2 (.int .i64 q.length) (vSl (vCp v) c.list) = some (.eptr (cpC v x) 0) := Qav (f := vCp v) hq rfl rfl
  have i2 : ∀ σ, eL σ true 2 (.eptr (cpC v x) 0) = some (.agg (cpC v x)) := fun σ => Qdz rfl Qou
  have y1 : (cpC v x).length = 2 := rfl
  have y2 : Qal (cpC v x) = true := Waj
  have y3 : (cpC v x).map V.ng = cpC v x := Qou
  have l1 : ∀ O1 : O, eL [O1, .cells (cpC v x)] false 1 (.ptr 1 1) = some (vSl (vSm v) x.list) := fun O1 => by
   show Option.map V.ng (some (vSl (vSm v) x.list)) = _
   rw [Qak, Qah]
  have k2 := Wiz hv fr fs LV hLV hLn n1 i c q.length (by omega) x (hcx x (by rw [hq]; simp)) r1 (l_Z1r_1 (Mi cx) 0 0 r1 1) (hD x (by rw [hq]; simp)) x.list.l [] R (S + 1) rfl (by omega) (by omega)
  have ih := Wi0 LV hLV hLn n1 i hi c hc hcx r1 hD r (q ++ [x]) (R + crX fr x.list.l) (S + 1 + crX fs x.list.l) (by rw [hq]; simp) (by omega) (by omega)
  rw [show ((q ++ [x]).length : Int) = q.length + 1 by simp] at ih
  rw [ih] at k2
  have e3 : R + crC fr (x :: r) = R + crX fr x.list.l + crC fr r := by show R + (crX fr x.list.l + crC fr r) = _; omega
  have e4 : S + csC fs (x :: r) = S + 1 + crX fs x.list.l + csC fs r := by show S + (1 + crX fs x.list.l + csC fs r) = _; omega
  have e5 : ((S + 1 : Nat) : Int) = (S : Int) + 1 := by omega
  have k2' := k2
  rw [e5, show ((([] : List (Sm α)).length : Nat) : Int) = 0 from rfl] at k2'
  rw [e3, e4, ← k2', u_Z1r_1]
  clear ih hD k2 k2'
  generalize coC v c = C at *
  generalize cpC v x = Y at *
  simp +contextual -implicitDefEqProofs (disch := first | assumption | omega | (simp -implicitDefEqProofs only [go_sem]; try omega)) only [↓reduceIte, go_sem, iP, iN, w64, w8, w32, b_Z1r_1, e1, hLn, f1, f2, f3, Qae, Qah, i1, i2, l1]
theorem Wi1 (s : Sl (Co α)) (hs : s.l.length ≤ 1000) (hc : ∀ c ∈ s.l, c.list.l.length ≤ 1000 ∧ (∀ x ∈ c.list.l, x.list.l.length ≤ 1000) ∧ ∀ x ∈ c.list.l, ∀ y ∈ x.list.l, CntR v fr fs y) : ∀ (r q : List (Co α)) (R S : Nat), s.l = q ++ r → R + crL fr r ≤ 1000000 → S + csL fs r ≤ 1000000 →
  l_Z1r_0 (Mi cx) 0 0 [.int .i64 R, .int .i64 S, vSl (vCo v) s, .int .i64 s.l.length, .int .i64 q.length] [] = some (.tup [.int .i64 (R + crL fr r : Nat), .int .i64 (S + csL fs r : Nat)], [])
 | [], q, R, S, hq, hr, hS => by
  have hlen : s.l.length = q.length := by rw [hq]; simp
  have e1 : ¬ (q.length : Int) < s.l.length := by omega
  rw [u_Z1r_0]
  show _ = some (V.tup [.int .i64 R, .int .i64 S], [])
  clear hc
  simp +contextual -implicitDefEqProofs (disch := first | assumption | omega | (simp -implicitDefEqProofs only [go_sem]; try omega)) only [↓reduceIte, go_sem, iP, iN, w64, w8, w32, b_Z1r_0, e1]
 | c :: r, q, R, S, hq, hr, hS => by
  have hlen : s.l.length = q.length + r.length + 1 := by rw [hq]; simp; omega
  have e1 : (q.length : Int) < s.l.length := by omega
  have hr' : R + (1 + crC fr c.list.l + crL fr r) ≤ 1000000 := hr
  have hS' : S + (csC fs c.list.l + csL fs r) ≤ 1000000 := hS
  obtain ⟨h1, h2, h3⟩ := hc c (by rw [hq]; simp)
  have f1 : ∀ k σ, fz k σ fzD (vSl (vCo v) s) = some (vSl (vCo v) s) := fun k σ => Qax (Qam (Qco hv))
  have f2 : ∀ k σ, fz k σ fzD (vSl (vCp v) c.list) = some (vSl (vCp v) c.list) := fun k σ => Qax (Qam (Qdg hv))
  have i1 : eI 1 (.int .i64 q.length) (vSl (vCo v) s) = some (.eptr (coC v c) 0) := Qav (f := vCo v) hq rfl rfl
  have i2 : ∀ σ, eL σ true 1 (.eptr (coC v c) 0) = some (.agg (coC v c)) := fun σ => Qdz rfl Qk2
  have y1 : (coC v c).length = 1 := rfl
  have y2 : Qal (coC v c) = true := Qxg
  have y3 : (coC v c).map V.ng = coC v c := Qk2
  have l0 : eL [.cells (coC v c)] false 1 (.ptr 0 0) = some (vSl (vCp v) c.list) := by
   show Option.map V.ng (some (vSl (vCp v) c.list)) = _
   rw [Qak, Qah]
  have k1 := Wi0 hv fr fs (vSl (vCo v) s) (fun k => Qam (Qco hv)) Qah s.l.length q.length (by omega) c h1 h2 (l_Z1r_0 (Mi cx) 0 0) h3 c.list.l [] (R + 1) S rfl (by omega) (by omega)
  have ih := Wi1 s hs hc r (q ++ [c]) (R + 1 + crC fr c.list.l) (S + csC fs c.list.l) (by rw [hq]; simp) (by omega) (by omega)
  rw [show ((q ++ [c]).length : Int) = q.length + 1 by simp] at ih
  rw [ih] at k1
  have e3 : R + crL fr (c :: r) = R + 1 + crC fr c.list.l + crL fr r := by show R + (1 + crC fr c.list.l + crL fr r) = _; omega
  have e4 : S + csL fs (c :: r) = S + csC fs c.list.l + csL fs r := by show S + (csC fs c.list.l + csL fs r) = _; omega
  have e5 : ((R + 1 : Nat) : Int) = (R : Int) + 1 := by omega
  have k1' := k1
  rw [e5, show ((([] : List (Cp α)).length : Nat) : Int) = 0 from rfl] at k1'
  rw [e3, e4, ← k1', u_Z1r_0]
  clear ih hc h3 k1 k1'
  generalize coC v c = C at *
  simp +contextual -implicitDefEqProofs (disch := first | assumption | omega | (simp -implicitDefEqProofs only [go_sem]; try omega)) only [↓reduceIte, go_sem, iP, iN, w64, w8, w32, b_Z1r_0, e1, f1, f2, Qae, Qah, i1, i2, l0]
end
def nrN : (k : Nat) → Sl (Cx k) → Nat
 | 0, s => 0
 | k + 1, s => crL (nrN k) s.l
def nsN : (k : Nat) → Sl (Cx k) → Nat
 | 0, s => 0
 | k + 1, s => csL (nsN k) s.l
end Go.Proofs.YtapnplljnpconaaGreatDoor
namespace Go.Proofs.YtapnplljnpconaaGreatDoor
open Go.Ev
set_option maxRecDepth 100000
set_option maxHeartbeats 4000000
def RI (A : Nat) (C : List Ctr) : Nat → Int → List Rw → Prop
 | i, n, [] => True
 | i, n, r :: rs => r.first = n ∧ ¬ r.steps = [] ∧ r.steps.length ≤ 800000 ∧ (∀ s ∈ r.steps, s.ts.length ≤ 800000 ∧ ∀ t ∈ s.ts, OkD A C i 8 t) ∧ RI A C (i + 1) (n + r.steps.length) rs
def totR : List Rw → Int
 | [] => 0
 | r :: rs => r.steps.length + totR rs
section
variable {p : Pln} {L : List (List Int)} {n : Nms} {Z : V} (hZ : V.rb 0 Z = true) (hZn : Z.ng = Z)
include hZ hZn
end
end Go.Proofs.YtapnplljnpconaaGreatDoor
namespace Go.Proofs.YtapnplljnpconaaGreatDoor
open Go.Ev
set_option maxRecDepth 100000
set_option maxHeartbeats 4000000
theorem Wi2 {α : Type} {w0 t0 : Sl α → Nat} (h : ∀ s, w0 s ≤ 4 * t0 s) : ∀ l : List (Sm α), wX w0 l ≤ 4 * tX t0 l
 | [] => Nat.zero_le _
 | y :: r => by
  have := Wi2 h r
  have := h y.of
  show 4 + w0 y.of + wX w0 r ≤ 4 * (1 + t0 y.of + tX t0 r)
  omega
theorem Wi3 {α : Type} {w0 t0 : Sl α → Nat} (h : ∀ s, w0 s ≤ 4 * t0 s) : ∀ l : List (Cp α), wC w0 l ≤ l.length + 4 * tC t0 l
 | [] => Nat.zero_le _
 | x :: r => by
  have := Wi3 h r
  have := Wi2 h x.list.l
  show 1 + wX w0 x.list.l + wC w0 r ≤ (r.length + 1) + 4 * (tX t0 x.list.l + tC t0 r)
  omega
theorem Wi4 {α : Type} {w0 t0 : Sl α → Nat} (h : ∀ s, w0 s ≤ 4 * t0 s) : ∀ l : List (Co α), wL w0 l ≤ l.length + 4 * tS t0 l
 | [] => Nat.zero_le _
 | c :: r => by
  have := Wi4 h r
  have := Wi3 h c.list.l
  show 1 + wC w0 c.list.l + wL w0 r ≤ (r.length + 1) + 4 * (c.list.l.length + tC t0 c.list.l + tS t0 r)
  omega
theorem Wi5 : ∀ (k : Nat) (s : Sl (Cx k)), wN k s ≤ 4 * tot k s
 | 0, s => Nat.le_refl _
 | k + 1, s => by
  have h := Wi4 (Wi5 k) (show List (Co (Cx k)) from s.l)
  have e1 : wN (k + 1) s = wL (wN k) (show List (Co (Cx k)) from s.l) := rfl
  have e2 : tot (k + 1) s = (show List (Co (Cx k)) from s.l).length + tS (tot k) (show List (Co (Cx k)) from s.l) := rfl
  omega
def Ex (p q : Pln) : Prop := p.atoms.length ≤ q.atoms.length ∧ (∃ t, q.ctrs = p.ctrs ++ t) ∧ p.rows.length ≤ q.rows.length
theorem Ex.tr {p q r : Pln} (h : Ex p q) (h' : Ex q r) : Ex p r := by
 obtain ⟨a1, ⟨t, a2⟩, a3⟩ := h
 obtain ⟨b1, ⟨u, b2⟩, b3⟩ := h'
 exact ⟨by omega, ⟨t ++ u, by rw [b2, a2, List.append_assoc]⟩, by omega⟩
theorem OkK.mono {A A' : Nat} {C C' : List Ctr} {row row' k i : Int} {len : Nat} (hA : A ≤ A') (hC : ∃ t, C' = C ++ t) (hr : row ≤ row') (h : OkK A C row k i len) : OkK A' C' row' k i len := by
 obtain ⟨h1, h2⟩ := h
 refine ⟨h1, ?_⟩
 rcases h2 with ⟨a, b, c⟩ | ⟨a, b, c⟩ | h | ⟨a, b, c, d, e, f⟩ | h | h | h
 ·exact .inl ⟨a, b, by omega⟩
 ·exact .inr (.inl ⟨a, b, by omega⟩)
 ·exact .inr (.inr (.inl h))
 ·refine .inr (.inr (.inr (.inl ⟨a, b, c, ?_, e, fun r hr' => ⟨(f r hr').1, by have := (f r hr').2; omega⟩⟩)))
  obtain ⟨t, rfl⟩ := hC
  obtain ⟨hl, _⟩ := List.getElem?_eq_some_iff.1 d
  rw [List.getElem?_append_left hl]; exact d
 ·exact .inr (.inr (.inr (.inr (.inl h))))
 ·exact .inr (.inr (.inr (.inr (.inr (.inl h)))))
 ·exact .inr (.inr (.inr (.inr (.inr (.inr h)))))
theorem OkD.mono {A A' : Nat} {C C' : List Ctr} {row row' : Int} (hA : A ≤ A') (hC : ∃ t, C' = C ++ t) (hr : row ≤ row') : ∀ (d : Nat) (t : Trm), OkD A C row d t → OkD A' C' row' d t
 | 0, _, h => h.elim
 | d + 1, .mk k i ts, h => ⟨h.1.mono hA hC hr, fun t ht => OkD.mono hA hC hr d t (h.2 t ht)⟩
theorem RI.mono {A A' : Nat} {C C' : List Ctr} (hA : A ≤ A') (hC : ∃ t, C' = C ++ t) : ∀ (l : List Rw) (i : Nat) (n : Int), RI A C i n l → RI A' C' i n l
 | [], i, n, _ => trivial
 | r :: rs, i, n, ⟨h1, h2, h3, h4, h5⟩ => ⟨h1, h2, h3, fun s hs => ⟨(h4 s hs).1, fun t ht => OkD.mono hA hC (Int.le_refl _) 8 t ((h4 s hs).2 t ht)⟩, RI.mono hA hC rs _ _ h5⟩
theorem RI.app {A : Nat} {C : List Ctr} {r : Rw} (h2 : ¬ r.steps = []) (h3 : r.steps.length ≤ 800000) : ∀ (l : List Rw) (i : Nat) (n : Int), RI A C i n l → r.first = n + totR l → (∀ s ∈ r.steps, s.ts.length ≤ 800000 ∧ ∀ t ∈ s.ts, OkD A C ((i + l.length : Nat) : Int) 8 t) → RI A C i n (l ++ [r])
 | [], i, n, _, hf, ho => ⟨by rw [hf]; show n + 0 = n; omega, h2, h3, ho, trivial⟩
 | x :: l, i, n, ⟨a1, a2, a3, a4, a5⟩, hf, ho => by
  refine ⟨a1, a2, a3, a4, RI.app h2 h3 l (i + 1) (n + x.steps.length) a5 ?_ ?_⟩
  ·rw [hf]
   show n + ((x.steps.length : Int) + totR l) = _
   omega
  ·intro s hs
   have := ho s hs
   rw [show i + (x :: l).length = i + 1 + l.length by simp; omega] at this
   exact this
def Iv (p : Pln) : Prop := (∀ a ∈ p.atoms, AtOk a) ∧ p.atoms.Nodup ∧ RI p.atoms.length p.ctrs 0 0 p.rows ∧ p.steps = totR p.rows
def TOk (p : Pln) (t : Trm) : Prop := OkD p.atoms.length p.ctrs p.rows.length 8 t
theorem TOk.mono {p q : Pln} {t : Trm} (h : TOk p t) (e : Ex p q) : TOk q t := OkD.mono e.1 e.2.1 (by have := e.2.2; omega) 8 t h
def TA (p : Pln) (t : Trm) : Prop := ∀ d, OkD p.atoms.length p.ctrs p.rows.length (d + 1) t
theorem TA.mono {p q : Pln} {t : Trm} (h : TA p t) (e : Ex p q) : TA q t := fun d => OkD.mono e.1 e.2.1 (by have := e.2.2; omega) (d + 1) t (h d)
section
variable {n : Nms} (hn : NmB n) (hok : okN n = true)
include hn hok
omit hn hok in
end
end Go.Proofs.YtapnplljnpconaaGreatDoor
namespace Go.Proofs.YtapnplljnpconaaGreatDoor
open Go.Ev
set_option maxRecDepth 100000
set_option maxHeartbeats 4000000
section
variable {α : Type} {n : Nms} {s : Sm α} {b : Bool}
theorem Wi6 (h : s.kind = 7) (hs : Qdy n b s = true) : b = true ∨ s.of.l = [] := by
 unfold Qdy at hs
 rw [if_neg (by omega), if_neg (by omega), if_neg (by omega), if_neg (by omega), if_neg (by omega), if_neg (by omega), if_neg (by omega), if_pos h] at hs
 simp only [Bool.and_eq_true, Bool.or_eq_true, decide_eq_true_eq] at hs
 rcases hs.1.2 with h | h
 ·exact .inr (List.length_eq_zero_iff.1 (by omega))
 ·exact .inl h
theorem Wb8 (h : s.kind = 8 ∨ s.kind = 9 ∨ s.kind = 10) (hs : Qdy n b s = true) : b = true := by
 unfold Qdy at hs
 rw [if_neg (by omega), if_neg (by omega), if_neg (by omega), if_neg (by omega), if_neg (by omega), if_neg (by omega), if_neg (by omega), if_neg (by omega), if_pos h, Bool.and_eq_true] at hs
 exact hs.1
end
section
variable {α : Type} {v : α → V} {n : Nms} (hn : NmB n) (hok : okN n = true) {r0 : Pln → Sl α → List Int × Pln} {w0 : Sl α → Nat} {okl : Sl α → Bool} {bq : Sl α → Prop}
def Wfg (r0 : Pln → Sl α → List Int × Pln) (w0 : Sl α → Nat) (okl : Sl α → Bool) (bq : Sl α → Prop) : Prop := ∀ (p : Pln) (s : Sl α) (m : Nat), Iv p → Pz p m → m + w0 s ≤ 800000 → bq s → (okl s = true ∨ s.l = []) →
 Iv (r0 p s).2 ∧ Ex p (r0 p s).2 ∧ ∀ x ∈ (r0 p s).1, 0 ≤ x ∧ x < (r0 p s).2.rows.length
variable (hR : Qh1 v n r0 w0) (hW : Wfg r0 w0 okl bq)
include hn hok hR hW
end
section
variable {α : Type} {n : Nms} {okl : Sl α → Bool}
theorem Qx6 {pseudo : Bool} {len : Nat} : ∀ (r : List (Sm α)) (i : Nat), cmpR n okl pseudo len i r = true → ∀ s ∈ r, Qdy n (okl s.of) s = true
 | [], i, h, s, hs => by cases hs
 | y :: r, i, h, s, hs => by
  unfold cmpR at h
  split at h
  ·cases h
  split at h
  ·cases h
  split at h
  ·cases h
  rename_i c1 _ _
  rcases List.mem_cons.1 hs with rfl | hs
  ·cases hh : Qdy n (okl s.of) s with
   | true => rfl
   | false => exact absurd hh c1
  ·exact Qx6 r (i + 1) h s hs
theorem Qx7 {outer : Bool} {len : Nat} : ∀ (r : List (Cp α)) (i : Nat), innR n okl outer len i r = true → ∀ x ∈ r, ∀ s ∈ x.list.l, Qdy n (okl s.of) s = true
 | [], i, h, x, hx => by cases hx
 | y :: r, i, h, x, hx => by
  unfold innR at h
  split at h
  ·cases h
  split at h
  ·cases h
  split at h
  ·cases h
  rename_i _ _ c1
  rcases List.mem_cons.1 hx with rfl | hx
  ·unfold Qm7 at c1
   cases hh : cmpR n okl (outer && decide ((i : Int) = len - 1)) x.list.l.length 0 x.list.l with
   | true => exact Qx6 _ _ hh
   | false => exact absurd hh c1
  ·exact Qx7 r (i + 1) h x hx
theorem Qqn {outer : Bool} {tot : Nat} : ∀ (r : List (Co α)), lstR n okl outer tot r = true → ∀ c ∈ r, ¬ c.list.l = [] ∧ ∀ x ∈ c.list.l, ∀ s ∈ x.list.l, Qdy n (okl s.of) s = true
 | [], h, x, hx => by cases hx
 | y :: r, h, x, hx => by
  unfold lstR at h
  split at h
  ·cases h
  rename_i c0
  split at h
  ·rename_i c1
   rcases List.mem_cons.1 hx with rfl | hx
   ·exact ⟨fun e => c0 (by rw [e]; rfl), Qx7 _ _ c1⟩
   ·exact Qqn r h x hx
  ·cases h
end
section
variable {n : Nms} (hn : NmB n) (hok : okN n = true)
include hn hok
end
end Go.Proofs.YtapnplljnpconaaGreatDoor
namespace Go.Proofs.YtapnplljnpconaaGreatDoor
open Go.Ev
set_option maxRecDepth 100000
set_option maxHeartbeats 4000000
section
variable {α : Type} {f t0 : Sl α → Nat} (h : ∀ s, f s ≤ t0 s)
include h
theorem Qx8 : ∀ l : List (Sm α), crX f l ≤ tX t0 l
 | [] => Nat.zero_le _
 | y :: r => by
  have := Qx8 r
  have := h y.of
  show f y.of + crX f r ≤ 1 + t0 y.of + tX t0 r
  omega
theorem Wb9 : ∀ l : List (Cp α), crC f l ≤ tC t0 l
 | [] => Nat.zero_le _
 | x :: r => by
  have := Wb9 r
  have := Qx8 h x.list.l
  show crX f x.list.l + crC f r ≤ tX t0 x.list.l + tC t0 r
  omega
theorem Wca : ∀ l : List (Cp α), csC f l ≤ l.length + tC t0 l
 | [] => Nat.zero_le _
 | x :: r => by
  have := Wca r
  have := Qx8 h x.list.l
  show 1 + crX f x.list.l + csC f r ≤ (r.length + 1) + (tX t0 x.list.l + tC t0 r)
  omega
theorem Wcb : ∀ l : List (Co α), crL f l ≤ l.length + tS t0 l
 | [] => Nat.zero_le _
 | c :: r => by
  have := Wcb r
  have := Wb9 h c.list.l
  show 1 + crC f c.list.l + crL f r ≤ (r.length + 1) + (c.list.l.length + tC t0 c.list.l + tS t0 r)
  omega
theorem Wcc : ∀ l : List (Co α), csL f l ≤ l.length + tS t0 l
 | [] => Nat.zero_le _
 | c :: r => by
  have := Wcc r
  have := Wca h c.list.l
  show csC f c.list.l + csL f r ≤ (r.length + 1) + (c.list.l.length + tC t0 c.list.l + tS t0 r)
  omega
end
theorem Qso : ∀ (k : Nat) (s : Sl (Cx k)), nrN k s ≤ tot k s
 | 0, s => Nat.le_refl _
 | k + 1, s => Wcb (Qso k) (show List (Co (Cx k)) from s.l)
theorem Qsp : ∀ (k : Nat) (s : Sl (Cx k)), nsN k s ≤ tot k s
 | 0, s => Nat.le_refl _
 | k + 1, s => Wcc (Qsp k) (show List (Co (Cx k)) from s.l)
section
variable {α : Type} (t0 : Sl α → Nat)
theorem Wcd : ∀ {l : List (Sm α)} {y : Sm α}, y ∈ l → t0 y.of ≤ tX t0 l
 | [], y, h => by cases h
 | z :: r, y, h => by
  show _ ≤ 1 + t0 z.of + tX t0 r
  rcases List.mem_cons.1 h with rfl | h
  ·omega
  ·have := Wcd h; omega
theorem Wce : ∀ {l : List (Cp α)} {x : Cp α}, x ∈ l → tX t0 x.list.l ≤ tC t0 l
 | [], x, h => by cases h
 | z :: r, x, h => by
  show _ ≤ tX t0 z.list.l + tC t0 r
  rcases List.mem_cons.1 h with rfl | h
  ·omega
  ·have := Wce h; omega
theorem Wcf : ∀ {l : List (Co α)} {c : Co α}, c ∈ l → tC t0 c.list.l ≤ tS t0 l
 | [], c, h => by cases h
 | z :: r, c, h => by
  show _ ≤ z.list.l.length + tC t0 z.list.l + tS t0 r
  rcases List.mem_cons.1 h with rfl | h
  ·omega
  ·have := Wcf h; omega
end
theorem Qku : ∀ (k d : Nat) (s : Sl (Cx k)), Bd d k s → tot k s ≤ 1000000 → ∀ σ, Wf σ → E cx 12 [vSl (vCx k) s] σ = some (.tup [.int .i64 (nrN k s), .int .i64 (nsN k s)], σ)
 | 0, d, s, hb, ht, σ, hσ => by
  have e := sl0 (α := Cx 0) (fun x => Empty.elim x) s
  refine Qbv Qbm ?_ (by simp only [Qaf, Qc5]; rfl) rfl σ hσ
  have e2 : (s.l.length : Int) = 0 := by rw [e]; rfl
  have f1 : ∀ k σ, fz k σ fzD (vSl (vCx 0) s) = some (vSl (vCx 0) s) := fun k σ => Qax (Qam (Qdv 0))
  show _ = some (V.tup [.int .i64 0, .int .i64 0], [])
  have u : l_Z1r_0 (Mi cx) 0 0 [.int .i64 0, .int .i64 0, vSl (vCx 0) s, .int .i64 0, .int .i64 0] [] = some (.tup [.int .i64 0, .int .i64 0], []) := by
   rw [u_Z1r_0]
   simp +contextual -implicitDefEqProofs (disch := first | assumption | omega | (simp -implicitDefEqProofs only [go_sem]; try omega)) only [↓reduceIte, go_sem, iP, iN, w64, w8, w32, b_Z1r_0]
  rw [e_Z1r]
  simp +contextual -implicitDefEqProofs (disch := first | assumption | omega | (simp -implicitDefEqProofs only [go_sem]; try omega)) only [↓reduceIte, go_sem, iP, iN, w64, w8, w32, s_Z1r, Qae, Qah, f1, e2, u]
 | k + 1, d, s, hb, ht, σ, hσ => by
  refine Qbv Qbm ?_ (by simp only [Qaf, Qc5]; rfl) rfl σ hσ
  have h1 := Qso (k + 1) s
  have h2 := Qsp (k + 1) s
  have et : tot (k + 1) s = (show List (Co (Cx k)) from s.l).length + tS (tot k) (show List (Co (Cx k)) from s.l) := rfl
  have er : crL (nrN k) (show List (Co (Cx k)) from s.l) = nrN (k + 1) s := rfl
  have es : csL (nsN k) (show List (Co (Cx k)) from s.l) = nsN (k + 1) s := rfl
  have kk := Wi1 (Qdv k) (nrN k) (nsN k) (show Sl (Co (Cx k)) from s) hb.1 (fun c hc => ⟨(hb.2 c hc).1, fun x hx => ((hb.2 c hc).2 x hx).1, fun x hx y hy => by
   have hB := ((hb.2 c hc).2 x hx).2 y hy
   have m1 := Wcd (tot k) hy
   have m2 := Wce (tot k) hx
   have m3 : tC (tot k) c.list.l ≤ tS (tot k) (show List (Co (Cx k)) from s.l) := Wcf (tot k) hc
   exact Qku k (d - 1) y.of hB.2.2.2.2 (by omega)⟩) (show List (Co (Cx k)) from s.l) [] 0 0 rfl (by omega) (by omega)
  rw [er, es, Nat.zero_add, Nat.zero_add] at kk
  have kk' : l_Z1r_0 (Mi cx) 0 0 [.int .i64 0, .int .i64 0, vSl (vCx (k + 1)) s, .int .i64 s.l.length, .int .i64 0] [] = some (.tup [.int .i64 (nrN (k + 1) s), .int .i64 (nsN (k + 1) s)], []) := kk
  have f1 : ∀ k' σ, fz k' σ fzD (vSl (vCx (k + 1)) s) = some (vSl (vCx (k + 1)) s) := fun k' σ => Qax (Qam (Qdv (k + 1)))
  rw [e_Z1r]
  clear kk
  simp +contextual -implicitDefEqProofs (disch := first | assumption | omega | (simp -implicitDefEqProofs only [go_sem]; try omega)) only [↓reduceIte, go_sem, iP, iN, w64, w8, w32, s_Z1r, Qae, Qah, f1, kk']
end Go.Proofs.YtapnplljnpconaaGreatDoor
namespace Go.Proofs.YtapnplljnpconaaGreatDoor
open Go.Ev
set_option maxRecDepth 100000
set_option maxHeartbeats 4000000
def Mo (p q : Pln) (a b : Nat) : Prop := q.rows.length = p.rows.length + a ∧ q.steps = p.steps + b
theorem Mo.z {p : Pln} : Mo p p 0 0 := ⟨rfl, by omega⟩
theorem Mo.tr {p q r : Pln} {a b c d : Nat} (h : Mo p q a b) (h' : Mo q r c d) : Mo p r (a + c) (b + d) := by
 obtain ⟨h1, h2⟩ := h
 obtain ⟨h3, h4⟩ := h'
 exact ⟨by omega, by omega⟩
theorem Mo.atom {p : Pln} {a : Atm} : Mo p (Qbi p a).2 0 0 := by
 unfold Qbi
 split
 ·exact Mo.z
 ·exact ⟨rfl, by show p.steps = p.steps + _; omega⟩
theorem Mo.element {n : Nms} {p : Pln} {ns : Int} {pre name : List UInt8} : Mo p (Qbj n p ns pre name).2 0 0 := by
 unfold Qbj
 split
 ·exact Mo.z
 ·exact Mo.atom
theorem Mo.link {n : Nms} {p : Pln} : Mo p (Qqj n p).2 0 0 :=
 ((Mo.element (n := n) (p := p) (ns := 0) (pre := []) (name := [97])).tr (Mo.element (n := n) (ns := 0) (pre := []) (name := [97, 114, 101, 97]))).tr (Mo.atom (a := atA [104, 114, 101, 102] 1 []))
section
variable {α : Type} {n : Nms} {s : Sm α} {b : Bool}
theorem Qg8 {s : Sm α} (h : Qcn s = true) : s.of.l = [] := by
 unfold Qcn at h
 simp only [Bool.and_eq_true, decide_eq_true_eq] at h
 exact List.length_eq_zero_iff.1 (by omega)
theorem Wfh (h7 : ¬ s.kind = 7) (h8 : ¬ (s.kind = 8 ∨ s.kind = 9)) (h10 : ¬ s.kind = 10) (hs : Qdy n b s = true) : s.of.l = [] := by
 unfold Qdy at hs
 by_cases c : s.kind = 1
 ·rw [if_pos c] at hs
  simp only [Bool.and_eq_true] at hs; exact Qg8 (s := rOne s) hs.2
 rw [if_neg c] at hs
 clear c
 by_cases c : s.kind = 2
 ·rw [if_pos c] at hs
  simp only [Bool.and_eq_true] at hs; exact Qg8 (s := Qdx s) hs.2
 rw [if_neg c] at hs
 clear c
 by_cases c : s.kind = 3 ∨ s.kind = 4
 ·rw [if_pos c] at hs
  simp only [Bool.and_eq_true] at hs; exact Qg8 (s := Qeq s) hs.2
 rw [if_neg c] at hs
 clear c
 by_cases c : s.kind = 11
 ·rw [if_pos c] at hs
  simp only [Bool.and_eq_true] at hs; exact Qg8 (s := Qeq s) hs.2
 rw [if_neg c] at hs
 clear c
 by_cases c : s.kind = 13
 ·rw [if_pos c] at hs
  simp only [Bool.and_eq_true] at hs; exact Qg8 (s := Qeq s) hs.2
 rw [if_neg c] at hs
 clear c
 by_cases c : s.kind = 5
 ·rw [if_pos c] at hs
  simp only [Bool.and_eq_true] at hs; exact Qg8 (s := rTwo s) hs.2
 rw [if_neg c] at hs
 clear c
 by_cases c : s.kind = 6 ∨ s.kind = 12
 ·rw [if_pos c] at hs
  exact Qg8 hs
 rw [if_neg c, if_neg h7, if_neg (by omega)] at hs
 cases hs
end
section
variable {α : Type} {n : Nms} {r0 : Pln → Sl α → List Int × Pln} {fr fs : Sl α → Nat} {okl : Sl α → Bool}
def CntL (r0 : Pln → Sl α → List Int × Pln) (fr fs : Sl α → Nat) (okl : Sl α → Bool) : Prop := (∀ s, s.l = [] → fr s = 0 ∧ fs s = 0) ∧ ∀ p s, (okl s = true ∨ s.l = []) → Mo p (r0 p s).2 (fr s) (fs s)
variable (hC : CntL r0 fr fs okl)
include hC
theorem Wau {p : Pln} {s : Sm α} (hs : Qdy n (okl s.of) s = true) : Mo p (Qdm r0 n p s).2 (fr s.of) (fs s.of) := by
 by_cases c7 : s.kind = 7
 ·have e : (Qdm r0 n p s).2 = addC (r0 p s.of).2 ⟨s.a, s.b, (r0 p s.of).1⟩ := by
   unfold Qdm
   rw [if_neg (by omega), if_neg (by omega), if_neg (by omega), if_neg (by omega), if_neg (by omega), if_neg (by omega), if_neg (by omega), if_neg (by omega), if_pos c7]
  rw [e]
  exact hC.2 p s.of (Wi6 c7 hs)
 by_cases c8 : s.kind = 8 ∨ s.kind = 9
 ·have e : (Qdm r0 n p s).2 = (r0 p s.of).2 := by
   unfold Qdm
   rw [if_neg (by omega), if_neg (by omega), if_neg (by omega), if_neg (by omega), if_neg (by omega), if_neg (by omega), if_pos c8]
  rw [e]
  exact hC.2 p s.of (.inl (Wb8 (by omega) hs))
 by_cases c10 : s.kind = 10
 ·have e : (Qdm r0 n p s).2 = (r0 p s.of).2 := by
   unfold Qdm
   rw [if_neg (by omega), if_neg (by omega), if_neg (by omega), if_neg (by omega), if_neg (by omega), if_neg (by omega), if_neg c8, if_pos c10]
  rw [e]
  exact hC.2 p s.of (.inl (Wb8 (.inr (.inr c10)) hs))
 obtain ⟨z1, z2⟩ := hC.1 s.of (Wfh c7 c8 c10 hs)
 rw [z1, z2]
 unfold Qdm
 by_cases c1 : s.kind = 1 ∨ s.kind = 2
 ·rw [if_pos c1]; exact Mo.element
 rw [if_neg c1]
 by_cases c3 : s.kind = 3
 ·rw [if_pos c3]; exact Mo.atom
 rw [if_neg c3]
 by_cases c4 : s.kind = 4
 ·rw [if_pos c4]; exact Mo.atom
 rw [if_neg c4]
 by_cases c5 : s.kind = 5
 ·rw [if_pos c5]; exact Mo.atom
 rw [if_neg c5]
 by_cases c11 : s.kind = 11
 ·rw [if_pos c11]; exact Mo.atom
 rw [if_neg c11]
 by_cases c6 : s.kind = 6
 ·rw [if_pos c6]; exact Mo.z
 rw [if_neg c6, if_neg c8, if_neg c10, if_neg c7]
 by_cases c12 : s.kind = 12
 ·rw [if_pos c12]; exact Mo.link
 rw [if_neg c12]
 exact Mo.z
theorem Qo8 : ∀ (r : List (Sm α)) (p : Pln), (∀ s ∈ r, Qdy n (okl s.of) s = true) → Mo p (Qcl r0 n p r).2 (crX fr r) (crX fs r)
 | [], p, hs => Mo.z
 | s :: r, p, hs => (Wau hC (hs s (List.mem_cons_self ..))).tr (Qo8 r _ fun s' h' => hs s' (List.mem_cons_of_mem _ h'))
theorem Qo9 : ∀ (r : List (Cp α)) (p : Pln), (∀ x ∈ r, ∀ s ∈ x.list.l, Qdy n (okl s.of) s = true) → (Qcj r0 n p r).2.rows.length = p.rows.length + crC fr r ∧ (Qcj r0 n p r).2.steps + r.length = p.steps + csC fs r
 | [], p, hs => ⟨rfl, by show p.steps + ((0 : Nat) : Int) = p.steps + ((0 : Nat) : Int); rfl⟩
 | x :: r, p, hs => by
  obtain ⟨a1, a2⟩ := Qo8 hC x.list.l p (hs x (List.mem_cons_self ..))
  obtain ⟨b1, b2⟩ := Qo9 r (Qcl r0 n p x.list.l).2 fun s' h' => hs s' (List.mem_cons_of_mem _ h')
  refine ⟨?_, ?_⟩
  ·show (Qcj r0 n (Qcl r0 n p x.list.l).2 r).2.rows.length = p.rows.length + (crX fr x.list.l + crC fr r)
   omega
  ·show (Qcj r0 n (Qcl r0 n p x.list.l).2 r).2.steps + ((r.length + 1 : Nat) : Int) = p.steps + ((1 + crX fs x.list.l + csC fs r : Nat) : Int)
   omega
theorem Wfi {p : Pln} (c : Co α) (hs : ∀ x ∈ c.list.l, ∀ s ∈ x.list.l, Qdy n (okl s.of) s = true) : Mo p (rowP r0 n p c).2 (1 + crC fr c.list.l) (csC fs c.list.l) := by
 obtain ⟨b1, b2⟩ := Qo9 hC c.list.l p hs
 have hlen := Qio (r0 := r0) (n := n) c.list.l p
 refine ⟨?_, ?_⟩
 ·show ((Qcj r0 n p c.list.l).2.rows ++ [_]).length = _
  rw [List.length_append]
  show _ + 1 = _
  omega
 ·show (Qcj r0 n p c.list.l).2.steps + ((Qcj r0 n p c.list.l).1.length : Int) = _
  omega
theorem Qne : ∀ (r : List (Co α)) (p : Pln), (∀ c ∈ r, ∀ x ∈ c.list.l, ∀ s ∈ x.list.l, Qdy n (okl s.of) s = true) → Mo p (Qey r0 n p r).2 (crL fr r) (csL fs r)
 | [], p, hs => Mo.z
 | c :: r, p, hs => (Wfi hC c (hs c (List.mem_cons_self ..))).tr (Qne r _ fun s' h' => hs s' (List.mem_cons_of_mem _ h'))
end
theorem Wi7 {n : Nms} : ∀ k : Nat, CntL (rwsN n k) (nrN k) (nsN k) (okC n k false)
 | 0 => ⟨fun s hs => ⟨rfl, rfl⟩, fun p s ho => Mo.z⟩
 | k + 1 => by
  refine ⟨fun s hs => ?_, fun p s ho => ?_⟩
  ·have e1 : nrN (k + 1) s = crL (nrN k) (show List (Co (Cx k)) from s.l) := rfl
   have e2 : nsN (k + 1) s = csL (nsN k) (show List (Co (Cx k)) from s.l) := rfl
   rw [e1, e2, show (show List (Co (Cx k)) from s.l) = [] from hs]
   exact ⟨rfl, rfl⟩
  ·rcases ho with ho | ho
   ·exact Qne (Wi7 k) (show List (Co (Cx k)) from s.l) p fun c hc => (Qqn _ ho c hc).2
   ·have e : rwsN n (k + 1) p s = ([], p) := by
     show Qey (rwsN n k) n p (show List (Co (Cx k)) from s.l) = _
     rw [show (show List (Co (Cx k)) from s.l) = [] from ho]
     rfl
    have e1 : nrN (k + 1) s = crL (nrN k) (show List (Co (Cx k)) from s.l) := rfl
    have e2 : nsN (k + 1) s = csL (nsN k) (show List (Co (Cx k)) from s.l) := rfl
    rw [e, e1, e2, show (show List (Co (Cx k)) from s.l) = [] from ho]
    exact Mo.z
theorem Qx9 {n : Nms} : ∀ (k : Nat) (s : Sl (Cx k)) (p : Pln), okC n k true s = true → Mo p (rwsN n k p s).2 (nrN k s) (nsN k s) ∧ (rwsN n k p s).1.length = s.l.length
 | 0, s, p, ho => by cases ho
 | k + 1, s, p, ho => ⟨Qne (Wi7 k) (show List (Co (Cx k)) from s.l) p fun c hc => (Qqn _ ho c hc).2, Qkq (show List (Co (Cx k)) from s.l) p⟩
end Go.Proofs.YtapnplljnpconaaGreatDoor
namespace Go.Ev
open Go
abbrev Road := Mach → List V → Objs → Ro
def ap1 (s : Mach → V → Objs → Ro) : Road := fun M xs σ => match xs with | [a] => s M a σ | _ => none
def ap2 (s : Mach → V → V → Objs → Ro) : Road := fun M xs σ => match xs with | [a, b] => s M a b σ | _ => none
def ap3 (s : Mach → V → V → V → Objs → Ro) : Road := fun M xs σ => match xs with | [a, b, c] => s M a b c σ | _ => none
def ap4 (s : Mach → V → V → V → V → Objs → Ro) : Road := fun M xs σ => match xs with | [a, b, c, d] => s M a b c d σ | _ => none
def Qkv (F : Fn) (h : Road) : Prop := ∀ M xs σ, Le (h M xs σ) (fnK M F xs σ)
theorem Qa2 {F : Fn} {s} (h : ∀ M a σ, fnK M F [a] σ = s M a σ) : Qkv F (ap1 s) := fun M xs σ r hr => by
 unfold ap1 at hr
 split at hr
 ·rw [h]; exact hr
 ·cases hr
theorem Qbn {F : Fn} {s} (h : ∀ M a b σ, fnK M F [a, b] σ = s M a b σ) : Qkv F (ap2 s) := fun M xs σ r hr => by
 unfold ap2 at hr
 split at hr
 ·rw [h]; exact hr
 ·cases hr
theorem Qe7 {F : Fn} {s} (h : ∀ M a b c σ, fnK M F [a, b, c] σ = s M a b c σ) : Qkv F (ap3 s) := fun M xs σ r hr => by
 unfold ap3 at hr
 split at hr
 ·rw [h]; exact hr
 ·cases hr
theorem Wi8 {F : Fn} {s} (h : ∀ M a b c d σ, fnK M F [a, b, c, d] σ = s M a b c d σ) : Qkv F (ap4 s) := fun M xs σ r hr => by
 unfold ap4 at hr
 split at hr
 ·rw [h]; exact hr
 ·cases hr
def fnR (F : Fn) : Road := fun M xs σ => fnK M F xs σ
theorem Qbl (F : Fn) : Qkv F (fnR F) := fun _ _ _ => Le.refl _
inductive Tr where
 | nil | node (f : Nat) (h : Road) (l r : Tr)
noncomputable def Tr.get (t : Tr) (g : Nat) : Option Road :=
 Tr.rec none (fun f h _ _ il ir => cond (Nat.beq g f) (some h) (cond (Nat.ble g f) il ir)) t
def TrOk (C : Ctx) : Tr → Prop
 | .nil => True
 | .node f h l r => (∃ F, C.prim f = none ∧ C.code f = some F ∧ Qkv F h) ∧ TrOk C l ∧ TrOk C r
theorem Qya {C : Ctx} : ∀ {t : Tr}, TrOk C t → ∀ {g : Nat} {h : Road}, t.get g = some h → ∃ F, C.prim g = none ∧ C.code g = some F ∧ Qkv F h
 | .nil, _, g, h, hg => by cases hg
 | .node f h0 l r, ht, g, h, hg => by
  have e : (Tr.node f h0 l r).get g = cond (Nat.beq g f) (some h0) (cond (Nat.ble g f) (l.get g) (r.get g)) := rfl
  rw [e] at hg
  cases hb : Nat.beq g f with
  | true =>
   rw [hb] at hg
   cases hg
   rw [Nat.eq_of_beq_eq_true hb]
   exact ht.1
  | false =>
   rw [hb] at hg
   cases hl : Nat.ble g f with
   | true => rw [hl] at hg; exact Qya ht.2.1 hg
   | false => rw [hl] at hg; exact Qya ht.2.2 hg
noncomputable def run (G : GV) (prim : FuncId → Option (List V → Objs → Ro)) (t : Tr) (k : Nat) (n : Nat) : FuncId → List V → Objs → Ro :=
 Nat.rec (fun _ _ _ => none) (fun _ ih f xs σ => match t.get f with | some h => h ⟨G, ih, fun F => iter F k⟩ xs σ | none => match prim f with | some h => h xs σ | none => none) n
theorem Wav {F F' : Rk → Rk} (hF : ∀ f g, LeF f g → LeF (F f) (F g)) (hF' : ∀ f g, LeF f g → LeF (F' f) (F' g)) (h : ∀ f g, LeF f g → LeF (F f) (F' g)) : LeF (fixL F) (fixL F') := by
 intro vs σ r hr
 obtain ⟨j, hj⟩ := ((Qn7 (Qfk hF vs σ)).iff r).1 hr
 exact ((Qn7 (Qfk hF' vs σ)).iff r).2 ⟨j, Qif h (Nat.le_refl j) vs σ r hj⟩
theorem Waw {F F' : Rk → Rk} (hF' : ∀ f g, LeF f g → LeF (F' f) (F' g)) (h : ∀ f g, LeF f g → LeF (F f) (F' g)) (k : Nat) : LeF (iter F k) (fixL F') := by
 intro vs σ r hr
 exact ((Qn7 (Qfk hF' vs σ)).iff r).2 ⟨k, Qif h (Nat.le_refl k) vs σ r hr⟩
theorem Wi9 {C : Ctx} {t : Tr} (ht : TrOk C t) (k : Nat) : ∀ (n : Nat) (f : FuncId) (xs : List V) (σ : Objs), Le (run C.G C.prim t k n f xs σ) (E C f xs σ)
 | 0, f, xs, σ => fun r h => by cases h
 | n + 1, f, xs, σ => by
  intro r h
  have e : run C.G C.prim t k (n + 1) f xs σ = match t.get f with | some h => h ⟨C.G, run C.G C.prim t k n, fun F => iter F k⟩ xs σ | none => match C.prim f with | some h => h xs σ | none => none := rfl
  rw [e] at h
  cases hg : t.get f with
  | none =>
   rw [hg] at h
   simp only at h
   cases hp : C.prim f with
   | none => rw [hp] at h; cases h
   | some p => rw [hp] at h; rw [Wa4 hp]; exact h
  | some hh =>
   rw [hg] at h
   obtain ⟨F, hp, hc, hr⟩ := Qya ht hg
   have h1 := hr _ _ _ r h
   rw [E_fn hp hc]
   refine Qk0 (M := ⟨C.G, run C.G C.prim t k n, fun F => iter F k⟩) (N := Mi C) F.body ⟨rfl, fun f xs σ => Wi9 ht k n f xs σ⟩ (fun F F' _ h2 h3 => Waw h2 h3 k) ⟨rfl, fun _ _ _ => Le.refl _⟩ (fun F F' _ _ h3 => Qif h3 (Nat.le_refl k)) ⟨rfl, fun _ _ _ => Le.refl _⟩ (fun F F' h2 h3 h4 => Wav h2 h3 h4) (Qmc _) _ _ r h1
theorem Wkx {C : Ctx} {t : Tr} (ht : TrOk C t) {k n : Nat} {f : FuncId} {xs : List V} {σ : Objs} {r : V × Objs} (h : run C.G C.prim t k n f xs σ = some r) : E C f xs σ = some r := Wi9 ht k n f xs σ r h
end Go.Ev
set_option maxRecDepth 100000
namespace Go.Proofs.YtapnplljnpconaaGreatDoor
open Go.Ev
def Wfj : Tr := (.node 98 (ap2 s_Zq) (.node 49 (ap3 s_Z30) (.node 28 (ap2 s_Z2t) (.node 11 (ap2 s_Z2q) (.node 7 (ap3 s_Z1p) (.node 4 (ap3 s_Z1n) (.node 3 (ap2 s_Z1o) .nil .nil) (.node 6 (fnR c_Z1s) .nil .nil)) (.node 9 (ap3 s_Z1q) (.node 8 (ap2 s_Z10) .nil .nil) (.node 10 (ap1 s_Z39) .nil .nil))) (.node 21 (fnR c_Zz) (.node 13 (ap2 s_Z1t) (.node 12 (ap1 s_Z1r) .nil .nil) (.node 14 (ap1 s_Z2v) .nil .nil)) (.node 27 (ap1 s_Z1m) (.node 26 (fnR c_Z37) .nil .nil) .nil))) (.node 36 (ap3 s_Z2w) (.node 32 (ap2 s_Z6) (.node 30 (ap2 s_Z13) (.node 29 (ap1 s_Z14) .nil .nil) (.node 31 (ap3 s_Zx) .nil .nil)) (.node 34 (ap1 s_Z2y) (.node 33 (ap1 s_Z3a) .nil .nil) (.node 35 (ap1 s_Z2r) .nil .nil))) (.node 46 (ap2 s_Z1h) (.node 38 (ap1 s_Z31) (.node 37 (ap1 s_Z33) .nil .nil) (.node 39 (ap2 s_Z2u) .nil .nil)) (.node 48 (fnR c_Z2f) (.node 47 (fnR c_Z38) .nil .nil) .nil)))) (.node 75 (ap1 s_Z16) (.node 67 (ap2 s_Z1j) (.node 54 (ap3 s_Zp) (.node 51 (ap1 s_Z1b) (.node 50 (ap1 s_Z1g) .nil .nil) (.node 52 (ap2 s_Zw) .nil .nil)) (.node 56 (ap1 s_Z1w) (.node 55 (ap2 s_Z5) .nil .nil) (.node 57 (ap2 s_Z2x) .nil .nil))) (.node 71 (fnR c_Z1u) (.node 69 (fnR c_Z2b) (.node 68 (fnR c_Zh) .nil .nil) (.node 70 (fnR c_Z1x) .nil .nil)) (.node 74 (ap3 s_Zo) (.node 72 (ap1 s_Zy) .nil .nil) .nil))) (.node 83 (ap1 s_Z34) (.node 79 (ap1 s_Z32) (.node 77 (ap2 s_Z1v) (.node 76 (ap2 s_Z9) .nil .nil) (.node 78 (ap1 s_Z24) .nil .nil)) (.node 81 (ap1 s_Z2z) (.node 80 (ap2 s_Z35) .nil .nil) (.node 82 (ap1 s_Z2s) .nil .nil))) (.node 94 (ap2 s_Z2e) (.node 91 (fnR c_Za) (.node 90 (fnR c_Ze) .nil .nil) (.node 92 (ap2 s_Zn) .nil .nil)) (.node 96 (ap1 s_Z1k) (.node 95 (ap1 s_Z1z) .nil .nil) .nil))))) (.node 136 (ap1 s_Z1c) (.node 119 (ap1 s_Z29) (.node 106 (ap1 s_Z4) (.node 102 (ap3 s_Z8) (.node 100 (ap4 s_Z1) (.node 99 (ap2 s_Z3) .nil .nil) (.node 101 (ap2 s_Z0) .nil .nil)) (.node 104 (ap1 s_Z12) (.node 103 (ap2 s_Z7) .nil .nil) (.node 105 (ap2 s_Z2) .nil .nil))) (.node 116 (fnR c_Zf) (.node 108 (ap1 s_Z21) (.node 107 (ap1 s_Z23) .nil .nil) (.node 109 (ap1 s_Z1y) .nil .nil)) (.node 118 (ap2 s_Z2g) (.node 117 (fnR c_Zd) .nil .nil) .nil))) (.node 129 (fnR c_Z2c) (.node 125 (fnR c_Z2d) (.node 122 (fnR c_Z2m) (.node 120 (fnR c_Z2n) .nil .nil) (.node 124 (ap3 s_Z2k) .nil .nil)) (.node 127 (fnR c_Z2l) (.node 126 (fnR c_Z2h) .nil .nil) (.node 128 (ap2 s_Z2j) .nil .nil))) (.node 133 (ap2 s_Z1e) (.node 131 (ap1 s_Z1l) (.node 130 (fnR c_Z2p) .nil .nil) (.node 132 (ap2 s_Zv) .nil .nil)) (.node 135 (ap1 s_Z1f) (.node 134 (ap1 s_Zq_1) .nil .nil) .nil)))) (.node 152 (ap3 s_Zl) (.node 144 (ap1 s_Z1a) (.node 140 (ap1 s_Zq_2) (.node 138 (ap1 s_Z15) (.node 137 (ap1 s_Z18) .nil .nil) (.node 139 (ap1 s_Z19) .nil .nil)) (.node 142 (ap1 s_Z1d) (.node 141 (ap1 s_Zq_3) .nil .nil) (.node 143 (ap1 s_Zq_4) .nil .nil))) (.node 148 (ap3 s_Z22) (.node 146 (ap2 s_Z17) (.node 145 (ap2 s_Z1i) .nil .nil) (.node 147 (ap1 s_Z11) .nil .nil)) (.node 151 (fnR c_Zi) (.node 150 (fnR c_Zj) .nil .nil) .nil))) (.node 165 (fnR c_Zc) (.node 158 (fnR c_Z26) (.node 155 (ap2 s_Z2i) (.node 153 (fnR c_Zm) .nil .nil) (.node 157 (fnR c_Z2o) .nil .nil)) (.node 161 (fnR c_Z20) (.node 160 (ap1 s_Z27) .nil .nil) (.node 162 (fnR c_Zk) .nil .nil))) (.node 172 (fnR c_Z36) (.node 168 (ap1 s_Z2a) (.node 167 (ap1 s_Z25) .nil .nil) (.node 169 (ap1 s_Z28) .nil .nil)) (.node 177 (fnR c_Zg) (.node 174 (fnR c_Zb) .nil .nil) .nil))))))
theorem Qt1 : TrOk cx Wfj := ⟨⟨c_Zq, by kernel_rfl, by kernel_rfl, Qbn k_Zq⟩, ⟨⟨c_Z30, by kernel_rfl, by kernel_rfl, Qe7 k_Z30⟩, ⟨⟨c_Z2t, by kernel_rfl, by kernel_rfl, Qbn k_Z2t⟩, ⟨⟨c_Z2q, by kernel_rfl, by kernel_rfl, Qbn k_Z2q⟩, ⟨⟨c_Z1p, by kernel_rfl, by kernel_rfl, Qe7 k_Z1p⟩, ⟨⟨c_Z1n, by kernel_rfl, by kernel_rfl, Qe7 k_Z1n⟩, ⟨⟨c_Z1o, by kernel_rfl, by kernel_rfl, Qbn k_Z1o⟩, trivial, trivial⟩, ⟨⟨c_Z1s, by kernel_rfl, by kernel_rfl, Qbl _⟩, trivial, trivial⟩⟩, ⟨⟨c_Z1q, by kernel_rfl, by kernel_rfl, Qe7 k_Z1q⟩, ⟨⟨c_Z10, by kernel_rfl, by kernel_rfl, Qbn k_Z10⟩, trivial, trivial⟩, ⟨⟨c_Z39, by kernel_rfl, by kernel_rfl, Qa2 k_Z39⟩, trivial, trivial⟩⟩⟩, ⟨⟨c_Zz, by kernel_rfl, by kernel_rfl, Qbl _⟩, ⟨⟨c_Z1t, by kernel_rfl, by kernel_rfl, Qbn k_Z1t⟩, ⟨⟨c_Z1r, by kernel_rfl, by kernel_rfl, Qa2 k_Z1r⟩, trivial, trivial⟩, ⟨⟨c_Z2v, by kernel_rfl, by kernel_rfl, Qa2 k_Z2v⟩, trivial, trivial⟩⟩, ⟨⟨c_Z1m, by kernel_rfl, by kernel_rfl, Qa2 k_Z1m⟩, ⟨⟨c_Z37, by kernel_rfl, by kernel_rfl, Qbl _⟩, trivial, trivial⟩, trivial⟩⟩⟩, ⟨⟨c_Z2w, by kernel_rfl, by kernel_rfl, Qe7 k_Z2w⟩, ⟨⟨c_Z6, by kernel_rfl, by kernel_rfl, Qbn k_Z6⟩, ⟨⟨c_Z13, by kernel_rfl, by kernel_rfl, Qbn k_Z13⟩, ⟨⟨c_Z14, by kernel_rfl, by kernel_rfl, Qa2 k_Z14⟩, trivial, trivial⟩, ⟨⟨c_Zx, by kernel_rfl, by kernel_rfl, Qe7 k_Zx⟩, trivial, trivial⟩⟩, ⟨⟨c_Z2y, by kernel_rfl, by kernel_rfl, Qa2 k_Z2y⟩, ⟨⟨c_Z3a, by kernel_rfl, by kernel_rfl, Qa2 k_Z3a⟩, trivial, trivial⟩, ⟨⟨c_Z2r, by kernel_rfl, by kernel_rfl, Qa2 k_Z2r⟩, trivial, trivial⟩⟩⟩, ⟨⟨c_Z1h, by kernel_rfl, by kernel_rfl, Qbn k_Z1h⟩, ⟨⟨c_Z31, by kernel_rfl, by kernel_rfl, Qa2 k_Z31⟩, ⟨⟨c_Z33, by kernel_rfl, by kernel_rfl, Qa2 k_Z33⟩, trivial, trivial⟩, ⟨⟨c_Z2u, by kernel_rfl, by kernel_rfl, Qbn k_Z2u⟩, trivial, trivial⟩⟩, ⟨⟨c_Z2f, by kernel_rfl, by kernel_rfl, Qbl _⟩, ⟨⟨c_Z38, by kernel_rfl, by kernel_rfl, Qbl _⟩, trivial, trivial⟩, trivial⟩⟩⟩⟩, ⟨⟨c_Z16, by kernel_rfl, by kernel_rfl, Qa2 k_Z16⟩, ⟨⟨c_Z1j, by kernel_rfl, by kernel_rfl, Qbn k_Z1j⟩, ⟨⟨c_Zp, by kernel_rfl, by kernel_rfl, Qe7 k_Zp⟩, ⟨⟨c_Z1b, by kernel_rfl, by kernel_rfl, Qa2 k_Z1b⟩, ⟨⟨c_Z1g, by kernel_rfl, by kernel_rfl, Qa2 k_Z1g⟩, trivial, trivial⟩, ⟨⟨c_Zw, by kernel_rfl, by kernel_rfl, Qbn k_Zw⟩, trivial, trivial⟩⟩, ⟨⟨c_Z1w, by kernel_rfl, by kernel_rfl, Qa2 k_Z1w⟩, ⟨⟨c_Z5, by kernel_rfl, by kernel_rfl, Qbn k_Z5⟩, trivial, trivial⟩, ⟨⟨c_Z2x, by kernel_rfl, by kernel_rfl, Qbn k_Z2x⟩, trivial, trivial⟩⟩⟩, ⟨⟨c_Z1u, by kernel_rfl, by kernel_rfl, Qbl _⟩, ⟨⟨c_Z2b, by kernel_rfl, by kernel_rfl, Qbl _⟩, ⟨⟨c_Zh, by kernel_rfl, by kernel_rfl, Qbl _⟩, trivial, trivial⟩, ⟨⟨c_Z1x, by kernel_rfl, by kernel_rfl, Qbl _⟩, trivial, trivial⟩⟩, ⟨⟨c_Zo, by kernel_rfl, by kernel_rfl, Qe7 k_Zo⟩, ⟨⟨c_Zy, by kernel_rfl, by kernel_rfl, Qa2 k_Zy⟩, trivial, trivial⟩, trivial⟩⟩⟩, ⟨⟨c_Z34, by kernel_rfl, by kernel_rfl, Qa2 k_Z34⟩, ⟨⟨c_Z32, by kernel_rfl, by kernel_rfl, Qa2 k_Z32⟩, ⟨⟨c_Z1v, by kernel_rfl, by kernel_rfl, Qbn k_Z1v⟩, ⟨⟨c_Z9, by kernel_rfl, by kernel_rfl, Qbn k_Z9⟩, trivial, trivial⟩, ⟨⟨c_Z24, by kernel_rfl, by kernel_rfl, Qa2 k_Z24⟩, trivial, trivial⟩⟩, ⟨⟨c_Z2z, by kernel_rfl, by kernel_rfl, Qa2 k_Z2z⟩, ⟨⟨c_Z35, by kernel_rfl, by kernel_rfl, Qbn k_Z35⟩, trivial, trivial⟩, ⟨⟨c_Z2s, by kernel_rfl, by kernel_rfl, Qa2 k_Z2s⟩, trivial, trivial⟩⟩⟩, ⟨⟨c_Z2e, by kernel_rfl, by kernel_rfl, Qbn k_Z2e⟩, ⟨⟨c_Za, by kernel_rfl, by kernel_rfl, Qbl _⟩, ⟨⟨c_Ze, by kernel_rfl, by kernel_rfl, Qbl _⟩, trivial, trivial⟩, ⟨⟨c_Zn, by kernel_rfl, by kernel_rfl, Qbn k_Zn⟩, trivial, trivial⟩⟩, ⟨⟨c_Z1k, by kernel_rfl, by kernel_rfl, Qa2 k_Z1k⟩, ⟨⟨c_Z1z, by kernel_rfl, by kernel_rfl, Qa2 k_Z1z⟩, trivial, trivial⟩, trivial⟩⟩⟩⟩⟩, ⟨⟨c_Z1c, by kernel_rfl, by kernel_rfl, Qa2 k_Z1c⟩, ⟨⟨c_Z29, by kernel_rfl, by kernel_rfl, Qa2 k_Z29⟩, ⟨⟨c_Z4, by kernel_rfl, by kernel_rfl, Qa2 k_Z4⟩, ⟨⟨c_Z8, by kernel_rfl, by kernel_rfl, Qe7 k_Z8⟩, ⟨⟨c_Z1, by kernel_rfl, by kernel_rfl, Wi8 k_Z1⟩, ⟨⟨c_Z3, by kernel_rfl, by kernel_rfl, Qbn k_Z3⟩, trivial, trivial⟩, ⟨⟨c_Z0, by kernel_rfl, by kernel_rfl, Qbn k_Z0⟩, trivial, trivial⟩⟩, ⟨⟨c_Z12, by kernel_rfl, by kernel_rfl, Qa2 k_Z12⟩, ⟨⟨c_Z7, by kernel_rfl, by kernel_rfl, Qbn k_Z7⟩, trivial, trivial⟩, ⟨⟨c_Z2, by kernel_rfl, by kernel_rfl, Qbn k_Z2⟩, trivial, trivial⟩⟩⟩, ⟨⟨c_Zf, by kernel_rfl, by kernel_rfl, Qbl _⟩, ⟨⟨c_Z21, by kernel_rfl, by kernel_rfl, Qa2 k_Z21⟩, ⟨⟨c_Z23, by kernel_rfl, by kernel_rfl, Qa2 k_Z23⟩, trivial, trivial⟩, ⟨⟨c_Z1y, by kernel_rfl, by kernel_rfl, Qa2 k_Z1y⟩, trivial, trivial⟩⟩, ⟨⟨c_Z2g, by kernel_rfl, by kernel_rfl, Qbn k_Z2g⟩, ⟨⟨c_Zd, by kernel_rfl, by kernel_rfl, Qbl _⟩, trivial, trivial⟩, trivial⟩⟩⟩, ⟨⟨c_Z2c, by kernel_rfl, by kernel_rfl, Qbl _⟩, ⟨⟨c_Z2d, by kernel_rfl, by kernel_rfl, Qbl _⟩, ⟨⟨c_Z2m, by kernel_rfl, by kernel_rfl, Qbl _⟩, ⟨⟨c_Z2n, by kernel_rfl, by kernel_rfl, Qbl _⟩, trivial, trivial⟩, ⟨⟨c_Z2k, by kernel_rfl, by kernel_rfl, Qe7 k_Z2k⟩, trivial, trivial⟩⟩, ⟨⟨c_Z2l, by kernel_rfl, by kernel_rfl, Qbl _⟩, ⟨⟨c_Z2h, by kernel_rfl, by kernel_rfl, Qbl _⟩, trivial, trivial⟩, ⟨⟨c_Z2j, by kernel_rfl, by kernel_rfl, Qbn k_Z2j⟩, trivial, trivial⟩⟩⟩, ⟨⟨c_Z1e, by kernel_rfl, by kernel_rfl, Qbn k_Z1e⟩, ⟨⟨c_Z1l, by kernel_rfl, by kernel_rfl, Qa2 k_Z1l⟩, ⟨⟨c_Z2p, by kernel_rfl, by kernel_rfl, Qbl _⟩, trivial, trivial⟩, ⟨⟨c_Zv, by kernel_rfl, by kernel_rfl, Qbn k_Zv⟩, trivial, trivial⟩⟩, ⟨⟨c_Z1f, by kernel_rfl, by kernel_rfl, Qa2 k_Z1f⟩, ⟨⟨c_Zq_1, by kernel_rfl, by kernel_rfl, Qa2 k_Zq_1⟩, trivial, trivial⟩, trivial⟩⟩⟩⟩, ⟨⟨c_Zl, by kernel_rfl, by kernel_rfl, Qe7 k_Zl⟩, ⟨⟨c_Z1a, by kernel_rfl, by kernel_rfl, Qa2 k_Z1a⟩, ⟨⟨c_Zq_2, by kernel_rfl, by kernel_rfl, Qa2 k_Zq_2⟩, ⟨⟨c_Z15, by kernel_rfl, by kernel_rfl, Qa2 k_Z15⟩, ⟨⟨c_Z18, by kernel_rfl, by kernel_rfl, Qa2 k_Z18⟩, trivial, trivial⟩, ⟨⟨c_Z19, by kernel_rfl, by kernel_rfl, Qa2 k_Z19⟩, trivial, trivial⟩⟩, ⟨⟨c_Z1d, by kernel_rfl, by kernel_rfl, Qa2 k_Z1d⟩, ⟨⟨c_Zq_3, by kernel_rfl, by kernel_rfl, Qa2 k_Zq_3⟩, trivial, trivial⟩, ⟨⟨c_Zq_4, by kernel_rfl, by kernel_rfl, Qa2 k_Zq_4⟩, trivial, trivial⟩⟩⟩, ⟨⟨c_Z22, by kernel_rfl, by kernel_rfl, Qe7 k_Z22⟩, ⟨⟨c_Z17, by kernel_rfl, by kernel_rfl, Qbn k_Z17⟩, ⟨⟨c_Z1i, by kernel_rfl, by kernel_rfl, Qbn k_Z1i⟩, trivial, trivial⟩, ⟨⟨c_Z11, by kernel_rfl, by kernel_rfl, Qa2 k_Z11⟩, trivial, trivial⟩⟩, ⟨⟨c_Zi, by kernel_rfl, by kernel_rfl, Qbl _⟩, ⟨⟨c_Zj, by kernel_rfl, by kernel_rfl, Qbl _⟩, trivial, trivial⟩, trivial⟩⟩⟩, ⟨⟨c_Zc, by kernel_rfl, by kernel_rfl, Qbl _⟩, ⟨⟨c_Z26, by kernel_rfl, by kernel_rfl, Qbl _⟩, ⟨⟨c_Z2i, by kernel_rfl, by kernel_rfl, Qbn k_Z2i⟩, ⟨⟨c_Zm, by kernel_rfl, by kernel_rfl, Qbl _⟩, trivial, trivial⟩, ⟨⟨c_Z2o, by kernel_rfl, by kernel_rfl, Qbl _⟩, trivial, trivial⟩⟩, ⟨⟨c_Z20, by kernel_rfl, by kernel_rfl, Qbl _⟩, ⟨⟨c_Z27, by kernel_rfl, by kernel_rfl, Qa2 k_Z27⟩, trivial, trivial⟩, ⟨⟨c_Zk, by kernel_rfl, by kernel_rfl, Qbl _⟩, trivial, trivial⟩⟩⟩, ⟨⟨c_Z36, by kernel_rfl, by kernel_rfl, Qbl _⟩, ⟨⟨c_Z2a, by kernel_rfl, by kernel_rfl, Qa2 k_Z2a⟩, ⟨⟨c_Z25, by kernel_rfl, by kernel_rfl, Qa2 k_Z25⟩, trivial, trivial⟩, ⟨⟨c_Z28, by kernel_rfl, by kernel_rfl, Qa2 k_Z28⟩, trivial, trivial⟩⟩, ⟨⟨c_Zg, by kernel_rfl, by kernel_rfl, Qbl _⟩, ⟨⟨c_Zb, by kernel_rfl, by kernel_rfl, Qbl _⟩, trivial, trivial⟩, trivial⟩⟩⟩⟩⟩⟩
end Go.Proofs.YtapnplljnpconaaGreatDoor
namespace Go.Proofs.YtapnplljnpconaaGreatDoor
open Go.Ev
set_option maxRecDepth 100000
theorem Wax : E cx 6 [] [] = some (.bool true, []) := Wkx Qt1 (k := 100) (n := 40) (by kernel_rfl)
end Go.Proofs.YtapnplljnpconaaGreatDoor
namespace Go.Proofs.YtapnplljnpconaaGreatDoor
open Go.Ev
set_option maxRecDepth 100000
set_option maxHeartbeats 4000000
theorem Wja {k : Nat} : ∀ l : List (Sl (Cx k)), (∀ s ∈ l, tot k s ≤ 100) → wA l ≤ 400 * l.length
 | [], h => Nat.zero_le _
 | s :: r, h => by
  have h1 := Wja r fun s' h' => h s' (List.mem_cons_of_mem _ h')
  have h2 := Wi5 k s
  have h3 := h s (List.mem_cons_self ..)
  show wN k s + wA r ≤ 400 * (r.length + 1)
  omega
end Go.Proofs.YtapnplljnpconaaGreatDoor
namespace Go.Proofs.YtapnplljnpconaaGreatDoor
open Go.Ev
set_option maxRecDepth 100000
set_option maxHeartbeats 4000000
theorem Qyb {n : Nms} {k : Nat} {s : Sl (Cx k)} (h : chkS n s = 0) : okN n = true ∧ okC n k true s = true := by
 unfold chkS at h
 cases c1 : okN n with
 | false => rw [c1, if_pos rfl] at h; omega
 | true =>
  refine ⟨rfl, ?_⟩
  rw [c1, if_neg (by decide)] at h
  split at h
  ·omega
  ·cases c3 : okC n k true s with
   | true => rfl
   | false => rw [c3, if_pos rfl] at h; omega
theorem Qpa (n : Nms) {k : Nat} (a b : Sl (Cx k)) (ha : SlOk (CxOk k) a) (hb : SlOk (CxOk k) b) : E cx 4 [vSl (vCx k) a, vSl (vCx k) b, vNms n] [] = some (.bool true, []) := by
 show E cx 4 [vSl (vCx k) a, vSl (vCx k) b, .agg (Qaa n)] [] = _
 have w1 : Wf [.cells (Qaa n)] := Qc6 (Qag Qai Qa5)
 have h1 : boxV [] (.agg (Qaa n)) = some (.ptr 0 0, [.cells (Qaa n)]) := Qa0 ok_n no_n
 have l0 : ∀ τ : Objs, eL (.cells (Qaa n) :: τ) true 4 (.ptr 0 0) = some (.agg (Qaa n)) := fun τ => Qbx rfl rfl no_n
 have ks := Qbv Qbm Wax rfl rfl _ w1
 have bf2 : Qau false 1 2 .nils [(0, vSl (vCx k) a), (1, vSl (vCx k) b)] = some (.sl [vSl (vCx k) a, vSl (vCx k) b] .fx) := by
  cases a <;> cases b <;> rfl
 have bf1 : Qau false 1 1 .nils [(0, vSl (vCx k) a)] = some (.sl [vSl (vCx k) a] .fx) := by
  cases a <;> rfl
 obtain ⟨g, kg, hg⟩ := Wak n (.row [a, b]) ⟨by show 2 ≤ _; decide, fun x hx => by
  rcases List.mem_cons.1 hx with rfl | hx
  ·exact ha
  ·rw [List.mem_singleton.1 hx]; exact hb⟩
 have kg1 : E cx 7 [.sl [vSl (vCx k) a, vSl (vCx k) b] .no, .agg (Qaa n), .int .i64 100] [.cells (Qaa n)] = some (.bool g, [.cells (Qaa n)]) := kg _ w1
 have nA : (vSl (vCx k) a).ng = vSl (vCx k) a := Qah
 have nB : (vSl (vCx k) b).ng = vSl (vCx k) b := Qah
 have lA : Qan (vSl (vCx k) a) = some (.int .i64 a.l.length) := Qae
 have lB : Qan (vSl (vCx k) b) = some (.int .i64 b.l.length) := Qae
 rw [e_Z1n]
 cases g with
 | true =>
  clear kg hg
  generalize vSl (vCx k) a = A at *
  generalize vSl (vCx k) b = B at *
  generalize Qaa n = N at *
  simp +contextual -implicitDefEqProofs (disch := first | assumption | omega | (simp -implicitDefEqProofs only [go_sem]; try omega)) only [↓reduceIte, go_sem, iP, iN, w64, w8, w32, s_Z1n, h1, l0, ks, bf2, kg1, nA, nB]
 | false =>
  obtain ⟨g1, hn, g3⟩ := hg rfl
  obtain ⟨ba, _, ta⟩ := g3 a (by show a ∈ [a, b]; simp)
  obtain ⟨bb, _, tb⟩ := g3 b (by show b ∈ [a, b]; simp)
  have ka := Qlw hn a (d := 41) (by omega) ba _ w1
  have kb := Qlw hn b (d := 41) (by omega) bb _ w1
  by_cases ca : chkS n a = 0
  case neg =>
   clear kg g3
   generalize chkS n a = c at *
   generalize vSl (vCx k) a = A at *
   generalize vSl (vCx k) b = B at *
   generalize Qaa n = N at *
   simp +contextual -implicitDefEqProofs (disch := first | assumption | omega | (simp -implicitDefEqProofs only [go_sem]; try omega)) only [↓reduceIte, go_sem, iP, iN, w64, w8, w32, s_Z1n, h1, l0, ks, bf2, kg1, nA, nB, ka, ca]
  by_cases cb : chkS n b = 0
  case neg =>
   rw [ca] at ka
   clear kg g3
   generalize chkS n b = c at *
   generalize vSl (vCx k) a = A at *
   generalize vSl (vCx k) b = B at *
   generalize Qaa n = N at *
   simp +contextual -implicitDefEqProofs (disch := first | assumption | omega | (simp -implicitDefEqProofs only [go_sem]; try omega)) only [↓reduceIte, go_sem, iP, iN, w64, w8, w32, s_Z1n, h1, l0, ks, bf2, kg1, nA, nB, ka, kb, cb]
  rw [ca] at ka
  rw [cb] at kb
  obtain ⟨hok, oa⟩ := Qyb ca
  obtain ⟨_, ob⟩ := Qyb cb
  have e2 : Qh2 n p0 [] 0 [a, b] = .inl ((rwsN n k (rwsN n k p0 a).2 b).2, [(rwsN n k p0 a).1, (rwsN n k (rwsN n k p0 a).2 b).1]) := by
   unfold Qh2
   rw [if_pos ca]
   unfold Qh2
   rw [if_pos cb]
   rfl
  have e1 : Qh2 n p0 [] 0 [a] = .inl ((rwsN n k p0 a).2, [(rwsN n k p0 a).1]) := by
   unfold Qh2
   rw [if_pos ca]
   rfl
  have hwab : wA [a, b] ≤ 800000 := by
   have := Wja [a, b] (fun s hs => (g3 s hs).2.2)
   have e : [a, b].length = 2 := rfl
   omega
  have hwa : wA [a] ≤ 800000 := by
   have e : wA [a, b] = wN k a + (wN k b + 0) := rfl
   have e' : wA [a] = wN k a + 0 := rfl
   omega
  obtain ⟨x, hx, kx⟩ := Wb6 hn (.row [a, b]) (by show 2 ≤ 4; decide) (fun s hs => (g3 s hs).1) hwab
  obtain ⟨y, hy, ky⟩ := Wb6 hn (.row [a]) (by show 1 ≤ 4; decide) (fun s hs => (g3 s (by rw [List.mem_singleton.1 hs]; show a ∈ [a, b]; simp)).1) hwa
  obtain rfl : x = .tup [.agg (plC (rwsN n k (rwsN n k p0 a).2 b).2 [(rwsN n k p0 a).1, (rwsN n k (rwsN n k p0 a).2 b).1]), .nili] := by
   rcases hx with ⟨h, _⟩ | ⟨_, ⟨i, h, _⟩ | ⟨q, h, hh⟩⟩
   ·rw [hok] at h; cases h
   ·rw [show (Sl.row [a, b]).l = [a, b] from rfl, e2] at h; cases h
   ·rw [show (Sl.row [a, b]).l = [a, b] from rfl, e2] at h; cases h; exact hh
  obtain rfl : y = .tup [.agg (plC (rwsN n k p0 a).2 [(rwsN n k p0 a).1]), .nili] := by
   rcases hy with ⟨h, _⟩ | ⟨_, ⟨i, h, _⟩ | ⟨q, h, hh⟩⟩
   ·rw [hok] at h; cases h
   ·rw [show (Sl.row [a]).l = [a] from rfl, e1] at h; cases h
   ·rw [show (Sl.row [a]).l = [a] from rfl, e1] at h; cases h; exact hh
  obtain ⟨⟨m1, m2⟩, m3⟩ := Qx9 k a p0 oa
  obtain ⟨⟨m4, m5⟩, m6⟩ := Qx9 k b (rwsN n k p0 a).2 ob
  generalize rwsN n k p0 a = qa at *
  generalize rwsN n k qa.2 b = qb at *
  have z1 : p0.rows.length = 0 := rfl
  have z2 : p0.steps = 0 := rfl
  have cl2 : Cl0 [.cells (Qaa n), .cells (plC qb.2 [qa.1, qb.1])] := Qag Qai (Qag Qkr Qa5)
  have cl3 : Cl0 [.cells (Qaa n), .cells (plC qb.2 [qa.1, qb.1]), .cells (plC qa.2 [qa.1])] := Qag Qai (Qag Qkr (Qag Qkr Qa5))
  have kx1 : E cx 8 [.sl [vSl (vCx k) a, vSl (vCx k) b] .no, .agg (Qaa n)] [.cells (Qaa n)] = some (.tup [.agg (plC qb.2 [qa.1, qb.1]), .nili], [.cells (Qaa n)]) := kx _ w1
  have ky1 : E cx 8 [.sl [vSl (vCx k) a] .no, .agg (Qaa n)] [.cells (Qaa n), .cells (plC qb.2 [qa.1, qb.1])] = some (.tup [.agg (plC qa.2 [qa.1]), .nili], [.cells (Qaa n), .cells (plC qb.2 [qa.1, qb.1])]) := ky _ (Qc6 cl2)
  have w3 := Qc6 cl3
  have ta' : tot k a ≤ 1000000 := by omega
  have tb' : tot k b ≤ 1000000 := by omega
  have kca := Qku k 41 a ba ta' _ w3
  have kcb := Qku k 41 b bb tb' _ w3
  have na1 := Qso k a
  have na2 := Qsp k a
  have nb1 := Qso k b
  have nb2 := Qsp k b
  have kS := Wiy qa.1 (by rw [m3]; have := (g3 a (by show a ∈ [a, b]; simp)).2.1; omega) _ w3
  have y1 : ∀ p L, (plC p L).length = 5 := fun p L => rfl
  have xx1 : (plC qb.2 [qa.1, qb.1]).length = 5 := rfl
  have xx2 : Qal (plC qb.2 [qa.1, qb.1]) = true := Wfd
  have xx3 : (plC qb.2 [qa.1, qb.1]).map V.ng = plC qb.2 [qa.1, qb.1] := Was
  have yy1 : (plC qa.2 [qa.1]).length = 5 := rfl
  have yy2 : Qal (plC qa.2 [qa.1]) = true := Wfd
  have yy3 : (plC qa.2 [qa.1]).map V.ng = plC qa.2 [qa.1] := Was
  have r1 : eL [.cells (Qaa n), .cells (plC qb.2 [qa.1, qb.1]), .cells (plC qa.2 [qa.1])] false 1 (.ptr 1 1) = some (vSl vRw (slo qb.2.rows)) := by
   show Option.map V.ng (some (vSl vRw (slo qb.2.rows))) = _
   rw [Qak, Qah]
  have r2 : Qan (vSl vRw (slo qb.2.rows)) = some (.int .i64 ((nrN k a : Int) + nrN k b)) := by
   rw [Qae, Qh0, show ((qb.2.rows.length : Nat) : Int) = (nrN k a : Int) + nrN k b by omega]
  have r3 : eL [.cells (Qaa n), .cells (plC qb.2 [qa.1, qb.1]), .cells (plC qa.2 [qa.1])] false 1 (.ptr 1 4) = some (.int .i64 ((nsN k a : Int) + nsN k b)) := by
   show some (V.int .i64 qb.2.steps) = _
   rw [show qb.2.steps = (nsN k a : Int) + nsN k b by omega]
  have r4 : eL [.cells (Qaa n), .cells (plC qb.2 [qa.1, qb.1]), .cells (plC qa.2 [qa.1])] false 1 (.ptr 2 1) = some (vSl vRw (slo qa.2.rows)) := by
   show Option.map V.ng (some (vSl vRw (slo qa.2.rows))) = _
   rw [Qak, Qah]
  have r5 : Qan (vSl vRw (slo qa.2.rows)) = some (.int .i64 (nrN k a)) := by
   rw [Qae, Qh0, show ((qa.2.rows.length : Nat) : Int) = (nrN k a : Int) by omega]
  have r6 : eL [.cells (Qaa n), .cells (plC qb.2 [qa.1, qb.1]), .cells (plC qa.2 [qa.1])] false 1 (.ptr 2 4) = some (.int .i64 (nsN k a)) := by
   show some (V.int .i64 qa.2.steps) = _
   rw [show qa.2.steps = (nsN k a : Int) by omega]
  have r7 : eL [.cells (Qaa n), .cells (plC qb.2 [qa.1, qb.1]), .cells (plC qa.2 [qa.1])] false 1 (.ptr 1 3) = some (.sl [vIs qa.1, vIs qb.1] .no) := rfl
  have r8 : eL [.cells (Qaa n), .cells (plC qb.2 [qa.1, qb.1]), .cells (plC qa.2 [qa.1])] false 1 (.ptr 2 3) = some (.sl [vIs qa.1] .no) := rfl
  have i0 : eI 1 (.int .i64 0) (.sl [vIs qa.1, vIs qb.1] .no) = some (.eptr [vIs qa.1] 0) := by
   have h := Qav (f := vIs) (s := .row [qa.1, qb.1]) (sz := 1) (k := .i64) (i := 0) (p := []) (r := [qb.1]) (x := qa.1) rfl rfl (by rw [Qbw]; rfl)
   rw [Qbw] at h
   exact h
  have i1 : eI 1 (.int .i64 1) (.sl [vIs qa.1, vIs qb.1] .no) = some (.eptr [vIs qb.1] 0) := by
   have h := Qav (f := vIs) (s := .row [qa.1, qb.1]) (sz := 1) (k := .i64) (i := 1) (p := [qa.1]) (r := []) (x := qb.1) rfl rfl (by rw [Qbw]; rfl)
   rw [Qbw] at h
   exact h
  have i2 : eI 1 (.int .i64 0) (.sl [vIs qa.1] .no) = some (.eptr [vIs qa.1] 0) := by
   have h := Qav (f := vIs) (s := .row [qa.1]) (sz := 1) (k := .i64) (i := 0) (p := []) (r := []) (x := qa.1) rfl rfl (by rw [Qbw]; rfl)
   rw [Qbw] at h
   exact h
  have j0 : ∀ σ l, eL σ false 1 (.eptr [vIs l] 0) = some (vIs l) := fun σ l => by
   show Option.map V.ng (some (vIs l)) = _
   rw [Qak, Qah]
  have j1 : Qan (vIs qb.1) = some (.int .i64 b.l.length) := by
   rw [Qae, Qh0, m6]
  have nI : ∀ l, (vIs l).ng = vIs l := fun l => Qah
  have nR : ∀ l, (vSl vRw (slo l)).ng = vSl vRw (slo l) := fun l => Qah
  clear kg g3 kx ky hx hy cl2 cl3 m1 m2 m3 m4 m5 m6 e1 e2
  generalize plC qb.2 [qa.1, qb.1] = PX at *
  generalize plC qa.2 [qa.1] = PY at *
  generalize hIa : vIs qa.1 = IA at *
  generalize hIb : vIs qb.1 = IB at *
  have nIA : IA.ng = IA := by rw [← hIa]; exact Qah
  have nIB : IB.ng = IB := by rw [← hIb]; exact Qah
  have jA : ∀ σ, eL σ false 1 (.eptr [IA] 0) = some IA := fun σ => by rw [← hIa]; exact j0 σ _
  have jB : ∀ σ, eL σ false 1 (.eptr [IB] 0) = some IB := fun σ => by rw [← hIb]; exact j0 σ _
  clear hIa hIb
  generalize hRb : vSl vRw (slo qb.2.rows) = RB at *
  generalize hRa : vSl vRw (slo qa.2.rows) = RA at *
  have nRA : RA.ng = RA := by rw [← hRa]; exact Qah
  have nRB : RB.ng = RB := by rw [← hRb]; exact Qah
  clear hRa hRb
  generalize nrN k a = fra at *
  generalize nrN k b = frb at *
  generalize nsN k a = fsa at *
  generalize nsN k b = fsb at *
  generalize vSl (vCx k) a = A at *
  generalize vSl (vCx k) b = B at *
  generalize Qaa n = N at *
  simp +contextual -implicitDefEqProofs (disch := first | assumption | omega | (simp -implicitDefEqProofs only [go_sem]; try omega)) only [↓reduceIte, go_sem, iP, iN, w64, w8, w32, s_Z1n, h1, l0, ks, bf2, bf1, kg1, nA, nB, ka, kb, kx1, ky1, kca, kcb, r1, r2, r3, r4, r5, r6, r7, r8, i0, i1, i2, jA, jB, j1, nIA, nIB, nRA, nRB, kS, lA, lB]
end Go.Proofs.YtapnplljnpconaaGreatDoor
set_option maxRecDepth 100000
namespace Go.Proofs.YtapnplljnpconaaGreatDoor
open Go Go.Ev Go.ChangeShapes Go.WideShapes Go.RowKit
theorem Qt2 {H : Type} {enc : TypeId × Value → H} {w : World} {r0 r1 : Reach} {b0 b1 : Nat} {v0 v1 : Value} {d0 d1 : DataW H} {p0 p1 : List MemPlace} (hv0 : Value.okWide Tryz.prog w r0 b0 51 v0) (h0 : DataW.Trod enc Tryz.prog w 0 (fun _ => true) true 51 v0 d0 p0) (hz0 : Hv Tryz.prog 51 d0)
  (hv1 : Value.okWide Tryz.prog w r1 b1 51 v1) (h1 : DataW.Trod enc Tryz.prog w 0 (fun _ => true) true 51 v1 d1 p1) (hz1 : Hv Tryz.prog 51 d1) :
  ∃ (n : Nat) (x y : Sl (Cx n)), SlOk (CxOk n) x ∧ SlOk (CxOk n) y ∧ Rep (memOf w) noPlc v0 (vSl (vCx n) x) ∧ Rep (memOf w) noPlc v1 (vSl (vCx n) y) := by
 obtain ⟨a, len, cap, rfl⟩ := okWide_slice Tryz.underlying51 hv0
 obtain ⟨a', len', cap', rfl⟩ := okWide_slice Tryz.underlying51 hv1
 obtain ⟨fuel, hf⟩ := h0
 obtain ⟨fuel', hf'⟩ := h1
 obtain ⟨x, hx, hq⟩ := Qsa (max fuel fuel') fuel (by omega) _ _ hf hz0
 obtain ⟨y, hy, hq'⟩ := Qsa (max fuel fuel') fuel' (by omega) _ _ hf' hz1
 exact ⟨max fuel fuel', x, y, hq, hq', hx.2 0 _ _ rfl rfl, hy.2 0 _ _ rfl rfl⟩
end Go.Proofs.YtapnplljnpconaaGreatDoor
set_option maxRecDepth 100000
namespace Go.Proofs.YtapnplljnpconaaGreatDoor
open Go Go.Ev Go.ChangeShapes Go.WideShapes Go.RowKit
theorem Wcg : ∀ (n : Nat) (cs : List Value) (g : Nat → List Value), cs.length = 2 * n → (∀ i, i < n → (cs.drop (i * 2)).take 2 = g i) → cs = (List.range n).flatMap g
 | 0, cs, g, h, _ => by rw [List.length_eq_zero_iff.1 (by omega : cs.length = 0)]; rfl
 | n + 1, cs, g, h, hg => by
  have h0 := hg 0 (by omega)
  rw [Nat.zero_mul, List.drop_zero] at h0
  have ih := Wcg n (cs.drop 2) (fun i => g (i + 1)) (by rw [List.length_drop]; omega) (fun i hi => by
   rw [List.drop_drop]
   have := hg (i + 1) (by omega)
   rw [show (i + 1) * 2 = 2 + i * 2 by omega] at this
   exact this)
  rw [List.range_succ_eq_map, List.flatMap_cons, List.flatMap_map, ← h0]
  show cs = cs.take 2 ++ (List.range n).flatMap fun i => g (i + 1)
  rw [← ih, List.take_append_drop]
theorem Qkw {H : Type} {enc : TypeId × Value → H} {P : Program} {w : World} {base : Nat} {sp : Nat → Bool} {held : Bool} {fuel : Nat} {t e : TypeId} {n : Nat} {cs : List Value} {zs : List (List UInt8)} {p : List MemPlace}
  (ht : P.underlying t = some (.array n e)) (he : P.underlying e = some .string) (hce : P.cellsOf e = 1) (hct : P.cellsOf t = n)
  (h : DataW.trod enc P w base sp held fuel t cs = some (.agg (zs.map fun z => .lit (.string z)), p)) : cs = zs.map fun z => Value.string ⟨z.toArray⟩ := by
 cases fuel with
 | zero => simp [DataW.trod] at h
 | succ fuel =>
  simp only [DataW.trod, ht, hce, hct, Nat.mul_one] at h
  split at h
  ·rename_i hl
   obtain ⟨xs, hm, hx⟩ := Option.map_eq_some_iff.1 h
   have hxs : xs.map (·.1) = zs.map fun z => (DataW.lit (.string z) : DataW H) := by
    have := congrArg Prod.fst hx
    simpa using this
   have hxl : xs.length = n := by simpa using Lib.mapM_length hm
   have hzl : zs.length = n := by
    have := congrArg List.length hxs
    simp at this
    omega
   apply List.ext_getElem?
   intro i
   by_cases hi : i < n
   ·obtain ⟨b, hb, hf⟩ := Lib.mapM_at hm i i (by simp [hi])
    obtain ⟨c, hc⟩ : ∃ c, cs[i]? = some c := ⟨cs[i]'(by omega), List.getElem?_eq_getElem (by omega)⟩
    have hone : (cs.drop i).take 1 = [c] := by
     rw [List.drop_eq_getElem_cons (by omega)]
     have := (List.getElem?_eq_some_iff.1 hc).2
     rw [this]; rfl
    rw [hone] at hf
    have h2 : (xs.map (·.1))[i]? = some b.1 := by simp [hb]
    rw [hxs] at h2
    simp only [List.getElem?_map, Option.map_eq_some_iff] at h2
    obtain ⟨z, hz, hz2⟩ := h2
    have hcz : c = .string ⟨z.toArray⟩ := by
     cases fuel with
     | zero => simp [DataW.trod] at hf
     | succ fuel =>
      cases c with
      | string s =>
       simp only [DataW.trod, he] at hf
       split at hf
       ·cases hf
        cases hz2
        rfl
       ·cases hf
      | _ => simp [DataW.trod, he] at hf
    rw [hc, List.getElem?_map, hz, hcz]; rfl
   ·rw [List.getElem?_eq_none (by omega), List.getElem?_eq_none (by simp; omega)]
  ·cases h
theorem Qez {P : Program} {W : World} {n : String} {g : Nat} {us : List Value} {Vs : List V} (hg : P.globalNamed n = some g) (hv : W.var? P n = some us.toArray) (hl : Vs.length = us.length) (hr : ∀ (i : Nat) u c, us[i]? = some u → Vs[i]? = some c → Rep (memOf W) noPlc u c) :
  Rep (memOf W) noPlc (.pointer (some ⟨g, 0, none⟩)) (.eptr Vs 0) := by
 refine Rep.eptr (M := memOf W) (ι := noPlc) Vs 0 g 0 us (by omega) (fun i u hu => ?_) hr
 have h := World.var?_cell hg hv i
 rw [Nat.zero_add]
 exact h.trans (by rw [List.getElem?_toArray]; exact hu)
end Go.Proofs.YtapnplljnpconaaGreatDoor
namespace Go.Proofs.YtapnplljnpconaaGreatDoor
open Go.ChangeShapes Go.WideShapes Go.RowKit Go.Joins
open Go.ChangeMaps (open_string)
open Go Go.Ev
set_option maxRecDepth 100000
def accI : List Int := accN.flatMap fun p => [(p.1 : Int), (p.2 : Int)]
theorem Qsq : Tryz.prog.globalNamed "wattle/sel.states" = some 3 := by kernel_rfl
theorem Qly : Tryz.prog.globalNamed "wattle/sel.elements" = some 4 := by kernel_rfl
theorem Qyc : Tryz.prog.globalNamed "unicode/utf8.first" = some 1 := by kernel_rfl
theorem Wjb : Tryz.prog.globalNamed "unicode/utf8.acceptRanges" = some 2 := by kernel_rfl
theorem Wfk {W : World} (h : laidMetH Tryz.prog Rows.flatCountsRow.laid W) : ∀ g, Ev.Rep (Ev.memOf W) Ev.noPlc (.pointer (some ⟨g, 0, none⟩)) (gTab g) := by
 have hm : laidMet Tryz.prog [("unicode/utf8.acceptRanges", Rows.laid_unicode_utf8_acceptRanges), ("wattle/sel.states", Rows.laid_wattle_sel_states), ("wattle/sel.elements", Rows.laid_wattle_sel_elements), ("unicode/utf8.first", Rows.laid_unicode_utf8_first)] W := by rw [MakeChecks.laidMetH_plain _ _ _ (by kernel_rfl)] at h; exact h
 intro g
 unfold gTab
 split
 ·rename_i e
  subst e
  obtain ⟨g, t, cs, fuel, p, e1, e2, e3, e4⟩ := Lib.laidMet.reads hm (n := "wattle/sel.states") (d := Rows.laid_wattle_sel_states) (by simp)
  obtain rfl := Option.some.inj (e1.symm.trans Qsq)
  obtain rfl := Option.some.inj (e2.symm.trans (show _ = some 218 by kernel_rfl))
  have e5 : cs.toList = Qb7.map fun z => Value.string ⟨z.toArray⟩ := Qkw Tryz.underlying218 Tryz.underlying9 (by kernel_rfl) (by kernel_rfl) e4
  refine Qez (us := Qb7.map fun z => Value.string ⟨z.toArray⟩) Qsq (by rw [e3, ← e5]) (by simp [Qqe]) (fun i u c hu hc => ?_)
  unfold Qqe at hc
  rw [List.getElem?_map] at hu hc
  cases hz : Qb7[i]? with
  | none => rw [hz] at hu; cases hu
  | some z =>
   rw [hz] at hu hc
   cases hu; cases hc
   exact .str _ _ rfl
 split
 ·rename_i e
  subst e
  obtain ⟨g, t, cs, fuel, p, e1, e2, e3, e4⟩ := Lib.laidMet.reads hm (n := "wattle/sel.elements") (d := Rows.laid_wattle_sel_elements) (by simp)
  obtain rfl := Option.some.inj (e1.symm.trans Qly)
  obtain rfl := Option.some.inj (e2.symm.trans (show _ = some 219 by kernel_rfl))
  have e5 : cs.toList = Qbg.map fun z => Value.string ⟨z.toArray⟩ := Qkw Tryz.underlying219 Tryz.underlying9 (by kernel_rfl) (by kernel_rfl) e4
  refine Qez (us := Qbg.map fun z => Value.string ⟨z.toArray⟩) Qly (by rw [e3, ← e5]) (by simp [Qka]) (fun i u c hu hc => ?_)
  unfold Qka at hc
  rw [List.getElem?_map] at hu hc
  cases hz : Qbg[i]? with
  | none => rw [hz] at hu; cases hu
  | some z =>
   rw [hz] at hu hc
   cases hu; cases hc
   exact .str _ _ rfl
 split
 ·rename_i e
  subst e
  obtain ⟨g, t, cs, fuel, p, e1, e2, e3, e4⟩ := Lib.laidMet.reads hm (n := "unicode/utf8.first") (d := Rows.laid_unicode_utf8_first) (by simp)
  obtain rfl := Option.some.inj (e1.symm.trans Qyc)
  obtain rfl := Option.some.inj (e2.symm.trans (show _ = some 193 by kernel_rfl))
  have hd : Rows.laid_unicode_utf8_first = Lib.tabData .u8 (Qe5.map fun (n : Nat) => (n : Int)) := by kernel_rfl
  rw [hd] at e4
  have e5 := Lib.cells_of_tab Tryz.underlying193 Tryz.underlying5 (by kernel_rfl) (by kernel_rfl) e4
  refine Qez (us := (Qe5.map fun (n : Nat) => (n : Int)).map fun z => Value.int .u8 z) Qyc (by rw [e3, ← e5]) (by simp [Qhs]) (fun i u c hu hc => ?_)
  unfold Qhs at hc
  rw [List.getElem?_map, List.getElem?_map] at hu
  rw [List.getElem?_map] at hc
  cases hz : Qe5[i]? with
  | none => rw [hz] at hu; cases hu
  | some z =>
   rw [hz] at hu hc
   cases hu; cases hc
   exact .int _ _
 split
 ·rename_i e
  subst e
  obtain ⟨g, t, cs, fuel, p, e1, e2, e3, e4⟩ := Lib.laidMet.reads hm (n := "unicode/utf8.acceptRanges") (d := Rows.laid_unicode_utf8_acceptRanges) (by simp)
  obtain rfl := Option.some.inj (e1.symm.trans Wjb)
  obtain rfl := Option.some.inj (e2.symm.trans (show _ = some 196 by kernel_rfl))
  have hd : (Rows.laid_unicode_utf8_acceptRanges : DataW Unit) = .agg (accN.map fun p => .agg ([(p.1 : Int), (p.2 : Int)].map fun z => .lit (.int .u8 z))) := by kernel_rfl
  rw [hd] at e4
  have hlen : cs.toList.length = 2 * 16 := by
   cases fuel with
   | zero => simp [DataW.trod] at e4
   | succ fuel =>
    simp only [DataW.trod, Tryz.underlying196] at e4
    split at e4
    ·rename_i hl; rw [hl]; kernel_rfl
    ·cases e4
  have e5 := Wcg 16 cs.toList (fun i => [Value.int .u8 ((accN.getD i (0, 0)).1 : Int), .int .u8 ((accN.getD i (0, 0)).2 : Int)]) hlen (fun i hi => by
   obtain ⟨fuel', d, q, h1, h2⟩ := Lib.array_elem Tryz.underlying196 e4 i hi
   have hc2 : Tryz.prog.cellsOf 195 = 2 := by kernel_rfl
   rw [hc2] at h2
   have hi' : i < accN.length := hi
   rw [List.getElem?_map, List.getElem?_eq_getElem hi'] at h1
   simp only [Option.map_some, Option.some.injEq] at h1
   have hgd : accN.getD i (0, 0) = accN[i] := by rw [List.getD_eq_getElem?_getD, List.getElem?_eq_getElem hi']; rfl
   rw [← h1] at h2
   rw [hgd]
   exact Lib.ints_of_struct Tryz.underlying195 (fun j f hf => by
    match j, hf with
    | 0, hf => cases hf; exact ⟨Tryz.underlying5, rfl, by kernel_rfl⟩
    | 1, hf => cases hf; exact ⟨Tryz.underlying5, rfl, by kernel_rfl⟩
    | j + 2, hf => exact absurd hf (by simp)) (by kernel_rfl) h2)
  have e6 : (List.range 16).flatMap (fun i => [Value.int .u8 ((accN.getD i (0, 0)).1 : Int), .int .u8 ((accN.getD i (0, 0)).2 : Int)]) = accI.map (Value.int .u8) := by kernel_rfl
  refine Qez (us := accI.map (Value.int .u8)) Wjb (by rw [e3, ← e6, ← e5]) (by kernel_rfl) (fun i u c hu hc => ?_)
  have e7 : accV = accI.map (V.int .u8) := by kernel_rfl
  rw [e7] at hc
  rw [List.getElem?_map] at hu hc
  cases hz : accI[i]? with
  | none => rw [hz] at hu; cases hu
  | some z =>
   rw [hz] at hu hc
   cases hu; cases hc
   exact .int _ _
 ·exact .any _
set_option maxRecDepth 100000 in
theorem Qip (os : Os) (started : os.Started) (H : Type) (enc : TypeId × Value → H) :
  ReturnsInHanded {} Tryz.checked os 4 .any (fun w args => (Rows.flatCountsSpec.pre enc Tryz.prog Tryz.f4 [] false w args ∧ laidMetH Tryz.prog Rows.flatCountsRow.laid w) ∧ sizedMet enc Tryz.prog Tryz.f4 (OpenSpec.ofChange Rows.flatCountsSpec) false w args)
   (Rows.flatCountsSpec.post enc Tryz.prog Tryz.f4 false true false false) := by
 refine returnsInHanded_of_change_and (C := Tryz.checked) (X := fun w _ => laidMetH Tryz.prog Rows.flatCountsRow.laid w) (fun _ _ _ hh h => h.of_heap hh) Tryz.ownKnob started (by kernel_rfl) Tryz.func4
  (ChangeSpec.witness_shaped (enc := enc) (C := Tryz.checked) (os := os) (X := fun w _ => laidMetH Tryz.prog Rows.flatCountsRow.laid w) false (World.laidAll Tryz.prog os Rows.flatCountsRow.laid) #[.slice none 0 0, .slice none 0 0, .agg #[.bool false, .string ⟨#[]⟩, .slice none 0 0, .slice none 0 0]] 8 (World.laidAll_os _ _ _)
   (World.shaped_of_ZipB (by kernel_rfl) (by kernel_rfl)) (by kernel_rfl) (by kernel_rfl) (by kernel_rfl)
   (by rw [MakeChecks.laidMetH_plain _ _ _ (by kernel_rfl)]; exact laidMet_laidAll _ (by kernel_rfl) (by kernel_rfl))) ?_
 intro W base args ds gs before hval0 hW _ hS hL _
 have hval : ∀ (j : Nat) t v, Tryz.f4.params[j]? = some t → args[j]? = some v → Value.okWide Tryz.prog W .any base t v := hval0
 have hW' := hW
 obtain ⟨p, q, hA0, hV0, rfl, hfz, hnd⟩ := hW
 have hA : DataW.TrodAll enc Tryz.prog W 0 (fun _ => true) true Tryz.f4.params.toList args.toList ds p := hA0
 have hV : DataW.TrodVars enc Tryz.prog W (fun _ => true) [] gs q := hV0
 rw [Tryz.params4] at hA hval hS
 obtain ⟨v0, v1, v2, d0, d1, d2, p0, p1, p2, rfl, rfl, rfl, h0, h1, h2⟩ := trodAll_three hA
 obtain ⟨rfl, rfl⟩ := trodVars_none hV
 have z0 : Hv Tryz.prog 51 d0 := fun m hm => by
  have := List.all_eq_true.1 hS m (DataW.weights_mem_each (j := 0) (t := 51) (d := d0) rfl rfl m hm)
  simpa using this
 have z1 : Hv Tryz.prog 51 d1 := fun m hm => by
  have := List.all_eq_true.1 hS m (DataW.weights_mem_each (j := 1) (t := 51) (d := d1) rfl rfl m hm)
  simpa using this
 obtain ⟨k0, x0, x1, q0, q1, hb0, hb1⟩ := Qt2 (hval 0 51 v0 rfl rfl) h0 z0 (hval 1 51 v1 rfl rfl) h1 z1
 have z2 : Hv Tryz.prog 25 d2 := fun m hm => by
  have := List.all_eq_true.1 hS m (DataW.weights_mem_each (j := 2) (t := 25) (d := d2) rfl rfl m hm)
  simpa using this
 obtain ⟨x2, q2, hb2⟩ := Qtu (hval 2 25 v2 rfl rfl) h2 z2
 clear hA0 hval0
 obtain ⟨nf, hev⟩ := Ev.ev_of_E Who (Qpa x2 x0 x1 q0 q1)
 refine (Ev.calls_of_ev (P := Tryz.prog) (by kernel_rfl) cx Wee Wjm (F := c_Z1n) rfl W (args := [vSl (vCx k0) x0, vSl (vCx k0) x1, vNms x2]) (Ev.Reps.cons (hb0) (Ev.Reps.cons (hb1) (Ev.Reps.cons (hb2) (Ev.Reps.nil)))) (by intro x hx; simp only [List.mem_cons, List.not_mem_nil, or_false] at hx; (repeat' (rcases hx with rfl | hx)); all_goals first | rfl | exact Qah | (subst hx; first | rfl | exact Qah)) ⟨Wfk hL, fun p hp => by cases hp⟩ hev).mono fun e W' ⟨he, hb⟩ => ?_
 subst he
 exact ⟨_, rfl, Wae (tb := 4) Tryz.laidOut (by rw [Tryz.params4]; intro t ht; simp only [List.mem_cons, List.not_mem_nil, or_false] at ht; (repeat' (rcases ht with rfl | ht)); all_goals first | exact ⟨by kernel_rfl, of_decide_eq_true (by kernel_rfl)⟩ | (subst ht; exact ⟨by kernel_rfl, of_decide_eq_true (by kernel_rfl)⟩)) hW' rfl rfl Tryz.underlying4 rfl hb⟩
theorem Qi7 : Rows.FlatCountsSaid :=
 OpenClaim.holds_of_wide 4 Tryz.f4 rfl rfl rfl rfl rfl rfl rfl ⟨rfl, rfl, rfl, rfl, rfl⟩ rfl rfl rfl rfl rfl (by kernel_rfl) Tryz.func4 (by kernel_rfl)
  (of_decide_eq_true (by kernel_rfl)) (by unfold Func.isWrapper; rw [if_neg (of_decide_eq_false (by kernel_rfl))]; exact ⟨rfl, rfl⟩)
  (fun os started H enc _ => Qip os started H enc)
theorem flatCounts_card : Rows.FlatCountsCardSaid :=
 Claim7.holds_tied_plain_at .later [] _ _ _ _
  Qi7 (fun _ h => by cases h) (by kernel_rfl) (fun _ h => by cases h) flatCounts_row_tie rfl ⟨rfl, rfl⟩ (by kernel_rfl) rfl
  (fun f fn hf hfn => by
   obtain rfl : f = 4 := Option.some.inj ((show Tryz.prog.funcNamed "wattle/wattlelaw14.FlatCounts" = some 4 by kernel_rfl).symm.trans hf) |>.symm
   obtain rfl : fn = Tryz.f4 := (Option.some.inj (Tryz.func4.symm.trans hfn)).symm
   exact ⟨by kernel_rfl, fun j t ht => by
    rw [Tryz.params4] at ht
    have hm := Array.mem_of_getElem? ht
    simp only [List.mem_toArray, List.mem_cons, List.not_mem_nil, or_false] at hm
    (repeat' (rcases hm with rfl | hm))
    all_goals first | (subst hm; show Tryz.prog.wantsStandIn _ = false; kernel_rfl) | (show Tryz.prog.wantsStandIn _ = false; kernel_rfl)⟩)
  (by kernel_rfl)
#print axioms flatCounts_card
end Go.Proofs.YtapnplljnpconaaGreatDoor
