/- For any bytes AnbReads answers true, and its argument reads as it did. Condition: the row's listed variables (tables of Go's library, and errors.errorType) read as the program's text lays them; the card ties that. -/
import Derived.Test.YtkgkmlhljeidhaaGreatDoorRde
import Derived.ProofKit
import Derived.Lib.SmallJoins
import Derived.ChangeSlices
import Derived.ChangeVars
import Derived.JoinedOf
import Derived.LaidLaws
import Derived.LaidHandle
import Derived.LaidSub
import Derived.Stop.Joined
import Derived.Lay
import Derived.SevenTiedAt
import Derived.LaidOnce
import Derived.Test.YtkgkmlhljeidhaaGreatDoorTie
import Derived.Test.YtkgkmlhljeidhaaGreatDoorCards
set_option linter.unusedSimpArgs false
set_option linter.unusedVariables false
set_option linter.unusedSectionVars false
namespace Go.Proofs.YtkgkmlhljeidhaaGreatDoor
open Go.Ev
set_option maxRecDepth 100000
set_option maxHeartbeats 8000000
def tailS (L : List Tok) (a r : List UInt8) (to : Int) : Option (List UInt8 × List UInt8 × Int) :=
  if r = [] then
    (if numT L (skS L to) true = true then some (a, (tk L (skS L to)).n, skS L to + 1)
    else if (tk L (skS L to)).k = 9 ∧ ((tk L (skS L to)).s = [43] ∨ (tk L (skS L to)).s = [45]) ∧ numT L (skS L (skS L to + 1)) false = true then
      some (a, (tk L (skS L to)).s ++ (tk L (skS L (skS L to + 1))).n, skS L (skS L to + 1) + 1)
    else some (a, [48], to))
  else if r = [45] then (if numT L (skS L to) false = true then some (a, 45 :: (tk L (skS L to)).n, skS L to + 1) else none)
  else if ((r.getD 0 0).toNat : Int) = 45 ∧ digsB r.tail = true then some (a, r, to) else none
def rowS (L : List Tok) : Option (List UInt8 × List UInt8 × Int) :=
  if (L.length : Int) ≤ skS L 0 then none
  else if (tk L (skS L 0)).k = 1 ∧ lowS (tk L (skS L 0)).s = [101, 118, 101, 110] then some ([50], [48], skS L 0 + 1)
  else if (tk L (skS L 0)).k = 1 ∧ lowS (tk L (skS L 0)).s = [111, 100, 100] then some ([50], [49], skS L 0 + 1)
  else if (tk L (skS L 0)).k = 10 ∧ (tk L (skS L 0)).w = true then some ([48], (tk L (skS L 0)).n, skS L 0 + 1)
  else match headS L (skS L 0) with
    | none => none
    | some (a, r, to) => tailS L a r to
def rowT : Option (List UInt8 × List UInt8 × Int) → V
  | none => .tup [.agg [.str [], .str [], .int .i64 0], .bool false]
  | some (a, b, n) => .tup [.agg [.str a, .str b, .int .i64 n], .bool true]
theorem numT_lt {L : List Tok} {i : Int} {s : Bool} (h : numT L i s = true) : i < L.length := by
  unfold numT at h
  simp only [Bool.and_eq_true, decide_eq_true_eq] at h
  exact tk_k (by omega)
section
variable {L : List Tok} (hL : Toks L)
include hL
theorem d_Find (σ : Objs) (hσ : Wf σ) : E cx 36 [.sl (toks L) .no] σ = some (rowT (rowS L), σ) := by
  refine E_any cx_cl ?_ (by rw [rbs_cons, toks_rb]; rfl) (by cases rowS L <;> rfl) σ hσ
  have hl := hL.1
  have k1 := skS_le L 0
  have g1 := fun σ hσ => d_skip hL 0 (by omega) σ hσ
  unfold rowS
  rw [e_Z21]
  generalize hi : skS L 0 = i at k1 g1 ⊢
  by_cases c0 : (L.length : Int) ≤ i
  · simp +contextual -implicitDefEqProofs (disch := first | assumption | omega | (simp -implicitDefEqProofs only [go_sem]; try omega)) only [↓reduceIte, go_sem, iP, iN, w64, w8, w32, s_Z21, g1, c0, rowT]
  have h1 := hL.get i
  have hl1 := lowS_len (tk L i).s
  have g2 := fun σ hσ => d_Lower (tk L i).s (by omega) σ hσ
  have g3 := fun σ hσ => d_heads hL i (by omega) σ hσ
  generalize hg : tk L i = t at h1 g2 hl1 ⊢
  by_cases c1 : t.k = 1 ∧ lowS t.s = [101, 118, 101, 110]
  · obtain ⟨c1a, c1b⟩ := c1
    simp +contextual -implicitDefEqProofs (disch := first | assumption | omega | (simp -implicitDefEqProofs only [go_sem]; try omega)) only [↓reduceIte, go_sem, iP, iN, w64, w8, w32, s_Z21, g1, c0, hg, g2, c1a, c1b, rowT, true_and]
  by_cases c2 : t.k = 1 ∧ lowS t.s = [111, 100, 100]
  · obtain ⟨c2a, c2b⟩ := c2
    have hne : (([111, 100, 100] : List UInt8) = [101, 118, 101, 110]) = False := by decide
    simp +contextual -implicitDefEqProofs (disch := first | assumption | omega | (simp -implicitDefEqProofs only [go_sem]; try omega)) only [↓reduceIte, go_sem, iP, iN, w64, w8, w32, s_Z21, g1, c0, hg, g2, c2a, c2b, rowT, true_and, hne]
  by_cases c3 : t.k = 10 ∧ t.w = true
  · obtain ⟨c3a, c3b⟩ := c3
    simp +contextual -implicitDefEqProofs (disch := first | assumption | omega | (simp -implicitDefEqProofs only [go_sem]; try omega)) only [↓reduceIte, go_sem, iP, iN, w64, w8, w32, s_Z21, g1, c0, hg, g2, c3a, c3b, rowT, true_and, false_and]
  rw [if_neg c0, if_neg c1, if_neg c2, if_neg c3]
  have main : (t.k = 1 ∧ lowS t.s ≠ [101, 118, 101, 110] ∧ lowS t.s ≠ [111, 100, 100]) ∨ (t.k ≠ 1 ∧ t.k = 10 ∧ t.w = false) ∨ (t.k ≠ 1 ∧ t.k ≠ 10 ∧ True) := by
    by_cases d1 : t.k = 1
    · exact .inl ⟨d1, fun h => c1 ⟨d1, h⟩, fun h => c2 ⟨d1, h⟩⟩
    · by_cases d2 : t.k = 10
      · refine .inr (.inl ⟨d1, d2, ?_⟩)
        cases hw : t.w with
        | true => exact absurd ⟨d2, hw⟩ c3
        | false => rfl
      · exact .inr (.inr ⟨d1, d2, trivial⟩)
  cases hh : headS L i with
  | none =>
    rw [hh] at g3
    simp only [hdV] at g3
    rcases main with ⟨c4, c5, c6⟩ | ⟨c4, c5, c6⟩ | ⟨c4, c5, c6⟩
    · simp +contextual -implicitDefEqProofs (disch := first | assumption | omega | (simp -implicitDefEqProofs only [go_sem]; try omega)) only [↓reduceIte, go_sem, iP, iN, w64, w8, w32, s_Z21, g1, c0, hg, g2, g3, c4, c5, c6, rowT]
    · simp +contextual -implicitDefEqProofs (disch := first | assumption | omega | (simp -implicitDefEqProofs only [go_sem]; try omega)) only [↓reduceIte, go_sem, iP, iN, w64, w8, w32, s_Z21, g1, c0, hg, g2, g3, c4, c5, c6, rowT]
    · simp +contextual -implicitDefEqProofs (disch := first | assumption | omega | (simp -implicitDefEqProofs only [go_sem]; try omega)) only [↓reduceIte, go_sem, iP, iN, w64, w8, w32, s_Z21, g1, c0, hg, g2, g3, c4, c5, rowT]
  | some x =>
    obtain ⟨a, r, to⟩ := x
    have k2 := headS_to hL i hh (by omega)
    rw [hh] at g3
    simp only [hdV] at g3
    show _ = some (rowT (tailS L a r to), [])
    have k3 := skS_le L to
    have g4 := fun σ hσ => d_skip hL to (by omega) σ hσ
    unfold tailS
    generalize hk : skS L to = k at k3 g4 ⊢
    have h2 := hL.get k
    have g5 := fun s σ hσ => d_num hL k (by omega) s σ hσ
    have k4 := skS_le L (k + 1)
    have g6 := fun σ hσ => d_skip hL (k + 1) (by omega) σ hσ
    generalize hm : skS L (k + 1) = m at k4 g6 ⊢
    have h3 := hL.get m
    have g7 := fun s σ hσ => d_num hL m (by omega) s σ hσ
    have hlt1 : numT L k true = true → k < L.length := numT_lt
    have hlt2 : numT L k false = true → k < L.length := numT_lt
    have hlt3 : numT L m false = true → m < L.length := numT_lt
    have hlt4 : (tk L k).k = 9 → k < L.length := fun h => tk_k (by omega)
    generalize hgk : tk L k = u at h2 hlt4 ⊢
    generalize hgm : tk L m = v at h3 ⊢
    have p1 : ∀ c : UInt8, eB .add .no (.str [c]) (.str u.n) = some (.str (c :: u.n)) := fun c => bs_add (by unfold strMax; simp only [List.length_cons, List.length_nil]; omega)
    have p2 : ∀ c : UInt8, eB .add .no (.str [c]) (.str v.n) = some (.str (c :: v.n)) := fun c => bs_add (by unfold strMax; simp only [List.length_cons, List.length_nil]; omega)
    by_cases b1 : r = []
    · rw [if_pos b1]
      subst b1
      cases n1 : numT L k true with
      | true =>
        have := hlt1 n1
        rcases main with ⟨c4, c5, c6⟩ | ⟨c4, c5, c6⟩ | ⟨c4, c5, c6⟩
        · simp +contextual -implicitDefEqProofs (disch := first | assumption | omega | (simp -implicitDefEqProofs only [go_sem]; try omega)) only [↓reduceIte, go_sem, iP, iN, w64, w8, w32, s_Z21, g1, c0, hg, g2, g3, g4, p1, p2, hgk, g5, n1, c4, c5, c6, rowT, Bool.false_eq_true, and_true, true_and, and_false, false_and, or_true, true_or, or_false, false_or, List.cons_append, List.nil_append]
        · simp +contextual -implicitDefEqProofs (disch := first | assumption | omega | (simp -implicitDefEqProofs only [go_sem]; try omega)) only [↓reduceIte, go_sem, iP, iN, w64, w8, w32, s_Z21, g1, c0, hg, g2, g3, g4, p1, p2, hgk, g5, n1, c4, c5, c6, rowT, Bool.false_eq_true, and_true, true_and, and_false, false_and, or_true, true_or, or_false, false_or, List.cons_append, List.nil_append]
        · simp +contextual -implicitDefEqProofs (disch := first | assumption | omega | (simp -implicitDefEqProofs only [go_sem]; try omega)) only [↓reduceIte, go_sem, iP, iN, w64, w8, w32, s_Z21, g1, c0, hg, g2, g3, g4, p1, p2, hgk, g5, n1, c4, c5, rowT, Bool.false_eq_true, and_true, true_and, and_false, false_and, or_true, true_or, or_false, false_or, List.cons_append, List.nil_append]
      | false =>
        by_cases b2 : u.k = 9
        · have hkl := hlt4 b2
          by_cases b3 : u.s = [43]
          · cases n2 : numT L m false with
            | true =>
              have := hlt3 n2
              rcases main with ⟨c4, c5, c6⟩ | ⟨c4, c5, c6⟩ | ⟨c4, c5, c6⟩
              · simp +contextual -implicitDefEqProofs (disch := first | assumption | omega | (simp -implicitDefEqProofs only [go_sem]; try omega)) only [↓reduceIte, go_sem, iP, iN, w64, w8, w32, s_Z21, g1, c0, hg, g2, g3, g4, p1, p2, hgk, g5, g6, g7, hgm, n1, n2, b2, b3, hkl, c4, c5, c6, rowT, Bool.false_eq_true, and_true, true_and, and_false, false_and, or_true, true_or, or_false, false_or, List.cons_append, List.nil_append]
              · simp +contextual -implicitDefEqProofs (disch := first | assumption | omega | (simp -implicitDefEqProofs only [go_sem]; try omega)) only [↓reduceIte, go_sem, iP, iN, w64, w8, w32, s_Z21, g1, c0, hg, g2, g3, g4, p1, p2, hgk, g5, g6, g7, hgm, n1, n2, b2, b3, hkl, c4, c5, c6, rowT, Bool.false_eq_true, and_true, true_and, and_false, false_and, or_true, true_or, or_false, false_or, List.cons_append, List.nil_append]
              · simp +contextual -implicitDefEqProofs (disch := first | assumption | omega | (simp -implicitDefEqProofs only [go_sem]; try omega)) only [↓reduceIte, go_sem, iP, iN, w64, w8, w32, s_Z21, g1, c0, hg, g2, g3, g4, p1, p2, hgk, g5, g6, g7, hgm, n1, n2, b2, b3, hkl, c4, c5, rowT, Bool.false_eq_true, and_true, true_and, and_false, false_and, or_true, true_or, or_false, false_or, List.cons_append, List.nil_append]
            | false =>
              rcases main with ⟨c4, c5, c6⟩ | ⟨c4, c5, c6⟩ | ⟨c4, c5, c6⟩
              · simp +contextual -implicitDefEqProofs (disch := first | assumption | omega | (simp -implicitDefEqProofs only [go_sem]; try omega)) only [↓reduceIte, go_sem, iP, iN, w64, w8, w32, s_Z21, g1, c0, hg, g2, g3, g4, p1, p2, hgk, g5, g6, g7, hgm, n1, n2, b2, b3, hkl, c4, c5, c6, rowT, Bool.false_eq_true, and_true, true_and, and_false, false_and, or_true, true_or, or_false, false_or, List.cons_append, List.nil_append]
              · simp +contextual -implicitDefEqProofs (disch := first | assumption | omega | (simp -implicitDefEqProofs only [go_sem]; try omega)) only [↓reduceIte, go_sem, iP, iN, w64, w8, w32, s_Z21, g1, c0, hg, g2, g3, g4, p1, p2, hgk, g5, g6, g7, hgm, n1, n2, b2, b3, hkl, c4, c5, c6, rowT, Bool.false_eq_true, and_true, true_and, and_false, false_and, or_true, true_or, or_false, false_or, List.cons_append, List.nil_append]
              · simp +contextual -implicitDefEqProofs (disch := first | assumption | omega | (simp -implicitDefEqProofs only [go_sem]; try omega)) only [↓reduceIte, go_sem, iP, iN, w64, w8, w32, s_Z21, g1, c0, hg, g2, g3, g4, p1, p2, hgk, g5, g6, g7, hgm, n1, n2, b2, b3, hkl, c4, c5, rowT, Bool.false_eq_true, and_true, true_and, and_false, false_and, or_true, true_or, or_false, false_or, List.cons_append, List.nil_append]
          · by_cases b4 : u.s = [45]
            · have hne : (([45] : List UInt8) = [43]) = False := by decide
              cases n2 : numT L m false with
              | true =>
                have := hlt3 n2
                rcases main with ⟨c4, c5, c6⟩ | ⟨c4, c5, c6⟩ | ⟨c4, c5, c6⟩
                · simp +contextual -implicitDefEqProofs (disch := first | assumption | omega | (simp -implicitDefEqProofs only [go_sem]; try omega)) only [↓reduceIte, go_sem, iP, iN, w64, w8, w32, s_Z21, g1, c0, hg, g2, g3, g4, p1, p2, hgk, g5, g6, g7, hgm, n1, n2, b2, b4, hkl, hne, c4, c5, c6, rowT, Bool.false_eq_true, and_true, true_and, and_false, false_and, or_true, true_or, or_false, false_or, List.cons_append, List.nil_append]
                · simp +contextual -implicitDefEqProofs (disch := first | assumption | omega | (simp -implicitDefEqProofs only [go_sem]; try omega)) only [↓reduceIte, go_sem, iP, iN, w64, w8, w32, s_Z21, g1, c0, hg, g2, g3, g4, p1, p2, hgk, g5, g6, g7, hgm, n1, n2, b2, b4, hkl, hne, c4, c5, c6, rowT, Bool.false_eq_true, and_true, true_and, and_false, false_and, or_true, true_or, or_false, false_or, List.cons_append, List.nil_append]
                · simp +contextual -implicitDefEqProofs (disch := first | assumption | omega | (simp -implicitDefEqProofs only [go_sem]; try omega)) only [↓reduceIte, go_sem, iP, iN, w64, w8, w32, s_Z21, g1, c0, hg, g2, g3, g4, p1, p2, hgk, g5, g6, g7, hgm, n1, n2, b2, b4, hkl, hne, c4, c5, rowT, Bool.false_eq_true, and_true, true_and, and_false, false_and, or_true, true_or, or_false, false_or, List.cons_append, List.nil_append]
              | false =>
                rcases main with ⟨c4, c5, c6⟩ | ⟨c4, c5, c6⟩ | ⟨c4, c5, c6⟩
                · simp +contextual -implicitDefEqProofs (disch := first | assumption | omega | (simp -implicitDefEqProofs only [go_sem]; try omega)) only [↓reduceIte, go_sem, iP, iN, w64, w8, w32, s_Z21, g1, c0, hg, g2, g3, g4, p1, p2, hgk, g5, g6, g7, hgm, n1, n2, b2, b4, hkl, hne, c4, c5, c6, rowT, Bool.false_eq_true, and_true, true_and, and_false, false_and, or_true, true_or, or_false, false_or, List.cons_append, List.nil_append]
                · simp +contextual -implicitDefEqProofs (disch := first | assumption | omega | (simp -implicitDefEqProofs only [go_sem]; try omega)) only [↓reduceIte, go_sem, iP, iN, w64, w8, w32, s_Z21, g1, c0, hg, g2, g3, g4, p1, p2, hgk, g5, g6, g7, hgm, n1, n2, b2, b4, hkl, hne, c4, c5, c6, rowT, Bool.false_eq_true, and_true, true_and, and_false, false_and, or_true, true_or, or_false, false_or, List.cons_append, List.nil_append]
                · simp +contextual -implicitDefEqProofs (disch := first | assumption | omega | (simp -implicitDefEqProofs only [go_sem]; try omega)) only [↓reduceIte, go_sem, iP, iN, w64, w8, w32, s_Z21, g1, c0, hg, g2, g3, g4, p1, p2, hgk, g5, g6, g7, hgm, n1, n2, b2, b4, hkl, hne, c4, c5, rowT, Bool.false_eq_true, and_true, true_and, and_false, false_and, or_true, true_or, or_false, false_or, List.cons_append, List.nil_append]
            · rcases main with ⟨c4, c5, c6⟩ | ⟨c4, c5, c6⟩ | ⟨c4, c5, c6⟩
              · simp +contextual -implicitDefEqProofs (disch := first | assumption | omega | (simp -implicitDefEqProofs only [go_sem]; try omega)) only [↓reduceIte, go_sem, iP, iN, w64, w8, w32, s_Z21, g1, c0, hg, g2, g3, g4, p1, p2, hgk, g5, n1, b2, b3, b4, hkl, c4, c5, c6, rowT, Bool.false_eq_true, and_true, true_and, and_false, false_and, or_true, true_or, or_false, false_or, List.cons_append, List.nil_append]
              · simp +contextual -implicitDefEqProofs (disch := first | assumption | omega | (simp -implicitDefEqProofs only [go_sem]; try omega)) only [↓reduceIte, go_sem, iP, iN, w64, w8, w32, s_Z21, g1, c0, hg, g2, g3, g4, p1, p2, hgk, g5, n1, b2, b3, b4, hkl, c4, c5, c6, rowT, Bool.false_eq_true, and_true, true_and, and_false, false_and, or_true, true_or, or_false, false_or, List.cons_append, List.nil_append]
              · simp +contextual -implicitDefEqProofs (disch := first | assumption | omega | (simp -implicitDefEqProofs only [go_sem]; try omega)) only [↓reduceIte, go_sem, iP, iN, w64, w8, w32, s_Z21, g1, c0, hg, g2, g3, g4, p1, p2, hgk, g5, n1, b2, b3, b4, hkl, c4, c5, rowT, Bool.false_eq_true, and_true, true_and, and_false, false_and, or_true, true_or, or_false, false_or, List.cons_append, List.nil_append]
        · by_cases hkl : k < L.length
          · rcases main with ⟨c4, c5, c6⟩ | ⟨c4, c5, c6⟩ | ⟨c4, c5, c6⟩
            · simp +contextual -implicitDefEqProofs (disch := first | assumption | omega | (simp -implicitDefEqProofs only [go_sem]; try omega)) only [↓reduceIte, go_sem, iP, iN, w64, w8, w32, s_Z21, g1, c0, hg, g2, g3, g4, p1, p2, hgk, g5, n1, b2, hkl, c4, c5, c6, rowT, Bool.false_eq_true, and_true, true_and, and_false, false_and, or_true, true_or, or_false, false_or, List.cons_append, List.nil_append]
            · simp +contextual -implicitDefEqProofs (disch := first | assumption | omega | (simp -implicitDefEqProofs only [go_sem]; try omega)) only [↓reduceIte, go_sem, iP, iN, w64, w8, w32, s_Z21, g1, c0, hg, g2, g3, g4, p1, p2, hgk, g5, n1, b2, hkl, c4, c5, c6, rowT, Bool.false_eq_true, and_true, true_and, and_false, false_and, or_true, true_or, or_false, false_or, List.cons_append, List.nil_append]
            · simp +contextual -implicitDefEqProofs (disch := first | assumption | omega | (simp -implicitDefEqProofs only [go_sem]; try omega)) only [↓reduceIte, go_sem, iP, iN, w64, w8, w32, s_Z21, g1, c0, hg, g2, g3, g4, p1, p2, hgk, g5, n1, b2, hkl, c4, c5, rowT, Bool.false_eq_true, and_true, true_and, and_false, false_and, or_true, true_or, or_false, false_or, List.cons_append, List.nil_append]
          · rcases main with ⟨c4, c5, c6⟩ | ⟨c4, c5, c6⟩ | ⟨c4, c5, c6⟩
            · simp +contextual -implicitDefEqProofs (disch := first | assumption | omega | (simp -implicitDefEqProofs only [go_sem]; try omega)) only [↓reduceIte, go_sem, iP, iN, w64, w8, w32, s_Z21, g1, c0, hg, g2, g3, g4, p1, p2, hgk, g5, n1, b2, hkl, c4, c5, c6, rowT, Bool.false_eq_true, and_true, true_and, and_false, false_and, or_true, true_or, or_false, false_or, List.cons_append, List.nil_append]
            · simp +contextual -implicitDefEqProofs (disch := first | assumption | omega | (simp -implicitDefEqProofs only [go_sem]; try omega)) only [↓reduceIte, go_sem, iP, iN, w64, w8, w32, s_Z21, g1, c0, hg, g2, g3, g4, p1, p2, hgk, g5, n1, b2, hkl, c4, c5, c6, rowT, Bool.false_eq_true, and_true, true_and, and_false, false_and, or_true, true_or, or_false, false_or, List.cons_append, List.nil_append]
            · simp +contextual -implicitDefEqProofs (disch := first | assumption | omega | (simp -implicitDefEqProofs only [go_sem]; try omega)) only [↓reduceIte, go_sem, iP, iN, w64, w8, w32, s_Z21, g1, c0, hg, g2, g3, g4, p1, p2, hgk, g5, n1, b2, hkl, c4, c5, rowT, Bool.false_eq_true, and_true, true_and, and_false, false_and, or_true, true_or, or_false, false_or, List.cons_append, List.nil_append]
    · rw [if_neg b1]
      have hr0 : 0 < r.length := List.length_pos_iff.2 b1
      by_cases b2 : r = [45]
      · subst b2
        cases n3 : numT L k false with
        | true =>
          have := hlt2 n3
          rcases main with ⟨c4, c5, c6⟩ | ⟨c4, c5, c6⟩ | ⟨c4, c5, c6⟩
          · simp +contextual -implicitDefEqProofs (disch := first | assumption | omega | (simp -implicitDefEqProofs only [go_sem]; try omega)) only [↓reduceIte, go_sem, iP, iN, w64, w8, w32, s_Z21, g1, c0, hg, g2, g3, g4, p1, p2, hgk, g5, n3, b1, c4, c5, c6, rowT, Bool.false_eq_true, and_true, true_and, and_false, false_and, or_true, true_or, or_false, false_or, List.cons_append, List.nil_append]
          · simp +contextual -implicitDefEqProofs (disch := first | assumption | omega | (simp -implicitDefEqProofs only [go_sem]; try omega)) only [↓reduceIte, go_sem, iP, iN, w64, w8, w32, s_Z21, g1, c0, hg, g2, g3, g4, p1, p2, hgk, g5, n3, b1, c4, c5, c6, rowT, Bool.false_eq_true, and_true, true_and, and_false, false_and, or_true, true_or, or_false, false_or, List.cons_append, List.nil_append]
          · simp +contextual -implicitDefEqProofs (disch := first | assumption | omega | (simp -implicitDefEqProofs only [go_sem]; try omega)) only [↓reduceIte, go_sem, iP, iN, w64, w8, w32, s_Z21, g1, c0, hg, g2, g3, g4, p1, p2, hgk, g5, n3, b1, c4, c5, rowT, Bool.false_eq_true, and_true, true_and, and_false, false_and, or_true, true_or, or_false, false_or, List.cons_append, List.nil_append]
        | false =>
          rcases main with ⟨c4, c5, c6⟩ | ⟨c4, c5, c6⟩ | ⟨c4, c5, c6⟩
          · simp +contextual -implicitDefEqProofs (disch := first | assumption | omega | (simp -implicitDefEqProofs only [go_sem]; try omega)) only [↓reduceIte, go_sem, iP, iN, w64, w8, w32, s_Z21, g1, c0, hg, g2, g3, g4, p1, p2, hgk, g5, n3, b1, List.length_cons, List.length_nil, c4, c5, c6, rowT, Bool.false_eq_true, and_true, true_and, and_false, false_and, or_true, true_or, or_false, false_or, List.cons_append, List.nil_append]
          · simp +contextual -implicitDefEqProofs (disch := first | assumption | omega | (simp -implicitDefEqProofs only [go_sem]; try omega)) only [↓reduceIte, go_sem, iP, iN, w64, w8, w32, s_Z21, g1, c0, hg, g2, g3, g4, p1, p2, hgk, g5, n3, b1, List.length_cons, List.length_nil, c4, c5, c6, rowT, Bool.false_eq_true, and_true, true_and, and_false, false_and, or_true, true_or, or_false, false_or, List.cons_append, List.nil_append]
          · simp +contextual -implicitDefEqProofs (disch := first | assumption | omega | (simp -implicitDefEqProofs only [go_sem]; try omega)) only [↓reduceIte, go_sem, iP, iN, w64, w8, w32, s_Z21, g1, c0, hg, g2, g3, g4, p1, p2, hgk, g5, n3, b1, List.length_cons, List.length_nil, c4, c5, rowT, Bool.false_eq_true, and_true, true_and, and_false, false_and, or_true, true_or, or_false, false_or, List.cons_append, List.nil_append]
      · rw [if_neg b2]
        by_cases b3 : 1 < r.length
        · by_cases b4 : ((r.getD 0 0).toNat : Int) = 45
          · have h6 := cut1s b1
            have h7 := fun σ hσ => d_digs r.tail (by rw [List.length_tail]; omega) σ hσ
            cases b5 : digsB r.tail with
            | true =>
              rcases main with ⟨c4, c5, c6⟩ | ⟨c4, c5, c6⟩ | ⟨c4, c5, c6⟩
              · simp +contextual -implicitDefEqProofs (disch := first | assumption | omega | (simp -implicitDefEqProofs only [go_sem]; try omega)) only [↓reduceIte, go_sem, iP, iN, w64, w8, w32, s_Z21, g1, c0, hg, g2, g3, g4, p1, p2, hgk, b1, b2, b3, b4, b5, h6, h7, c4, c5, c6, rowT, Bool.false_eq_true, and_true, true_and, and_false, false_and, or_true, true_or, or_false, false_or, List.cons_append, List.nil_append]
              · simp +contextual -implicitDefEqProofs (disch := first | assumption | omega | (simp -implicitDefEqProofs only [go_sem]; try omega)) only [↓reduceIte, go_sem, iP, iN, w64, w8, w32, s_Z21, g1, c0, hg, g2, g3, g4, p1, p2, hgk, b1, b2, b3, b4, b5, h6, h7, c4, c5, c6, rowT, Bool.false_eq_true, and_true, true_and, and_false, false_and, or_true, true_or, or_false, false_or, List.cons_append, List.nil_append]
              · simp +contextual -implicitDefEqProofs (disch := first | assumption | omega | (simp -implicitDefEqProofs only [go_sem]; try omega)) only [↓reduceIte, go_sem, iP, iN, w64, w8, w32, s_Z21, g1, c0, hg, g2, g3, g4, p1, p2, hgk, b1, b2, b3, b4, b5, h6, h7, c4, c5, rowT, Bool.false_eq_true, and_true, true_and, and_false, false_and, or_true, true_or, or_false, false_or, List.cons_append, List.nil_append]
            | false =>
              rcases main with ⟨c4, c5, c6⟩ | ⟨c4, c5, c6⟩ | ⟨c4, c5, c6⟩
              · simp +contextual -implicitDefEqProofs (disch := first | assumption | omega | (simp -implicitDefEqProofs only [go_sem]; try omega)) only [↓reduceIte, go_sem, iP, iN, w64, w8, w32, s_Z21, g1, c0, hg, g2, g3, g4, p1, p2, hgk, b1, b2, b3, b4, b5, h6, h7, c4, c5, c6, rowT, Bool.false_eq_true, and_true, true_and, and_false, false_and, or_true, true_or, or_false, false_or, List.cons_append, List.nil_append]
              · simp +contextual -implicitDefEqProofs (disch := first | assumption | omega | (simp -implicitDefEqProofs only [go_sem]; try omega)) only [↓reduceIte, go_sem, iP, iN, w64, w8, w32, s_Z21, g1, c0, hg, g2, g3, g4, p1, p2, hgk, b1, b2, b3, b4, b5, h6, h7, c4, c5, c6, rowT, Bool.false_eq_true, and_true, true_and, and_false, false_and, or_true, true_or, or_false, false_or, List.cons_append, List.nil_append]
              · simp +contextual -implicitDefEqProofs (disch := first | assumption | omega | (simp -implicitDefEqProofs only [go_sem]; try omega)) only [↓reduceIte, go_sem, iP, iN, w64, w8, w32, s_Z21, g1, c0, hg, g2, g3, g4, p1, p2, hgk, b1, b2, b3, b4, b5, h6, h7, c4, c5, rowT, Bool.false_eq_true, and_true, true_and, and_false, false_and, or_true, true_or, or_false, false_or, List.cons_append, List.nil_append]
          · rcases main with ⟨c4, c5, c6⟩ | ⟨c4, c5, c6⟩ | ⟨c4, c5, c6⟩
            · simp +contextual -implicitDefEqProofs (disch := first | assumption | omega | (simp -implicitDefEqProofs only [go_sem]; try omega)) only [↓reduceIte, go_sem, iP, iN, w64, w8, w32, s_Z21, g1, c0, hg, g2, g3, g4, p1, p2, hgk, b1, b2, b3, b4, c4, c5, c6, rowT, Bool.false_eq_true, and_true, true_and, and_false, false_and, or_true, true_or, or_false, false_or, List.cons_append, List.nil_append]
            · simp +contextual -implicitDefEqProofs (disch := first | assumption | omega | (simp -implicitDefEqProofs only [go_sem]; try omega)) only [↓reduceIte, go_sem, iP, iN, w64, w8, w32, s_Z21, g1, c0, hg, g2, g3, g4, p1, p2, hgk, b1, b2, b3, b4, c4, c5, c6, rowT, Bool.false_eq_true, and_true, true_and, and_false, false_and, or_true, true_or, or_false, false_or, List.cons_append, List.nil_append]
            · simp +contextual -implicitDefEqProofs (disch := first | assumption | omega | (simp -implicitDefEqProofs only [go_sem]; try omega)) only [↓reduceIte, go_sem, iP, iN, w64, w8, w32, s_Z21, g1, c0, hg, g2, g3, g4, p1, p2, hgk, b1, b2, b3, b4, c4, c5, rowT, Bool.false_eq_true, and_true, true_and, and_false, false_and, or_true, true_or, or_false, false_or, List.cons_append, List.nil_append]
        · have b4 : ¬ ((r.getD 0 0).toNat : Int) = 45 := fun h => b2 (by
            match r, hr0, b3, h with
            | [x], _, _, h =>
              have h' : (x.toNat : Int) = 45 := h
              have : x = 45 := UInt8.toNat_inj.1 (by show x.toNat = 45; omega)
              rw [this]
            | x :: y :: z, _, b3, _ => exact absurd (by simp) b3)
          rcases main with ⟨c4, c5, c6⟩ | ⟨c4, c5, c6⟩ | ⟨c4, c5, c6⟩
          · simp +contextual -implicitDefEqProofs (disch := first | assumption | omega | (simp -implicitDefEqProofs only [go_sem]; try omega)) only [↓reduceIte, go_sem, iP, iN, w64, w8, w32, s_Z21, g1, c0, hg, g2, g3, g4, p1, p2, hgk, b1, b2, b3, b4, c4, c5, c6, rowT, Bool.false_eq_true, and_true, true_and, and_false, false_and, or_true, true_or, or_false, false_or, List.cons_append, List.nil_append]
          · simp +contextual -implicitDefEqProofs (disch := first | assumption | omega | (simp -implicitDefEqProofs only [go_sem]; try omega)) only [↓reduceIte, go_sem, iP, iN, w64, w8, w32, s_Z21, g1, c0, hg, g2, g3, g4, p1, p2, hgk, b1, b2, b3, b4, c4, c5, c6, rowT, Bool.false_eq_true, and_true, true_and, and_false, false_and, or_true, true_or, or_false, false_or, List.cons_append, List.nil_append]
          · simp +contextual -implicitDefEqProofs (disch := first | assumption | omega | (simp -implicitDefEqProofs only [go_sem]; try omega)) only [↓reduceIte, go_sem, iP, iN, w64, w8, w32, s_Z21, g1, c0, hg, g2, g3, g4, p1, p2, hgk, b1, b2, b3, b4, c4, c5, rowT, Bool.false_eq_true, and_true, true_and, and_false, false_and, or_true, true_or, or_false, false_or, List.cons_append, List.nil_append]
end
end Go.Proofs.YtkgkmlhljeidhaaGreatDoor
set_option linter.unusedSimpArgs false
set_option linter.unusedVariables false
set_option linter.unusedSectionVars false
namespace Go.Proofs.YtkgkmlhljeidhaaGreatDoor
open Go.Ev
set_option maxRecDepth 100000
set_option maxHeartbeats 8000000
def parT : Option (List UInt8 × List UInt8 × Int) → Int × Int × Int × Int
  | none => (0, 0, 0, 10)
  | some (a, b, n) => if (wS a).2 = 0 ∧ (wS b).2 = 0 then ((wS a).1, (wS b).1, n, 0) else (0, 0, 0, 3)
def parS (L : List Tok) : Int × Int × Int × Int := parT (rowS L)
def parV (x : Int × Int × Int × Int) : V := .tup [.int .i64 x.1, .int .i64 x.2.1, .int .i64 x.2.2.1, .int .i64 x.2.2.2]
section
variable {L : List Tok} (hL : Toks L)
include hL
theorem tailS_to {a r a' b : List UInt8} {to n : Int} (h : tailS L a r to = some (a', b, n)) (ha : a.length ≤ 10000000000) (hr : r.length ≤ 10000000000) (ht : 0 ≤ to ∧ to ≤ L.length) :
    a'.length ≤ 10000000000 ∧ b.length ≤ 20000000001 ∧ 0 ≤ n ∧ n ≤ (L.length : Int) + 1 := by
  have h1 := skS_le L to
  have h2 := skS_le L (skS L to + 1)
  have h3 := hL.get (skS L to)
  have h4 := hL.get (skS L (skS L to + 1))
  unfold tailS at h
  split at h
  · split at h
    · rename_i hc
      have := numT_lt hc
      cases h; omega
    · split at h
      · rename_i hc
        have := numT_lt hc.2.2
        cases h
        rw [List.length_append]
        omega
      · cases h
        simp only [List.length_cons, List.length_nil]
        omega
  · split at h
    · split at h
      · rename_i hc
        have := numT_lt hc
        cases h
        rw [List.length_cons]
        omega
      · cases h
    · split at h
      · cases h; omega
      · cases h
theorem headS_a (i : Int) {a r : List UInt8} {to : Int} (h : headS L i = some (a, r, to)) : a.length ≤ 10000000000 := by
  have h1 := hL.get i
  unfold headS at h
  split at h
  · rw [(hdS_to h).2.1]; simp
  · split at h
    · split at h
      · rw [(hdS_to h).2.1]; omega
      · cases h
    · split at h
      · cases h
      · split at h
        · rw [(hdS_to h).2.1]; simp
        · rw [(hdS_to h).2.1]; simp
theorem rowS_to {a b : List UInt8} {n : Int} (h : rowS L = some (a, b, n)) : a.length ≤ 10000000000 ∧ b.length ≤ 20000000001 ∧ 0 ≤ n ∧ n ≤ (L.length : Int) + 1 := by
  have h1 := skS_le L 0
  have h2 := hL.get (skS L 0)
  unfold rowS at h
  split at h
  · cases h
  · split at h
    · cases h; simp only [List.length_cons, List.length_nil]; omega
    · split at h
      · cases h; simp only [List.length_cons, List.length_nil]; omega
      · split at h
        · cases h; simp only [List.length_cons, List.length_nil]; omega
        · cases hh : headS L (skS L 0) with
          | none => rw [hh] at h; cases h
          | some x =>
            obtain ⟨a', r, to⟩ := x
            rw [hh] at h
            have h3 := headS_to hL _ hh (by omega)
            exact tailS_to hL h (headS_a hL _ hh) h3.2.2 (by omega)
theorem d_rParse (σ : Objs) (hσ : Wf σ) : E cx 17 [.sl (toks L) .no] σ = some (parV (parS L), σ) := by
  refine E_any cx_cl ?_ (by rw [rbs_cons, toks_rb]; rfl) rfl σ hσ
  have g1 := fun σ hσ => d_Find hL σ hσ
  unfold parS
  rw [e_Z22]
  cases hr : rowS L with
  | none =>
    rw [hr] at g1
    simp only [rowT] at g1
    simp +contextual -implicitDefEqProofs (disch := first | assumption | omega | (simp -implicitDefEqProofs only [go_sem]; try omega)) only [↓reduceIte, go_sem, iP, iN, w64, w8, w32, s_Z22, g1, parV, parT]
  | some x =>
    obtain ⟨a, b, n⟩ := x
    have h1 := rowS_to hL hr
    rw [hr] at g1
    simp only [rowT] at g1
    have g2 := fun σ hσ => d_rWhole a (by omega) σ hσ
    have g3 := fun σ hσ => d_rWhole b (by omega) σ hσ
    by_cases c1 : (wS a).2 = 0
    · by_cases c2 : (wS b).2 = 0
      · simp +contextual -implicitDefEqProofs (disch := first | assumption | omega | (simp -implicitDefEqProofs only [go_sem]; try omega)) only [↓reduceIte, go_sem, iP, iN, w64, w8, w32, s_Z22, g1, g2, g3, parV, parT, c1, c2, and_true]
      · simp +contextual -implicitDefEqProofs (disch := first | assumption | omega | (simp -implicitDefEqProofs only [go_sem]; try omega)) only [↓reduceIte, go_sem, iP, iN, w64, w8, w32, s_Z22, g1, g2, g3, parV, parT, c1, c2, and_false]
    · simp +contextual -implicitDefEqProofs (disch := first | assumption | omega | (simp -implicitDefEqProofs only [go_sem]; try omega)) only [↓reduceIte, go_sem, iP, iN, w64, w8, w32, s_Z22, g1, g2, g3, parV, parT, c1, false_and]
end
end Go.Proofs.YtkgkmlhljeidhaaGreatDoor
set_option linter.unusedSimpArgs false
set_option linter.unusedVariables false
set_option linter.unusedSectionVars false
namespace Go.Ev
theorem iaddr_hs {k : IntKind} {i : Int} {o len : Nat} {ag : Bool} (h : 0 ≤ i ∧ i < len) : eI 1 (.int k i) (.hs o 0 len 1 ag) = some (.ptr o i.toNat) := by
  simp only [eI, index, if_pos h, Option.bind_eq_bind, Option.bind_some, if_true, Nat.mul_one, Nat.zero_add]
theorem part_bytes {s : List UInt8} {i : Nat} (h : i < s.length) : part false 1 (ofBytes s) i = some (.int .u8 (s.getD i 0).toNat) := by
  simp only [part, Bool.false_eq_true, if_false, if_true, ofBytes, List.getElem?_map, List.getElem?_eq_getElem h, Option.map_some, List.getD_eq_getElem?_getD, Option.getD_some]
  rfl
theorem chunks_bytes : ∀ (r p : List UInt8), chunks false 1 (ofBytes (p ++ r)) r.length p.length = some (ofBytes r)
  | [], p => rfl
  | b :: r, p => by
    have h := chunks_bytes r (p ++ [b])
    rw [List.append_assoc] at h
    simp only [List.length_append, List.length_cons, List.length_nil, List.cons_append, List.nil_append, Nat.zero_add] at h
    have h2 : part false 1 (ofBytes (p ++ b :: r)) p.length = some (.int .u8 b.toNat) := by
      rw [part_bytes (by simp)]
      simp
    rw [List.length_cons]
    simp only [chunks, h2, h, Option.bind_eq_bind, Option.bind_some, Option.pure_def]
    rfl
theorem bytesStr_hs {s : List UInt8} {τ : Objs} : eC (.cells (ofBytes s) :: τ) .bytesStr (.hs 0 0 s.length 1 false) = (bytesOf (ofBytes s)).map V.str := by
  have h := chunks_bytes s []
  simp only [List.nil_append, List.length_nil] at h
  show (rowOf (.cells (ofBytes s) :: τ) (.hs 0 0 s.length 1 false)).bind (fun xs => (bytesOf xs).map V.str) = _
  have h2 : rowOf (.cells (ofBytes s) :: τ) (.hs 0 0 s.length 1 false) = some (ofBytes s) := h
  rw [h2]
  rfl
theorem set_bytes {p r : List UInt8} {b c : UInt8} : (ofBytes (p ++ b :: r)).set p.length (.int .u8 c.toNat) = ofBytes (p ++ c :: r) := by
  unfold ofBytes
  rw [List.map_append, List.map_append, List.map_cons, List.map_cons, List.set_append_right _ _ (by simp)]
  simp
theorem bytesHV_nil {s : List UInt8} : bytesHV [] (.str s) = some (.hs 0 0 s.length 1 false, [.cells (ofBytes s)]) := rfl
theorem bytes_len {s : List UInt8} : (ofBytes s).length = s.length := by unfold ofBytes; rw [List.length_map]
attribute [go_sem] iaddr_hs part_bytes bytesHV_nil bytes_len
end Go.Ev
namespace Go.Proofs.YtkgkmlhljeidhaaGreatDoor
open Go.Ev
set_option maxRecDepth 100000
set_option maxHeartbeats 4000000
theorem d_cSmall (c : Int) (hc : -1000000000 ≤ c ∧ c ≤ 1000000000) (σ : Objs) (hσ : Wf σ) : E cx 70 [.int .i64 c] σ = some (.int .i64 (smallZ c), σ) := by
  rw [e_Zj]
  unfold smallZ
  by_cases h1 : 65 ≤ c
  · by_cases h2 : c ≤ 90
    · have e : c + 97 - 65 = c + 32 := by omega
      simp +contextual -implicitDefEqProofs (disch := first | assumption | omega | (simp -implicitDefEqProofs only [go_sem]; try omega)) only [↓reduceIte, go_sem, iP, iN, w64, w8, w32, s_Zj, h1, h2, e, true_and]
    · simp +contextual -implicitDefEqProofs (disch := first | assumption | omega | (simp -implicitDefEqProofs only [go_sem]; try omega)) only [↓reduceIte, go_sem, iP, iN, w64, w8, w32, s_Zj, h1, h2, and_false]
  · simp +contextual -implicitDefEqProofs (disch := first | assumption | omega | (simp -implicitDefEqProofs only [go_sem]; try omega)) only [↓reduceIte, go_sem, iP, iN, w64, w8, w32, s_Zj, h1, false_and]
theorem lowB_nat (b : UInt8) : ((lowB b).toNat : Int) = smallZ b.toNat := by
  have hb := UInt8.toNat_lt b
  exact putB_nat (smallZ_le (by omega))
theorem d_clow0 (n : Nat) (hn : n ≤ 100000000000) : ∀ (r p : List UInt8), n = p.length + r.length →
    l_Zh_0 (Mi cx) 0 1 [.hs 0 0 n 1 false, .hs 0 0 n 1 false, .int .i64 n, .int .i64 p.length] [.cells (ofBytes (p ++ r))] = some (.str (p ++ lowS r), [])
  | [], p, hp => by
    have hlen : n = (p ++ ([] : List UInt8)).length := by rw [hp]; simp
    have hc : ¬ p.length < n := by rw [hp]; simp
    have h1 : eC [.cells (ofBytes (p ++ ([] : List UInt8)))] .bytesStr (.hs 0 0 n 1 false) = some (.str (p ++ [])) := by
      rw [hlen, bytesStr_hs, bytesOf_of]; rfl
    have e : lowS [] = [] := rfl
    rw [u_Zh_0, e]
    simp only [List.append_nil] at h1 ⊢
    simp +contextual -implicitDefEqProofs (disch := first | assumption | omega | (simp -implicitDefEqProofs only [go_sem]; try omega)) only [↓reduceIte, go_sem, iP, iN, w64, w8, w32, b_Zh_0, hc, h1]
  | b :: r, p, hp => by
    have hlen : n = p.length + r.length + 1 := by rw [hp]; simp; omega
    have hb := UInt8.toNat_lt b
    have hz := smallZ_le (c := (b.toNat : Int)) (by omega)
    have h1 := fun σ hσ => d_cSmall (b.toNat : Int) (by omega) σ hσ
    have h2 : (ofBytes (p ++ b :: r)).set p.length (.int .u8 (smallZ b.toNat)) = ofBytes (p ++ lowB b :: r) := by
      rw [← lowB_nat, set_bytes]
    have ih := d_clow0 n hn r (p ++ [lowB b]) (by simp; omega)
    simp only [List.append_assoc, List.cons_append, List.nil_append, List.length_append, List.length_cons, List.length_nil, Nat.zero_add] at ih
    have e : lowS (b :: r) = lowB b :: lowS r := rfl
    have e2 : (p.length + 1 : Nat) = ((p.length : Nat) : Int) + 1 := by omega
    rw [e2] at ih
    have h3 : (p ++ b :: r).getD p.length 0 = b := by simp
    have hl : p.length < (p ++ b :: r).length := by simp
    have e3 : ((p.length : Nat) : Int).toNat = p.length := by omega
    rw [u_Zh_0, e]
    simp +contextual -implicitDefEqProofs (disch := first | assumption | omega | (simp -implicitDefEqProofs only [go_sem]; try omega)) only [↓reduceIte, go_sem, iP, iN, w64, w8, w32, b_Zh_0, h1, h2, h3, ih, e3]
theorem d_cLower (s : List UInt8) (hs : s.length ≤ 100000000000) (σ : Objs) (hσ : Wf σ) : E cx 44 [.str s] σ = some (.str (lowS s), σ) := by
  refine E_any cx_cl ?_ rfl rfl σ hσ
  have h := d_clow0 s.length hs s [] (by simp)
  simp only [List.nil_append, List.length_nil] at h
  have h' : l_Zh_0 (Mi cx) 0 1 [.hs 0 0 s.length 1 false, .hs 0 0 s.length 1 false, .int .i64 s.length, .int .i64 0] [.cells (ofBytes s)] = some (.str (lowS s), []) := h
  rw [e_Zh]
  simp +contextual -implicitDefEqProofs (disch := first | assumption | omega | (simp -implicitDefEqProofs only [go_sem]; try omega)) only [↓reduceIte, go_sem, iP, iN, w64, w8, w32, s_Zh, h']
theorem d_Same (s t : List UInt8) (hs : s.length ≤ 100000000000) (ht : t.length ≤ 100000000000) (σ : Objs) (hσ : Wf σ) : E cx 42 [.str s, .str t] σ = some (.bool (decide (lowS s = lowS t)), σ) := by
  have h1 := fun σ hσ => d_cLower s hs σ hσ
  have h2 := fun σ hσ => d_cLower t ht σ hσ
  rw [e_Zi]
  simp +contextual -implicitDefEqProofs (disch := first | assumption | omega | (simp -implicitDefEqProofs only [go_sem]; try omega)) only [↓reduceIte, go_sem, iP, iN, w64, w8, w32, s_Zi, h1, h2]
def preB (s p : List UInt8) : Bool := decide (s.take p.length = p)
theorem d_HasP (s p : List UInt8) (hs : s.length ≤ 100000000000) (hp : p.length ≤ 100000000000) (σ : Objs) (hσ : Wf σ) : E cx 72 [.str s, .str p] σ = some (.bool (preB s p), σ) := by
  rw [e_Zl]
  unfold preB
  by_cases h : p.length ≤ s.length
  · have h1 : evCutS (.str s) none (some (.int .i64 p.length)) = some (.str (s.take p.length)) := cutS_hi (by omega)
    simp +contextual -implicitDefEqProofs (disch := first | assumption | omega | (simp -implicitDefEqProofs only [go_sem]; try omega)) only [↓reduceIte, go_sem, iP, iN, w64, w8, w32, s_Zl, h, h1]
  · have h2 : ¬ s.take p.length = p := fun e => h (by rw [← e, List.length_take]; omega)
    simp +contextual -implicitDefEqProofs (disch := first | assumption | omega | (simp -implicitDefEqProofs only [go_sem]; try omega)) only [↓reduceIte, go_sem, iP, iN, w64, w8, w32, s_Zl, h, h2]
theorem d_HasPrefix (s p : List UInt8) (hs : s.length ≤ 100000000000) (hp : p.length ≤ 100000000000) (σ : Objs) (hσ : Wf σ) : E cx 46 [.str s, .str p] σ = some (.bool (preB s p), σ) := by
  have h1 := fun σ hσ => d_HasP s p hs hp σ hσ
  rw [e_Zo]
  simp +contextual -implicitDefEqProofs (disch := first | assumption | omega | (simp -implicitDefEqProofs only [go_sem]; try omega)) only [↓reduceIte, go_sem, iP, iN, w64, w8, w32, s_Zo, h1]
theorem d_CutP (s p : List UInt8) (hs : s.length ≤ 100000000000) (hp : p.length ≤ 100000000000) (σ : Objs) (hσ : Wf σ) : E cx 71 [.str s, .str p] σ = some (.tup [.str (if preB s p then s.drop p.length else s), .bool (preB s p)], σ) := by
  have h1 := fun σ hσ => d_HasP s p hs hp σ hσ
  rw [e_Zk]
  cases hb : preB s p with
  | true =>
    rw [hb] at h1
    have h2 : p.length ≤ s.length := by
      have := of_decide_eq_true hb
      have h3 : (s.take p.length).length = p.length := by rw [this]
      rw [List.length_take] at h3; omega
    have h4 : evCutS (.str s) (some (.int .i64 p.length)) none = some (.str (s.drop p.length)) := cutS_lo (by omega)
    simp +contextual -implicitDefEqProofs (disch := first | assumption | omega | (simp -implicitDefEqProofs only [go_sem]; try omega)) only [↓reduceIte, go_sem, iP, iN, w64, w8, w32, s_Zk, h1, h4]
  | false => simp +contextual -implicitDefEqProofs (disch := first | assumption | omega | (simp -implicitDefEqProofs only [go_sem]; try omega)) only [↓reduceIte, go_sem, iP, iN, w64, w8, w32, s_Zk, h1, hb, Bool.false_eq_true]
theorem d_CutPrefix (s p : List UInt8) (hs : s.length ≤ 100000000000) (hp : p.length ≤ 100000000000) (σ : Objs) (hσ : Wf σ) : E cx 45 [.str s, .str p] σ = some (.tup [.str (if preB s p then s.drop p.length else s), .bool (preB s p)], σ) := by
  have h1 := fun σ hσ => d_CutP s p hs hp σ hσ
  rw [e_Zn]
  simp +contextual -implicitDefEqProofs (disch := first | assumption | omega | (simp -implicitDefEqProofs only [go_sem]; try omega)) only [↓reduceIte, go_sem, iP, iN, w64, w8, w32, s_Zn, h1]
theorem E_on {f : FuncId} {args : List V} {cs cs' : List V} {r : V} (h : E cx f (.ptr 0 0 :: args) [.cells cs] = some (r, [.cells cs'])) (ha : V.rbs 0 args = true) (hc : V.rbs 0 cs = true) (hc' : V.rbs 0 cs' = true) (hr : V.rb 0 r = true)
    (τ : Objs) (hτ : FrW 1 τ) : E cx f (.ptr 0 0 :: args) (.cells cs :: τ) = some (r, .cells cs' :: τ) := by
  have h1 := E_frame cx_cl (b := 1) hτ (Nat.le_refl _) h
  rw [List.map_cons, ← shs_map, shs_closed ha, sh_closed hr] at h1
  have e : ∀ ds : List V, V.rbs 0 ds = true → ins 1 τ [.cells ds] = .cells ds :: τ := by
    intro ds hd
    show (List.take 1 [O.sh 1 τ.length (.cells ds)] ++ τ) ++ List.drop 1 [O.sh 1 τ.length (.cells ds)] = _
    have : O.sh 1 τ.length (.cells ds) = .cells ds := by show O.cells (ds.map (V.sh 1 τ.length)) = _; rw [← shs_map, shs_closed hd]
    rw [this]
    simp
  rw [e _ hc, e _ hc'] at h1
  exact h1
end Go.Proofs.YtkgkmlhljeidhaaGreatDoor
set_option linter.unusedSimpArgs false
set_option linter.unusedVariables false
set_option linter.unusedSectionVars false
namespace Go.Proofs.YtkgkmlhljeidhaaGreatDoor
open Go.Ev
set_option maxRecDepth 100000
set_option maxHeartbeats 4000000
theorem neq_errV {k : Int} : eB .neq .ifc (errV k) .nili = some (.bool (decide (¬ k = 0))) := by
  unfold errV
  split
  · rename_i h; rw [h]; rfl
  · rename_i h; rw [decide_eq_true h]; rfl
theorem sto0_errV {off : Nat} {cs : List V} {k : Int} {τ : Objs} (h2 : off + 1 ≤ cs.length) :
    stV (.cells cs :: τ) 1 (.ptr 0 off) (errV k) (errV k) = some (.undef, .cells (cs.set off (errV k)) :: τ) := by
  unfold errV
  split
  · show (if (V.nili).cells.length = 1 ∧ off + 1 ≤ cs.length ∧ okCells (V.nili).cells = true then _ else _) = _
    rw [if_pos ⟨rfl, h2, rfl⟩]; rfl
  · show (if (failV k 0).cells.length = 1 ∧ off + 1 ≤ cs.length ∧ okCells (failV k 0).cells = true then _ else _) = _
    rw [if_pos ⟨rfl, h2, rfl⟩]; rfl
theorem frw_nil : FrW 1 [] = True := by unfold FrW; simp
theorem frw_one {cs : List V} : FrW 1 [.cells cs] = (V.rbs 2 cs = true) := by unfold FrW; simp [O.rb]
attribute [go_sem] errV_nogr errV_rb neq_errV eq_errV sto0_errV frw_nil frw_one
def comb (k e : Int) : Int := if k = 0 then e else k
def rdC (L : List Tok) (a k : Int) : List V := [.sl (toks L) .no, .int .i64 a, errV k]
theorem rdC_rb (L : List Tok) (a k : Int) : V.rbs 0 (rdC L a k) = true := by
  unfold rdC
  simp only [rbs_cons, toks_rb, errV_rb, rbs_nil]
  rfl
section
variable {L : List Tok} (hL : Toks L) (a k : Int)
include hL
theorem d_look1 (n : Int) (hn : 0 ≤ n) : E cx 41 [.ptr 0 0, .int .i64 n] [.cells [.sl (toks L) .no, .int .i64 a, errV k]] = some (.agg [.int .i64 (tk L n).k, .int .i64 (tk L n).f, .int .i64 (tk L n).t, .str (tk L n).s, .str (tk L n).n, .bool (tk L n).w], [.cells [.sl (toks L) .no, .int .i64 a, errV k]]) := by
  rw [e_Z3]
  by_cases h : (L.length : Int) ≤ n
  · rw [tk_out h]
    simp +contextual -implicitDefEqProofs (disch := first | assumption | omega | (simp -implicitDefEqProofs only [go_sem]; try omega)) only [↓reduceIte, go_sem, iP, iN, w64, w8, w32, s_Z3, h, tkZ]
  · simp +contextual -implicitDefEqProofs (disch := first | assumption | omega | (simp -implicitDefEqProofs only [go_sem]; try omega)) only [↓reduceIte, go_sem, iP, iN, w64, w8, w32, s_Z3, h]
theorem d_look (n : Int) (hn : 0 ≤ n) (τ : Objs) (hτ : FrW 1 τ) : E cx 41 [.ptr 0 0, .int .i64 n] (.cells [.sl (toks L) .no, .int .i64 a, errV k] :: τ) = some (.agg [.int .i64 (tk L n).k, .int .i64 (tk L n).f, .int .i64 (tk L n).t, .str (tk L n).s, .str (tk L n).n, .bool (tk L n).w], .cells [.sl (toks L) .no, .int .i64 a, errV k] :: τ) :=
  E_on (d_look1 hL a k n hn) rfl (rdC_rb L a k) (rdC_rb L a k) rfl τ hτ
theorem d_askip0 : ∀ (f : Nat) (i : Int), (L.length : Int) - i < f → 0 ≤ i ∧ i ≤ 2000000000 →
    l_Z5_0 (Mi cx) 1 1 [.ptr 0 0, .int .i64 i] [.cells [.sl (toks L) .no, .int .i64 a, errV k]] = some (.int .i64 (skF L f i), [.cells [.sl (toks L) .no, .int .i64 a, errV k]])
  | 0, i, hf, hi => by
    have h1 := fun τ hτ => d_look hL a k i hi.1 τ hτ
    have h2 : tk L i = tkZ := tk_out (by omega)
    rw [h2] at h1
    simp only [tkZ] at h1
    rw [u_Z5_0]
    simp +contextual -implicitDefEqProofs (disch := first | assumption | omega | (simp -implicitDefEqProofs only [go_sem]; try omega)) only [↓reduceIte, go_sem, iP, iN, w64, w8, w32, b_Z5_0, h1, skF]
  | f + 1, i, hf, hi => by
    have hl2 := hL.1
    have h1 := fun τ hτ => d_look hL a k i hi.1 τ hτ
    have hlt : (tk L i).k = 13 → i < L.length := fun h => tk_k (by omega)
    unfold skF
    generalize tk L i = t at h1 hlt ⊢
    rw [u_Z5_0]
    by_cases hk : t.k = 13
    · have hl := hlt hk
      have ih := d_askip0 f (i + 1) (by omega) (by omega)
      simp +contextual -implicitDefEqProofs (disch := first | assumption | omega | (simp -implicitDefEqProofs only [go_sem]; try omega)) only [↓reduceIte, go_sem, iP, iN, w64, w8, w32, b_Z5_0, h1, hk, ih]
    · simp +contextual -implicitDefEqProofs (disch := first | assumption | omega | (simp -implicitDefEqProofs only [go_sem]; try omega)) only [↓reduceIte, go_sem, iP, iN, w64, w8, w32, b_Z5_0, h1, hk]
theorem d_askip (i : Int) (hi : 0 ≤ i ∧ i ≤ 2000000000) (τ : Objs) (hτ : FrW 1 τ) : E cx 25 [.ptr 0 0, .int .i64 i] (.cells [.sl (toks L) .no, .int .i64 a, errV k] :: τ) = some (.int .i64 (skS L i), .cells [.sl (toks L) .no, .int .i64 a, errV k] :: τ) := by
  refine E_on (cs := [.sl (toks L) .no, .int .i64 a, errV k]) (cs' := [.sl (toks L) .no, .int .i64 a, errV k]) ?_ rfl (rdC_rb L a k) (rdC_rb L a k) rfl τ hτ
  have h := d_askip0 hL a k (L.length + 1) i (by omega) hi
  rw [e_Z5]
  simp +contextual -implicitDefEqProofs (disch := first | assumption | omega | (simp -implicitDefEqProofs only [go_sem]; try omega)) only [↓reduceIte, go_sem, iP, iN, w64, w8, w32, s_Z5, h, skS]
theorem d_awhole (s : List UInt8) (hs : s.length ≤ 100000000000) (τ : Objs) (hτ : FrW 1 τ) : E cx 43 [.ptr 0 0, .str s] (.cells [.sl (toks L) .no, .int .i64 a, errV k] :: τ) = some (.int .i64 (wS s).1, .cells [.sl (toks L) .no, .int .i64 a, errV (comb k (wS s).2)] :: τ) := by
  refine E_on (cs := [.sl (toks L) .no, .int .i64 a, errV k]) (cs' := [.sl (toks L) .no, .int .i64 a, errV (comb k (wS s).2)]) ?_ rfl (rdC_rb L a k) (rdC_rb L a _) rfl τ hτ
  have h1 := fun σ hσ => d_pWhole s (by omega) σ hσ
  rw [e_Z7]
  generalize (wS s) = x at h1 ⊢
  unfold comb
  by_cases c1 : x.2 = 0
  · by_cases c2 : k = 0
    · rw [if_pos c2, c2, c1]
      rw [c1] at h1
      simp +contextual -implicitDefEqProofs (disch := first | assumption | omega | (simp -implicitDefEqProofs only [go_sem]; try omega)) only [↓reduceIte, go_sem, iP, iN, w64, w8, w32, s_Z7, j_Z7_0, h1]
    · rw [if_neg c2]
      simp +contextual -implicitDefEqProofs (disch := first | assumption | omega | (simp -implicitDefEqProofs only [go_sem]; try omega)) only [↓reduceIte, go_sem, iP, iN, w64, w8, w32, s_Z7, j_Z7_0, h1, c1, c2]
  · by_cases c2 : k = 0
    · rw [if_pos c2, c2]
      simp +contextual -implicitDefEqProofs (disch := first | assumption | omega | (simp -implicitDefEqProofs only [go_sem]; try omega)) only [↓reduceIte, go_sem, iP, iN, w64, w8, w32, s_Z7, j_Z7_0, h1, c1, List.set_cons_succ, List.set_cons_zero]
    · rw [if_neg c2]
      simp +contextual -implicitDefEqProofs (disch := first | assumption | omega | (simp -implicitDefEqProofs only [go_sem]; try omega)) only [↓reduceIte, go_sem, iP, iN, w64, w8, w32, s_Z7, j_Z7_0, h1, c1, c2]
theorem d_anum (i : Int) (hi : 0 ≤ i) (s : Bool) (τ : Objs) (hτ : FrW 1 τ) : E cx 48 [.ptr 0 0, .int .i64 i, .bool s] (.cells [.sl (toks L) .no, .int .i64 a, errV k] :: τ) = some (.bool (numT L i s), .cells [.sl (toks L) .no, .int .i64 a, errV k] :: τ) := by
  refine E_on (cs := [.sl (toks L) .no, .int .i64 a, errV k]) (cs' := [.sl (toks L) .no, .int .i64 a, errV k]) ?_ rfl (rdC_rb L a k) (rdC_rb L a k) rfl τ hτ
  have h1 := fun τ hτ => d_look hL a k i hi τ hτ
  rw [e_Z4]
  unfold numT
  generalize tk L i = t at h1 ⊢
  by_cases hk : t.k = 10
  · cases hw : t.w with
    | true =>
      by_cases hn : t.n = []
      · simp +contextual -implicitDefEqProofs (disch := first | assumption | omega | (simp -implicitDefEqProofs only [go_sem]; try omega)) only [↓reduceIte, go_sem, iP, iN, w64, w8, w32, s_Z4, h1, hk, hw, hn, Bool.true_and, decide_true, ne_eq, not_true_eq_false, decide_false, Bool.false_and]
      · have hn2 : 0 < t.n.length := List.length_pos_iff.2 hn
        rw [decide_eq_true hk, decide_eq_true hn, Bool.true_and, Bool.true_and]
        unfold sgT
        by_cases g1 : ((t.n.getD 0 0).toNat : Int) = 43
        · simp +contextual -implicitDefEqProofs (disch := first | assumption | omega | (simp -implicitDefEqProofs only [go_sem]; try omega)) only [↓reduceIte, go_sem, iP, iN, w64, w8, w32, s_Z4, h1, hk, hw, hn, g1]
          cases s <;> rfl
        · by_cases g2 : ((t.n.getD 0 0).toNat : Int) = 45
          · simp +contextual -implicitDefEqProofs (disch := first | assumption | omega | (simp -implicitDefEqProofs only [go_sem]; try omega)) only [↓reduceIte, go_sem, iP, iN, w64, w8, w32, s_Z4, h1, hk, hw, hn, g1, g2]
            cases s <;> rfl
          · simp +contextual -implicitDefEqProofs (disch := first | assumption | omega | (simp -implicitDefEqProofs only [go_sem]; try omega)) only [↓reduceIte, go_sem, iP, iN, w64, w8, w32, s_Z4, h1, hk, hw, hn, g1, g2]
            cases s <;> rfl
    | false => simp +contextual -implicitDefEqProofs (disch := first | assumption | omega | (simp -implicitDefEqProofs only [go_sem]; try omega)) only [↓reduceIte, go_sem, iP, iN, w64, w8, w32, s_Z4, h1, hk, hw, Bool.true_and, Bool.false_and, Bool.and_false]
  · simp +contextual -implicitDefEqProofs (disch := first | assumption | omega | (simp -implicitDefEqProofs only [go_sem]; try omega)) only [↓reduceIte, go_sem, iP, iN, w64, w8, w32, s_Z4, h1, hk, Bool.false_and, decide_false]
end
end Go.Proofs.YtkgkmlhljeidhaaGreatDoor
set_option linter.unusedSimpArgs false
set_option linter.unusedVariables false
set_option linter.unusedSectionVars false
namespace Go.Proofs.YtkgkmlhljeidhaaGreatDoor
open Go.Ev
set_option maxRecDepth 100000
set_option maxHeartbeats 8000000
theorem comb_0 {k : Int} : comb k 0 = k := by
  unfold comb
  by_cases h : k = 0
  · rw [if_pos h, h]
  · rw [if_neg h]
def cutN (p name : List UInt8) : List UInt8 × Bool := (if preB name p then name.drop p.length else name, preB name p)
def headA (L : List Tok) (i : Int) : Int × (List UInt8 × Bool) × Int × Int :=
  if (tk L i).k = 9 ∧ (tk L i).s = [43] ∧ (tk L (i + 1)).k = 1 then (1, cutN [110] (lowS (tk L (i + 1)).s), i + 2, 0)
  else if (tk L i).k = 1 then (if preB (lowS (tk L i).s) [45] = true then (-1, cutN [45, 110] (lowS (tk L i).s), i + 1, 0) else (1, cutN [110] (lowS (tk L i).s), i + 1, 0))
  else if (tk L i).k = 12 then (if (tk L i).w = true then (if preB (lowS (tk L i).s) [110] = true then ((wS (tk L i).n).1, cutN [110] (lowS (tk L i).s), i + 1, (wS (tk L i).n).2) else (0, cutN [110] (lowS (tk L i).s), i + 1, 0)) else (0, ([], false), i + 1, 0))
  else (0, ([], false), i + 1, 0)
def tailA (L : List Tok) (a : Int) : Int × Int × Int :=
  if numT L (skS L a) true = true then ((wS (tk L (skS L a)).n).1, skS L a + 1, (wS (tk L (skS L a)).n).2)
  else if (tk L (skS L a)).k = 9 ∧ ((tk L (skS L a)).s = [43] ∨ (tk L (skS L a)).s = [45]) ∧ numT L (skS L (skS L a + 1)) false = true then
    ((wS ((tk L (skS L a)).s ++ (tk L (skS L (skS L a + 1))).n)).1, skS L (skS L a + 1) + 1, (wS ((tk L (skS L a)).s ++ (tk L (skS L (skS L a + 1))).n)).2)
  else (0, a, 0)
def whB (s : List UInt8) (a : Int) : (Int × Bool) × Int × Int := if (wS s).2 = 0 ∨ (wS s).2 = 3 then (((wS s).1, true), a, (wS s).2) else ((0, false), a, 0)
def behA (L : List Tok) (r : List UInt8) (a : Int) : (Int × Bool) × Int × Int :=
  if r = [] then (((tailA L a).1, true), (tailA L a).2.1, (tailA L a).2.2)
  else if r = [45] then (if numT L (skS L a) false = true then whB (45 :: (tk L (skS L a)).n) (skS L a + 1) else ((0, false), a, 0))
  else if ((r.getD 0 0).toNat : Int) = 45 then (if digitB ((r.getD 1 0).toNat : Int) = true then whB r a else ((0, false), a, 0))
  else ((0, false), a, 0)
def fixA (t : Tok) : Option (Int × Int × Int) :=
  if t.k = 1 ∧ lowS t.s = [101, 118, 101, 110] then some (2, 0, 0)
  else if t.k = 1 ∧ lowS t.s = [111, 100, 100] then some (2, 1, 0)
  else if t.k = 10 ∧ t.w = true then some (0, (wS t.n).1, (wS t.n).2) else none
theorem d_over (k : Int) (hk : k ≠ 0) (σ : Objs) (hσ : Wf σ) : E cx 49 [errV k] σ = some (.bool (decide (k = 3)), σ) := by
  have hp : E cx 35 [errV k, .ifc 38 (.int .i64 3)] σ = some (.bool (decide (k = 3)), σ) := by
    rw [E_prim (C := cx) (h := isP) (by kernel_rfl)]
    have e : errV k = failV k 0 := if_neg hk
    rw [e]
    by_cases h : k = 3
    · subst h; rfl
    · have : (3 : Int) ∈ [k] ↔ False := by simp; omega
      show some (V.bool (decide (3 ∈ [k])), σ) = _
      simp only [this, decide_false, h]
  rw [e_Ze]
  simp +contextual -implicitDefEqProofs (disch := first | assumption | omega | (simp -implicitDefEqProofs only [go_sem]; try omega)) only [↓reduceIte, go_sem, iP, iN, w64, w8, w32, s_Ze, hp]
section
variable {L : List Tok} (hL : Toks L) (a k : Int)
include hL
theorem d_afix (ha : 0 ≤ a ∧ a ≤ 2000000000) : E cx 26 [.ptr 0 0] [.cells [.sl (toks L) .no, .int .i64 a, errV k]] =
    match fixA (tk L a) with
    | some (x, y, e) => some (.tup [.int .i64 x, .int .i64 y, .bool true], [.cells [.sl (toks L) .no, .int .i64 (a + 1), errV (comb k e)]])
    | none => some (.tup [.int .i64 0, .int .i64 0, .bool false], [.cells [.sl (toks L) .no, .int .i64 a, errV k]]) := by
  have h0 := hL.get a
  have h1 := fun τ hτ => d_look hL a k a (by omega) τ hτ
  have hev : lowS [101, 118, 101, 110] = [101, 118, 101, 110] := by decide
  have hod : lowS [111, 100, 100] = [111, 100, 100] := by decide
  rw [e_Z1]
  generalize tk L a = t at h0 h1 ⊢
  have h2 := fun σ hσ => d_Same t.s [101, 118, 101, 110] (by omega) (by simp) σ hσ
  have h3 := fun σ hσ => d_Same t.s [111, 100, 100] (by omega) (by simp) σ hσ
  have h4 := fun τ hτ => d_awhole hL a k t.n (by omega) τ hτ
  rw [hev] at h2
  rw [hod] at h3
  unfold fixA
  have hne : (([111, 100, 100] : List UInt8) = [101, 118, 101, 110]) = False := by decide
  by_cases c1 : t.k = 1
  · by_cases c2 : lowS t.s = [101, 118, 101, 110]
    · simp +contextual -implicitDefEqProofs (disch := first | assumption | omega | (simp -implicitDefEqProofs only [go_sem]; try omega)) only [↓reduceIte, go_sem, iP, iN, w64, w8, w32, s_Z1, j_Z1_0, h1, h2, c1, c2, true_and, comb_0, List.set_cons_succ, List.set_cons_zero]
    · by_cases c3 : lowS t.s = [111, 100, 100]
      · simp +contextual -implicitDefEqProofs (disch := first | assumption | omega | (simp -implicitDefEqProofs only [go_sem]; try omega)) only [↓reduceIte, go_sem, iP, iN, w64, w8, w32, s_Z1, j_Z1_0, h1, h2, h3, c1, c3, hne, true_and, comb_0, List.set_cons_succ, List.set_cons_zero]
      · simp +contextual -implicitDefEqProofs (disch := first | assumption | omega | (simp -implicitDefEqProofs only [go_sem]; try omega)) only [↓reduceIte, go_sem, iP, iN, w64, w8, w32, s_Z1, j_Z1_0, h1, h2, h3, c1, c2, c3, true_and, false_and, and_false]
  · by_cases c2 : t.k = 10
    · cases c3 : t.w with
      | true => simp +contextual -implicitDefEqProofs (disch := first | assumption | omega | (simp -implicitDefEqProofs only [go_sem]; try omega)) only [↓reduceIte, go_sem, iP, iN, w64, w8, w32, s_Z1, j_Z1_0, h1, h4, c1, c2, c3, true_and, false_and, and_false, List.set_cons_succ, List.set_cons_zero]
      | false => simp +contextual -implicitDefEqProofs (disch := first | assumption | omega | (simp -implicitDefEqProofs only [go_sem]; try omega)) only [↓reduceIte, go_sem, iP, iN, w64, w8, w32, s_Z1, j_Z1_0, h1, h4, c1, c2, c3, true_and, false_and, and_false, Bool.false_eq_true]
    · simp +contextual -implicitDefEqProofs (disch := first | assumption | omega | (simp -implicitDefEqProofs only [go_sem]; try omega)) only [↓reduceIte, go_sem, iP, iN, w64, w8, w32, s_Z1, j_Z1_0, h1, c1, c2, true_and, false_and]
end
end Go.Proofs.YtkgkmlhljeidhaaGreatDoor
set_option linter.unusedSimpArgs false
set_option linter.unusedVariables false
set_option linter.unusedSectionVars false
namespace Go.Ev
theorem lockS_p {ag : Bool} {sz o off : Nat} {σ : Objs} : lockS [rdLoad ag sz (.ptr o off)] σ = some σ := rfl
theorem openS_p1 {off : Nat} {cs : List V} {P Q : O} {τ τ' : Objs} {s : List UInt8} (h : cs[off]? = some (.str s)) : openS [rdLoad false 1 (.ptr 1 off)] (P :: .cells cs :: τ) (Q :: .cells cs :: τ') = some (Q :: .cells cs :: τ') := by
  show (if (stable (P :: .cells cs :: τ) (Q :: .cells cs :: τ') (.same false 1 off 1) && true) = true then some (Q :: .cells cs :: τ') else none) = _
  have e : stable (P :: .cells cs :: τ) (Q :: .cells cs :: τ') (.same false 1 off 1) = true := by
    show (decide (cs.length = cs.length) && V.beqs (((cs.drop off).take 1).map V.ng) (((cs.drop off).take 1).map V.ng)) = true
    have e1 : (cs.drop off).take 1 = [.str s] := by
      rw [List.take_one, List.head?_drop, h]; rfl
    rw [e1, decide_eq_true rfl]
    simp [V.ng, V.beqs, V.beq]
  rw [e]; rfl
attribute [go_sem] lockS_p
end Go.Ev
namespace Go.Proofs.YtkgkmlhljeidhaaGreatDoor
open Go.Ev
set_option maxRecDepth 100000
set_option maxHeartbeats 8000000
section
variable {L : List Tok} (hL : Toks L) (a k : Int)
include hL
theorem d_ahd (x to : Int) (r : List UInt8) (ok : Bool) (hto : 0 ≤ to ∧ to ≤ 2000000000) (cs : List V) :
    j_Z2_0 (Mi cx) 1 (.ptr 0 0) (.int .i64 x) (.str r) (.bool ok) [.cells [.sl (toks L) .no, .int .i64 to, errV k], .cells cs] = some (.tup [.int .i64 x, .str r, .bool ok], [.cells [.sl (toks L) .no, .int .i64 (to + 1), errV k]]) := by
  simp +contextual -implicitDefEqProofs (disch := first | assumption | omega | (simp -implicitDefEqProofs only [go_sem]; try omega)) only [↓reduceIte, go_sem, iP, iN, w64, w8, w32, j_Z2_0, List.set_cons_succ, List.set_cons_zero]
theorem d_ahead (ha : 0 ≤ a ∧ a ≤ 1000000000) : E cx 27 [.ptr 0 0] [.cells [.sl (toks L) .no, .int .i64 a, errV k]] =
    some (.tup [.int .i64 (headA L a).1, .str (headA L a).2.1.1, .bool (headA L a).2.1.2], [.cells [.sl (toks L) .no, .int .i64 (headA L a).2.2.1, errV (comb k (headA L a).2.2.2)]]) := by
  have h0 := hL.get a
  have h0' := hL.get (a + 1)
  have h1 := fun τ hτ => d_look hL a k a (by omega) τ hτ
  have h2 := fun τ hτ => d_look hL a k (a + 1) (by omega) τ hτ
  have h2' := fun τ hτ => d_look hL (a + 1) k (a + 1) (by omega) τ hτ
  have r1 := fun k x r ok cs => d_ahd hL k x a r ok (by omega) cs
  have r2 := fun k x r ok cs => d_ahd hL k x (a + 1) r ok (by omega) cs
  have ea : a + 1 + 1 = a + 2 := by omega
  rw [ea] at r2
  rw [e_Z2]
  unfold headA
  generalize tk L (a + 1) = u at h0' h2 h2' ⊢
  generalize tk L a = t at h0 h1 ⊢
  have l1 := lowS_len t.s
  have l2 := lowS_len u.s
  have g1 := fun σ hσ => d_cLower t.s (by omega) σ hσ
  have g2 := fun σ hσ => d_cLower u.s (by omega) σ hσ
  have g3 := fun p hp σ hσ => d_CutPrefix (lowS t.s) p (by omega) hp σ hσ
  have g3a := fun σ hσ => g3 [110] (by simp) σ hσ
  have g3b := fun σ hσ => g3 [45, 110] (by simp) σ hσ
  have g4 := fun σ hσ => d_CutPrefix (lowS u.s) [110] (by omega) (by simp) σ hσ
  have g5 := fun σ hσ => d_HasPrefix (lowS t.s) [45] (by omega) (by simp) σ hσ
  have g6 := fun τ hτ => d_awhole hL a k t.n (by omega) τ hτ
  by_cases c1 : t.k = 9
  · by_cases c2 : t.s = [43]
    · rw [c2] at g1
      by_cases c3 : u.k = 1
      · simp +contextual -implicitDefEqProofs (disch := first | assumption | omega | (simp -implicitDefEqProofs only [go_sem]; try omega)) only [↓reduceIte, go_sem, iP, iN, w64, w8, w32, s_Z2, h1, h2, h2', c1, c2, c3, g1, g2, g4, r2, true_and, comb_0, cutN, List.set_cons_succ, List.set_cons_zero]
      · simp +contextual -implicitDefEqProofs (disch := first | assumption | omega | (simp -implicitDefEqProofs only [go_sem]; try omega)) only [↓reduceIte, go_sem, iP, iN, w64, w8, w32, s_Z2, h1, h2, h2', c1, c2, c3, g1, r1, true_and, and_false, false_and, comb_0]
    · simp +contextual -implicitDefEqProofs (disch := first | assumption | omega | (simp -implicitDefEqProofs only [go_sem]; try omega)) only [↓reduceIte, go_sem, iP, iN, w64, w8, w32, s_Z2, h1, c1, c2, g1, r1, true_and, and_false, false_and, comb_0]
  · by_cases c2 : t.k = 1
    · cases c3 : preB (lowS t.s) [45] with
      | true =>
        rw [c3] at g5
        simp +contextual -implicitDefEqProofs (disch := first | assumption | omega | (simp -implicitDefEqProofs only [go_sem]; try omega)) only [↓reduceIte, go_sem, iP, iN, w64, w8, w32, s_Z2, h1, c1, c2, g1, g3b, g5, r1, false_and, comb_0, cutN]
      | false =>
        rw [c3] at g5
        simp +contextual -implicitDefEqProofs (disch := first | assumption | omega | (simp -implicitDefEqProofs only [go_sem]; try omega)) only [↓reduceIte, go_sem, iP, iN, w64, w8, w32, s_Z2, h1, c1, c2, g1, g3a, g5, r1, false_and, comb_0, cutN, Bool.false_eq_true]
    · by_cases c3 : t.k = 12
      · cases c4 : t.w with
        | true =>
          cases c5 : preB (lowS t.s) [110] with
          | true =>
            rw [c5] at g3a
            simp +contextual -implicitDefEqProofs (disch := first | assumption | omega | (simp -implicitDefEqProofs only [go_sem]; try omega)) only [↓reduceIte, go_sem, iP, iN, w64, w8, w32, s_Z2, h1, c1, c2, c3, c4, g1, g3a, g6, r1, false_and, comb_0, cutN, c5]
          | false =>
            rw [c5] at g3a
            simp +contextual -implicitDefEqProofs (disch := first | assumption | omega | (simp -implicitDefEqProofs only [go_sem]; try omega)) only [↓reduceIte, go_sem, iP, iN, w64, w8, w32, s_Z2, h1, c1, c2, c3, c4, g1, g3a, g6, r1, false_and, comb_0, cutN, c5, Bool.false_eq_true]
        | false => simp +contextual -implicitDefEqProofs (disch := first | assumption | omega | (simp -implicitDefEqProofs only [go_sem]; try omega)) only [↓reduceIte, go_sem, iP, iN, w64, w8, w32, s_Z2, h1, c1, c2, c3, c4, g1, r1, false_and, comb_0, Bool.false_eq_true]
      · simp +contextual -implicitDefEqProofs (disch := first | assumption | omega | (simp -implicitDefEqProofs only [go_sem]; try omega)) only [↓reduceIte, go_sem, iP, iN, w64, w8, w32, s_Z2, h1, c1, c2, c3, g1, r1, false_and, comb_0]
theorem d_atail (ha : 0 ≤ a ∧ a ≤ (L.length : Int) + 1) : E cx 47 [.ptr 0 0] [.cells [.sl (toks L) .no, .int .i64 a, errV k]] =
    some (.int .i64 (tailA L a).1, [.cells [.sl (toks L) .no, .int .i64 (tailA L a).2.1, errV (comb k (tailA L a).2.2)]]) := by
  have hl := hL.1
  have k1 := skS_le L a
  have h1 := fun τ hτ => d_askip hL a k a (by omega) τ hτ
  rw [e_Z6]
  unfold tailA
  generalize skS L a = i at k1 h1 ⊢
  have k2 := skS_le L (i + 1)
  have h2 := fun τ hτ => d_askip hL a k (i + 1) (by omega) τ hτ
  have h3 := fun s τ hτ => d_anum hL a k i (by omega) s τ hτ
  have hlt1 : numT L i true = true → i < L.length := numT_lt
  have h4 := fun a τ hτ => d_look hL a k i (by omega) τ hτ
  generalize skS L (i + 1) = j at k2 h2 ⊢
  have h5 := fun s τ hτ => d_anum hL a k j (by omega) s τ hτ
  have hlt2 : numT L j false = true → j < L.length := numT_lt
  have h6 := fun a τ hτ => d_look hL a k j (by omega) τ hτ
  have h7 := hL.get i
  have h8 := hL.get j
  generalize tk L i = t at h4 h7 ⊢
  generalize tk L j = u at h6 h8 ⊢
  have p2 : ∀ c : UInt8, eB .add .no (.str [c]) (.str u.n) = some (.str (c :: u.n)) := fun c => bs_add (by unfold strMax; simp only [List.length_cons, List.length_nil]; omega)
  have ho : ∀ (x : List UInt8) (P Q : O) (τ τ' : Objs), openS [rdLoad false 1 (.ptr 1 3)] (P :: .cells [.int .i64 9, .int .i64 t.f, .int .i64 t.t, .str x, .str t.n, .bool t.w] :: τ) (Q :: .cells [.int .i64 9, .int .i64 t.f, .int .i64 t.t, .str x, .str t.n, .bool t.w] :: τ') = some (Q :: .cells [.int .i64 9, .int .i64 t.f, .int .i64 t.t, .str x, .str t.n, .bool t.w] :: τ') := fun x P Q τ τ' => openS_p1 (s := x) rfl
  cases n1 : numT L i true with
  | true =>
    have := hlt1 n1
    have h9 := fun τ hτ => d_awhole hL (i + 1) k t.n (by omega) τ hτ
    simp +contextual -implicitDefEqProofs (disch := first | assumption | omega | (simp -implicitDefEqProofs only [go_sem]; try omega)) only [↓reduceIte, go_sem, iP, iN, w64, w8, w32, s_Z6, h1, h3, h4, n1, h9, List.set_cons_succ, List.set_cons_zero]
  | false =>
    by_cases c1 : t.k = 9
    · by_cases c2 : t.s = [43]
      · cases n2 : numT L j false with
        | true =>
          have := hlt2 n2
          have h9 := fun τ hτ => d_awhole hL (j + 1) k (43 :: u.n) (by rw [List.length_cons]; omega) τ hτ
          simp +contextual -implicitDefEqProofs (disch := first | assumption | omega | (simp -implicitDefEqProofs only [go_sem]; try omega)) only [↓reduceIte, go_sem, iP, iN, w64, w8, w32, s_Z6, h1, h2, h3, h4, h5, h6, n1, n2, h9, p2, ho, c1, c2, true_and, true_or, Bool.false_eq_true, List.set_cons_succ, List.set_cons_zero, List.cons_append, List.nil_append]
        | false => simp +contextual -implicitDefEqProofs (disch := first | assumption | omega | (simp -implicitDefEqProofs only [go_sem]; try omega)) only [↓reduceIte, go_sem, iP, iN, w64, w8, w32, s_Z6, h1, h2, h3, h4, h5, n1, n2, c1, c2, true_and, true_or, Bool.false_eq_true, and_false, comb_0]
      · by_cases c3 : t.s = [45]
        · have hne : (([45] : List UInt8) = [43]) = False := by decide
          cases n2 : numT L j false with
          | true =>
            have := hlt2 n2
            have h9 := fun τ hτ => d_awhole hL (j + 1) k (45 :: u.n) (by rw [List.length_cons]; omega) τ hτ
            simp +contextual -implicitDefEqProofs (disch := first | assumption | omega | (simp -implicitDefEqProofs only [go_sem]; try omega)) only [↓reduceIte, go_sem, iP, iN, w64, w8, w32, s_Z6, h1, h2, h3, h4, h5, h6, n1, n2, h9, p2, ho, c1, c3, hne, true_and, or_true, Bool.false_eq_true, List.set_cons_succ, List.set_cons_zero, List.cons_append, List.nil_append]
          | false => simp +contextual -implicitDefEqProofs (disch := first | assumption | omega | (simp -implicitDefEqProofs only [go_sem]; try omega)) only [↓reduceIte, go_sem, iP, iN, w64, w8, w32, s_Z6, h1, h2, h3, h4, h5, n1, n2, c1, c3, hne, true_and, or_true, Bool.false_eq_true, and_false, comb_0]
        · simp +contextual -implicitDefEqProofs (disch := first | assumption | omega | (simp -implicitDefEqProofs only [go_sem]; try omega)) only [↓reduceIte, go_sem, iP, iN, w64, w8, w32, s_Z6, h1, h3, h4, n1, c1, c2, c3, true_and, or_false, false_and, and_false, Bool.false_eq_true, comb_0]
    · simp +contextual -implicitDefEqProofs (disch := first | assumption | omega | (simp -implicitDefEqProofs only [go_sem]; try omega)) only [↓reduceIte, go_sem, iP, iN, w64, w8, w32, s_Z6, h1, h3, h4, n1, c1, false_and, Bool.false_eq_true, comb_0]
end
end Go.Proofs.YtkgkmlhljeidhaaGreatDoor
set_option linter.unusedSimpArgs false
set_option linter.unusedVariables false
set_option linter.unusedSectionVars false
namespace Go.Proofs.YtkgkmlhljeidhaaGreatDoor
open Go.Ev
set_option maxRecDepth 100000
set_option maxHeartbeats 8000000
def finA (a b n e : Int) (ok : Bool) : Int × Int × Int × Int := if ok then (if e = 0 then (a, b, n, 0) else (0, 0, 0, e)) else (0, 0, 0, 10)
def behF (L : List Tok) (h : Int × (List UInt8 × Bool) × Int × Int) : Int × Int × Int × Int :=
  if h.2.1.2 = true then finA h.1 (behA L h.2.1.1 h.2.2.1).1.1 (behA L h.2.1.1 h.2.2.1).2.1 (comb h.2.2.2 (behA L h.2.1.1 h.2.2.1).2.2) (behA L h.2.1.1 h.2.2.1).1.2
  else (0, 0, 0, 10)
def parA (L : List Tok) : Int × Int × Int × Int :=
  match fixA (tk L (skS L 0)) with
  | some (x, y, e) => finA x y (skS L 0 + 1) e true
  | none => behF L (headA L (skS L 0))
def parE (x : Int × Int × Int × Int) : V := .tup [.int .i64 x.1, .int .i64 x.2.1, .int .i64 x.2.2.1, errV x.2.2.2]
theorem behA_r {L : List Tok} {r : List UInt8} {a : Int} (hr : r ≠ []) (hr2 : r ≠ [45]) (h : ((r.getD 0 0).toNat : Int) = 45) : 1 < r.length := by
  match r, hr, hr2, h with
  | [x], _, h2, h =>
    exfalso
    apply h2
    have h' : (x.toNat : Int) = 45 := h
    have : x = 45 := UInt8.toNat_inj.1 (by show x.toNat = 45; omega)
    rw [this]
  | x :: y :: z, _, _, _ => simp
section
variable {L : List Tok} (hL : Toks L) (a k : Int)
include hL
theorem d_abeh0 (s : List UInt8) (hs : s.length ≤ 100000000000) : j_Z0_0 (Mi cx) 1 (.ptr 0 0) (.str s) [.cells [.sl (toks L) .no, .int .i64 a, errV k]] =
    some (.tup [.int .i64 (whB s a).1.1, .bool (whB s a).1.2], [.cells [.sl (toks L) .no, .int .i64 (whB s a).2.1, errV (comb k (whB s a).2.2)]]) := by
  have h1 := fun σ hσ => d_pWhole s (by omega) σ hσ
  have h2 := fun τ hτ => d_awhole hL a k s hs τ hτ
  unfold whB
  generalize wS s = x at h1 h2 ⊢
  by_cases c1 : x.2 = 0
  · rw [c1] at h1 h2
    simp +contextual -implicitDefEqProofs (disch := first | assumption | omega | (simp -implicitDefEqProofs only [go_sem]; try omega)) only [↓reduceIte, go_sem, iP, iN, w64, w8, w32, j_Z0_0, h1, h2, c1, true_or, comb_0]
  · have h3 := fun σ hσ => d_over x.2 c1 σ hσ
    by_cases c2 : x.2 = 3
    · rw [c2] at h1 h2 h3
      simp +contextual -implicitDefEqProofs (disch := first | assumption | omega | (simp -implicitDefEqProofs only [go_sem]; try omega)) only [↓reduceIte, go_sem, iP, iN, w64, w8, w32, j_Z0_0, h1, h2, h3, c2, or_true]
    · simp +contextual -implicitDefEqProofs (disch := first | assumption | omega | (simp -implicitDefEqProofs only [go_sem]; try omega)) only [↓reduceIte, go_sem, iP, iN, w64, w8, w32, j_Z0_0, h1, h2, h3, c1, c2, or_false, comb_0]
theorem d_abehind (r : List UInt8) (hr : r.length ≤ 10000000000) (ha : 0 ≤ a ∧ a ≤ (L.length : Int) + 1) : E cx 28 [.ptr 0 0, .str r] [.cells [.sl (toks L) .no, .int .i64 a, errV k]] =
    some (.tup [.int .i64 (behA L r a).1.1, .bool (behA L r a).1.2], [.cells [.sl (toks L) .no, .int .i64 (behA L r a).2.1, errV (comb k (behA L r a).2.2)]]) := by
  have hl := hL.1
  rw [e_Z0]
  unfold behA
  by_cases c1 : r = []
  · subst c1
    have h1 := d_atail hL a k ha
    simp +contextual -implicitDefEqProofs (disch := first | assumption | omega | (simp -implicitDefEqProofs only [go_sem]; try omega)) only [↓reduceIte, go_sem, iP, iN, w64, w8, w32, s_Z0, h1]
  · by_cases c2 : r = [45]
    · subst c2
      have k1 := skS_le L a
      have h1 := fun τ hτ => d_askip hL a k a (by omega) τ hτ
      generalize skS L a = i at k1 h1 ⊢
      have h3 := fun s τ hτ => d_anum hL a k i (by omega) s τ hτ
      have hlt1 : numT L i false = true → i < L.length := numT_lt
      have h4 := fun τ hτ => d_look hL (i + 1) k i (by omega) τ hτ
      have h7 := hL.get i
      generalize tk L i = t at h4 h7 ⊢
      have p1 : ∀ c : UInt8, eB .add .no (.str [c]) (.str t.n) = some (.str (c :: t.n)) := fun c => bs_add (by unfold strMax; simp only [List.length_cons, List.length_nil]; omega)
      have h8 := d_abeh0 hL (i + 1) k (45 :: t.n) (by rw [List.length_cons]; omega)
      cases n1 : numT L i false with
      | true =>
        have := hlt1 n1
        simp +contextual -implicitDefEqProofs (disch := first | assumption | omega | (simp -implicitDefEqProofs only [go_sem]; try omega)) only [↓reduceIte, go_sem, iP, iN, w64, w8, w32, s_Z0, h1, h3, h4, h8, n1, p1, c1, List.set_cons_succ, List.set_cons_zero]
      | false => simp +contextual -implicitDefEqProofs (disch := first | assumption | omega | (simp -implicitDefEqProofs only [go_sem]; try omega)) only [↓reduceIte, go_sem, iP, iN, w64, w8, w32, s_Z0, h1, h3, n1, c1, Bool.false_eq_true, comb_0]
    · have hr0 : 0 < r.length := List.length_pos_iff.2 c1
      by_cases c3 : ((r.getD 0 0).toNat : Int) = 45
      · have hr1 := behA_r (L := L) (a := a) c1 c2 c3
        have h8 := d_abeh0 hL a k r (by omega)
        have h9 := fun σ hσ => d_cDigit ((r.getD 1 0).toNat : Int) σ hσ
        have hb := UInt8.toNat_lt (r.getD 1 0)
        have ix : evIdx (.int .i64 1) (.str r) = some (.int .u8 (r.getD 1 0).toNat) := idx_str (by omega)
        unfold digitB
        cases c4 : (decide (48 ≤ ((r.getD 1 0).toNat : Int)) && decide (((r.getD 1 0).toNat : Int) ≤ 57)) with
        | true =>
          rw [c4] at h9
          simp +contextual -implicitDefEqProofs (disch := first | assumption | omega | (simp -implicitDefEqProofs only [go_sem]; try omega)) only [↓reduceIte, go_sem, iP, iN, w64, w8, w32, s_Z0, h8, h9, c1, c2, c3, ix]
        | false =>
          rw [c4] at h9
          simp +contextual -implicitDefEqProofs (disch := first | assumption | omega | (simp -implicitDefEqProofs only [go_sem]; try omega)) only [↓reduceIte, go_sem, iP, iN, w64, w8, w32, s_Z0, h9, c1, c2, c3, ix, Bool.false_eq_true, comb_0]
      · simp +contextual -implicitDefEqProofs (disch := first | assumption | omega | (simp -implicitDefEqProofs only [go_sem]; try omega)) only [↓reduceIte, go_sem, iP, iN, w64, w8, w32, s_Z0, c1, c2, c3, comb_0]
end
theorem headA_to (L : List Tok) (i : Int) (h : 0 ≤ i ∧ i ≤ L.length) : 0 ≤ (headA L i).2.2.1 ∧ (headA L i).2.2.1 ≤ (L.length : Int) + 1 := by
  unfold headA
  split
  · rename_i hc
    have := tk_k (L := L) (i := i + 1) (by omega)
    show 0 ≤ i + 2 ∧ i + 2 ≤ _; omega
  · repeat' split
    all_goals (show 0 ≤ i + 1 ∧ i + 1 ≤ _; omega)
theorem cutN_len (p name : List UInt8) : (cutN p name).1.length ≤ name.length := by
  unfold cutN
  show (if preB name p then name.drop p.length else name).length ≤ _
  split
  · rw [List.length_drop]; omega
  · exact Nat.le_refl _
theorem headA_len {L : List Tok} (hL : Toks L) (i : Int) : (headA L i).2.1.1.length ≤ 10000000000 := by
  have h1 := (hL.get i).1
  have h2 := (hL.get (i + 1)).1
  have l1 := lowS_len (tk L i).s
  have l2 := lowS_len (tk L (i + 1)).s
  have n1 := cutN_len [110] (lowS (tk L i).s)
  have n2 := cutN_len [45, 110] (lowS (tk L i).s)
  have n3 := cutN_len [110] (lowS (tk L (i + 1)).s)
  unfold headA
  repeat' split
  all_goals first | (show (cutN _ _).1.length ≤ _; omega) | (show ([] : List UInt8).length ≤ _; simp)
theorem d_aParse {L : List Tok} (hL : Toks L) (σ : Objs) (hσ : Wf σ) : E cx 13 [.sl (toks L) .no] σ = some (parE (parA L), σ) := by
  refine E_any cx_cl ?_ (by rw [rbs_cons, toks_rb]; rfl) (by unfold parE; simp only [V.rb, rbs_cons, errV_rb, rbs_nil]; rfl) σ hσ
  have hl := hL.1
  have k1 := skS_le L 0
  have e0 : errV 0 = .nili := rfl
  have h1 := fun τ hτ => d_askip hL 0 0 0 (by omega) τ hτ
  have h10 := fun σ hσ => d_Fail 10 0 σ hσ
  have e10 : failV 10 0 = errV 10 := rfl
  rw [e10] at h10
  have h2 := d_afix hL (skS L 0) 0 (by omega)
  have h3 := d_ahead hL (skS L 0) 0 (by omega)
  have h4 := d_abehind hL (headA L (skS L 0)).2.2.1 (headA L (skS L 0)).2.2.2 (headA L (skS L 0)).2.1.1 (headA_len hL _) (headA_to L _ (by omega))
  have ec : ∀ e, comb 0 e = e := fun e => if_pos rfl
  rw [ec] at h3
  rw [e_Za]
  unfold parA
  generalize skS L 0 = i at k1 h1 h2 h3 h4 ⊢
  rw [e0] at h1 h2 h3
  cases hf : fixA (tk L i) with
  | some x =>
    obtain ⟨x, y, e⟩ := x
    rw [hf] at h2
    simp only [ec] at h2
    unfold finA
    by_cases he : e = 0
    · rw [he, e0] at h2
      simp +contextual -implicitDefEqProofs (disch := first | assumption | omega | (simp -implicitDefEqProofs only [go_sem]; try omega)) only [↓reduceIte, go_sem, iP, iN, w64, w8, w32, s_Za, j_Za_0, h1, h2, he, parE, e0, List.set_cons_succ, List.set_cons_zero]
    · simp +contextual -implicitDefEqProofs (disch := first | assumption | omega | (simp -implicitDefEqProofs only [go_sem]; try omega)) only [↓reduceIte, go_sem, iP, iN, w64, w8, w32, s_Za, j_Za_0, h1, h2, he, parE, List.set_cons_succ, List.set_cons_zero]
  | none =>
    rw [hf] at h2
    simp only [e0] at h2
    unfold behF
    generalize headA L i = h at h3 h4 ⊢
    cases h5 : h.2.1.2 with
    | false =>
      rw [h5] at h3
      simp +contextual -implicitDefEqProofs (disch := first | assumption | omega | (simp -implicitDefEqProofs only [go_sem]; try omega)) only [↓reduceIte, go_sem, iP, iN, w64, w8, w32, s_Za, j_Za_0, h1, h2, h3, h10, parE, Bool.false_eq_true, List.set_cons_succ, List.set_cons_zero]
    | true =>
      rw [h5] at h3
      unfold finA
      generalize behA L h.2.1.1 h.2.2.1 = b at h4 ⊢
      cases h6 : b.1.2 with
      | false =>
        rw [h6] at h4
        simp +contextual -implicitDefEqProofs (disch := first | assumption | omega | (simp -implicitDefEqProofs only [go_sem]; try omega)) only [↓reduceIte, go_sem, iP, iN, w64, w8, w32, s_Za, j_Za_0, h1, h2, h3, h4, h10, parE, Bool.false_eq_true, List.set_cons_succ, List.set_cons_zero]
      | true =>
        rw [h6] at h4
        by_cases he : comb h.2.2.2 b.2.2 = 0
        · rw [he] at h4
          simp +contextual -implicitDefEqProofs (disch := first | assumption | omega | (simp -implicitDefEqProofs only [go_sem]; try omega)) only [↓reduceIte, go_sem, iP, iN, w64, w8, w32, s_Za, j_Za_0, h1, h2, h3, h4, he, e0, parE, List.set_cons_succ, List.set_cons_zero]
        · simp +contextual -implicitDefEqProofs (disch := first | assumption | omega | (simp -implicitDefEqProofs only [go_sem]; try omega)) only [↓reduceIte, go_sem, iP, iN, w64, w8, w32, s_Za, j_Za_0, h1, h2, h3, h4, he, parE, List.set_cons_succ, List.set_cons_zero]
end Go.Proofs.YtkgkmlhljeidhaaGreatDoor
set_option linter.unusedSimpArgs false
set_option linter.unusedVariables false
set_option linter.unusedSectionVars false
namespace Go.Proofs.YtkgkmlhljeidhaaGreatDoor
open Go.Ev
set_option maxRecDepth 100000
theorem dig_isD {b : UInt8} (h : dig8 b) : isD b := by unfold dig8 at h; unfold isD; omega
theorem wlr_some : ∀ (d : List UInt8) (n : Int), (∀ b ∈ d, isD b) → ∃ m, wlr d n = some m
  | [], n, h => ⟨n, rfl⟩
  | b :: r, n, h => by
    unfold wlr
    rw [if_pos (h b (List.mem_cons_self ..))]
    exact wlr_some r _ fun x hx => h x (List.mem_cons_of_mem _ hx)
theorem wlr_none : ∀ (d : List UInt8) (n : Int), digsF d = false → wlr d n = none
  | [], n, h => by cases h
  | b :: r, n, h => by
    unfold wlr
    by_cases hb : isD b
    · rw [if_pos hb]
      apply wlr_none r
      unfold isD at hb
      unfold digsF at h ⊢
      rw [List.all_cons, decide_eq_true hb.1, decide_eq_true hb.2, Bool.true_and, Bool.true_and] at h
      exact h
    · rw [if_neg hb]
theorem digsF_isD {d : List UInt8} (h : digsF d = true) : ∀ b ∈ d, isD b := by
  intro b hb
  unfold digsF at h
  have := List.all_eq_true.1 h b hb
  simp only [Bool.and_eq_true, decide_eq_true_eq] at this
  exact this
theorem wS_dig {s d : List UInt8} (h : unsign s = d) (hne : d ≠ []) (hd : ∀ b ∈ d, isD b) : (wS s).2 = 0 ∨ (wS s).2 = 3 := by
  obtain ⟨m, hm⟩ := wlr_some d 0 hd
  unfold wS
  rw [h, if_neg hne, hm]
  show (if 2147483647 < m then ((0, 3) : Int × Int) else _).2 = 0 ∨ (if 2147483647 < m then ((0, 3) : Int × Int) else _).2 = 3
  split
  · exact .inr rfl
  · exact .inl rfl
theorem unsign_c {c : UInt8} {d : List UInt8} (h : c.toNat = 43 ∨ c.toNat = 45) : unsign (c :: d) = d := if_pos h
theorem unsign_d {d : List UInt8} (hd : ∀ b ∈ d, isD b) : unsign d = d := by
  cases d with
  | nil => rfl
  | cons b r =>
    have := hd b (List.mem_cons_self ..)
    unfold isD at this
    exact if_neg (by omega)
theorem wS_num {n : List UInt8} (h : Num n) : (wS n).2 = 0 ∨ (wS n).2 = 3 := by
  obtain ⟨d, hne, hd, h⟩ := h
  have hd' : ∀ b ∈ d, isD b := fun b hb => dig_isD (hd b hb)
  rcases h with h | h | h
  · rw [h]; exact wS_dig (unsign_d hd') hne hd'
  · rw [h]; exact wS_dig (unsign_c (.inl rfl)) hne hd'
  · rw [h]; exact wS_dig (unsign_c (.inr rfl)) hne hd'
theorem num_un {n : List UInt8} (h : Num n) (hs : sgT n = false) : n ≠ [] ∧ ∀ b ∈ n, isD b := by
  obtain ⟨d, hne, hd, h⟩ := h
  have hd' : ∀ b ∈ d, isD b := fun b hb => dig_isD (hd b hb)
  rcases h with h | h | h
  · rw [h]; exact ⟨hne, hd'⟩
  · rw [h] at hs; cases hs
  · rw [h] at hs; cases hs
def Nums (L : List Tok) : Prop := ∀ i, ((tk L i).k = 10 ∨ (tk L i).k = 12) → (tk L i).w = true → Num (tk L i).n
theorem nums_of {L : List Tok} (h : ∀ t ∈ L, (t.k = 10 ∨ t.k = 12) → t.w = true → Num t.n) : Nums L := by
  intro i hk hw
  unfold tk at hk hw ⊢
  rw [List.getD_eq_getElem?_getD] at hk hw ⊢
  cases hg : L[i.toNat]? with
  | none =>
    rw [hg] at hk
    exact absurd hk (by decide)
  | some t =>
    rw [hg] at hk hw
    exact h t (List.mem_of_getElem? hg) hk hw
theorem numT_is {L : List Tok} (hN : Nums L) {i : Int} {s : Bool} (h : numT L i s = true) : Num (tk L i).n ∧ sgT (tk L i).n = s := by
  unfold numT at h
  simp only [Bool.and_eq_true, decide_eq_true_eq, beq_iff_eq] at h
  exact ⟨hN i (.inl h.1.1.1) h.1.1.2, h.2⟩
theorem pre1 (name : List UInt8) (c : UInt8) : preB name [c] = decide (name ≠ [] ∧ (name.getD 0 0).toNat = c.toNat) := by
  unfold preB
  cases name with
  | nil => simp
  | cons x r =>
    show decide ([x] = [c]) = decide (x :: r ≠ [] ∧ x.toNat = c.toNat)
    rw [decide_eq_decide]
    constructor
    · intro h; injection h with h1 h2; exact ⟨by simp, by rw [h1]⟩
    · intro h; rw [UInt8.toNat_inj.1 h.2]
theorem pre2 (x : UInt8) (r : List UInt8) (hx : x.toNat = 45) : preB (x :: r) [45, 110] = preB r [110] := by
  have : x = 45 := UInt8.toNat_inj.1 hx
  subst this
  unfold preB
  show decide (45 :: r.take 1 = [45, 110]) = decide (r.take 1 = [110])
  rw [decide_eq_decide]
  constructor
  · intro h; injection h
  · intro h; rw [h]
theorem hdS_cut (a name : List UInt8) (to : Int) : hdS a name to = if preB name [110] = true then some (a, name.drop 1, to) else none := by
  rw [pre1]
  unfold hdS
  by_cases h : name = []
  · rw [if_pos h, h]; rfl
  · rw [if_neg h]
    by_cases h2 : ((name.getD 0 0).toNat : Int) = 110
    · rw [if_pos h2, if_pos (decide_eq_true ⟨h, by show _ = 110; omega⟩), List.drop_one]
    · rw [if_neg h2, if_neg (by rw [decide_eq_true_eq]; rintro ⟨_, h3⟩; exact h2 (by have : (110 : UInt8).toNat = 110 := rfl; omega))]
theorem head_eq {L : List Tok} (hN : Nums L) (i : Int) :
    (headS L i = none ∧ (headA L i).2.1.2 = false) ∨ ∃ a r to, headS L i = some (a, r, to) ∧ headA L i = ((wS a).1, (r, true), to, (wS a).2) ∧ ((wS a).2 = 0 ∨ (wS a).2 = 3) := by
  have e1 : wS [49] = (1, 0) := by decide
  have e2 : wS [45, 49] = (-1, 0) := by decide
  unfold headS headA
  by_cases c1 : (tk L i).k = 9 ∧ (tk L i).s = [43] ∧ (tk L (i + 1)).k = 1
  · rw [if_pos c1, if_pos c1, hdS_cut]
    unfold cutN
    cases hp : preB (lowS (tk L (i + 1)).s) [110] with
    | false => exact .inl ⟨rfl, rfl⟩
    | true => exact .inr ⟨_, _, _, rfl, by rw [e1]; rfl, by rw [e1]; exact .inl rfl⟩
  · rw [if_neg c1, if_neg c1]
    by_cases c2 : (tk L i).k = 12
    · have c3 : ¬ (tk L i).k = 1 := by omega
      rw [if_pos c2, if_neg c3, if_pos c2]
      cases hw : (tk L i).w with
      | false => exact .inl ⟨rfl, rfl⟩
      | true =>
        rw [if_pos rfl, if_pos rfl, hdS_cut]
        unfold cutN
        cases hp : preB (lowS (tk L i).s) [110] with
        | false => exact .inl ⟨rfl, rfl⟩
        | true => exact .inr ⟨_, _, _, rfl, rfl, wS_num (hN i (.inr c2) hw)⟩
    · rw [if_neg c2]
      by_cases c3 : (tk L i).k = 1
      · rw [if_neg (show ¬ (tk L i).k ≠ 1 from fun h => h c3), if_pos c3, pre1]
        by_cases c4 : lowS (tk L i).s ≠ [] ∧ (((lowS (tk L i).s).getD 0 0).toNat : Int) = 45
        · rw [if_pos c4, if_pos (decide_eq_true ⟨c4.1, by show _ = 45; omega⟩), hdS_cut]
          obtain ⟨x, r, hx⟩ : ∃ x r, lowS (tk L i).s = x :: r := by
            cases h : lowS (tk L i).s with
            | nil => exact absurd h c4.1
            | cons x r => exact ⟨x, r, rfl⟩
          have hx2 : x.toNat = 45 := by
            have := c4.2
            rw [hx] at this
            have h' : (x.toNat : Int) = 45 := this
            omega
          rw [hx]
          unfold cutN
          rw [pre2 x r hx2, List.tail_cons]
          cases hp : preB r [110] with
          | false => exact .inl ⟨rfl, rfl⟩
          | true => exact .inr ⟨_, _, _, rfl, by rw [e2]; rfl, by rw [e2]; exact .inl rfl⟩
        · rw [if_neg c4, if_neg (by rw [decide_eq_true_eq]; rintro ⟨h1, h3⟩; exact c4 ⟨h1, by have : (45 : UInt8).toNat = 45 := rfl; omega⟩), hdS_cut]
          unfold cutN
          cases hp : preB (lowS (tk L i).s) [110] with
          | false => exact .inl ⟨rfl, rfl⟩
          | true => exact .inr ⟨_, _, _, rfl, by rw [e1]; rfl, by rw [e1]; exact .inl rfl⟩
      · rw [if_pos c3, if_neg c3, if_neg c2]
        exact .inl ⟨rfl, rfl⟩
end Go.Proofs.YtkgkmlhljeidhaaGreatDoor
set_option linter.unusedSimpArgs false
set_option linter.unusedVariables false
set_option linter.unusedSectionVars false
namespace Go.Proofs.YtkgkmlhljeidhaaGreatDoor
open Go.Ev
set_option maxRecDepth 100000
theorem whB_ok {s : List UInt8} {a : Int} (h : (wS s).2 = 0 ∨ (wS s).2 = 3) : whB s a = (((wS s).1, true), a, (wS s).2) := by
  unfold whB
  rw [if_pos h]
theorem num_c {c : UInt8} {n : List UInt8} (hc : c.toNat = 43 ∨ c.toNat = 45) (h : Num n) (hs : sgT n = false) : (wS (c :: n)).2 = 0 ∨ (wS (c :: n)).2 = 3 := by
  have h1 := num_un h hs
  exact wS_dig (unsign_c hc) h1.1 h1.2
theorem tail_eq {L : List Tok} (hN : Nums L) (a r : List UInt8) (to : Int) :
    (tailS L a r to = none ∧ (behA L r to).1.2 = false) ∨ ∃ b n, tailS L a r to = some (a, b, n) ∧ behA L r to = (((wS b).1, true), n, (wS b).2) ∧ ((wS b).2 = 0 ∨ (wS b).2 = 3) := by
  have e1 : wS [48] = (0, 0) := by decide
  unfold tailS behA
  by_cases c1 : r = []
  · rw [if_pos c1, if_pos c1]
    unfold tailA
    right
    by_cases n1 : numT L (skS L to) true = true
    · rw [if_pos n1, if_pos n1]
      exact ⟨_, _, rfl, rfl, wS_num (numT_is hN n1).1⟩
    · rw [if_neg n1, if_neg n1]
      by_cases c2 : (tk L (skS L to)).k = 9 ∧ ((tk L (skS L to)).s = [43] ∨ (tk L (skS L to)).s = [45]) ∧ numT L (skS L (skS L to + 1)) false = true
      · rw [if_pos c2, if_pos c2]
        refine ⟨_, _, rfl, rfl, ?_⟩
        have h1 := numT_is hN c2.2.2
        rcases c2.2.1 with h | h
        · rw [h]; exact num_c (.inl rfl) h1.1 h1.2
        · rw [h]; exact num_c (.inr rfl) h1.1 h1.2
      · rw [if_neg c2, if_neg c2]
        exact ⟨_, _, rfl, by rw [e1], by rw [e1]; exact .inl rfl⟩
  · rw [if_neg c1, if_neg c1]
    by_cases c2 : r = [45]
    · rw [if_pos c2, if_pos c2]
      by_cases n1 : numT L (skS L to) false = true
      · rw [if_pos n1, if_pos n1]
        have h1 := numT_is hN n1
        have h2 := num_c (c := 45) (.inr rfl) h1.1 h1.2
        exact .inr ⟨_, _, rfl, whB_ok h2, h2⟩
      · rw [if_neg n1, if_neg n1]
        exact .inl ⟨rfl, rfl⟩
    · rw [if_neg c2, if_neg c2]
      by_cases c3 : ((r.getD 0 0).toNat : Int) = 45
      · rw [if_pos c3]
        have hl := behA_r (L := L) (a := to) c1 c2 c3
        obtain ⟨x, y, z, hr⟩ : ∃ x y z, r = x :: y :: z := by
          match r, hl with
          | x :: y :: z, _ => exact ⟨x, y, z, rfl⟩
        have hx : x.toNat = 45 := by
          rw [hr] at c3
          have h' : (x.toNat : Int) = 45 := c3
          omega
        have hu : unsign r = y :: z := by rw [hr]; exact unsign_c (.inr hx)
        have ht : r.tail = y :: z := by rw [hr]; rfl
        have hg : r.getD 1 0 = y := by rw [hr]; rfl
        have hd : digsB (y :: z) = digsF (y :: z) := by
          unfold digsB
          rw [decide_eq_true (by simp), Bool.and_true]
        rw [ht, hg, hd]
        cases h1 : digsF (y :: z) with
        | true =>
          have h2 := digsF_isD h1
          have h3 := h2 y (List.mem_cons_self ..)
          have h4 : digitB (y.toNat : Int) = true := by
            unfold isD at h3
            unfold digitB
            rw [decide_eq_true h3.1, decide_eq_true h3.2]; rfl
          have h5 := wS_dig hu (by simp) h2
          rw [if_pos ⟨c3, rfl⟩, if_pos h4]
          exact .inr ⟨_, _, rfl, whB_ok h5, h5⟩
        | false =>
          rw [if_neg (by simp)]
          left
          refine ⟨rfl, ?_⟩
          split
          · have h2 := wlr_none (y :: z) 0 h1
            have h3 : wS r = (0, 10) := by
              unfold wS
              rw [hu, if_neg (by simp), h2]
            unfold whB
            rw [h3, if_neg (by decide)]
          · rfl
      · rw [if_neg c3, if_neg (fun h => c3 h.1)]
        exact .inl ⟨rfl, rfl⟩
theorem par_eq {L : List Tok} (hN : Nums L) : parA L = parS L := by
  have e0 : wS [48] = (0, 0) := by decide
  have e1 : wS [49] = (1, 0) := by decide
  have e2 : wS [50] = (2, 0) := by decide
  unfold parA parS rowS fixA
  by_cases c0 : (L.length : Int) ≤ skS L 0
  · rw [if_pos c0]
    have ht := tk_out c0
    have hh : headA L (skS L 0) = (0, ([], false), skS L 0 + 1, 0) := by
      unfold headA
      rw [ht]; rfl
    rw [ht, if_neg (by decide), if_neg (by decide), if_neg (by decide), hh]
    rfl
  · rw [if_neg c0]
    by_cases c1 : (tk L (skS L 0)).k = 1 ∧ lowS (tk L (skS L 0)).s = [101, 118, 101, 110]
    · rw [if_pos c1, if_pos c1]
      unfold parT
      simp only [e0, e2]
      rfl
    · rw [if_neg c1, if_neg c1]
      by_cases c2 : (tk L (skS L 0)).k = 1 ∧ lowS (tk L (skS L 0)).s = [111, 100, 100]
      · rw [if_pos c2, if_pos c2]
        unfold parT
        simp only [e1, e2]
        rfl
      · rw [if_neg c2, if_neg c2]
        by_cases c3 : (tk L (skS L 0)).k = 10 ∧ (tk L (skS L 0)).w = true
        · rw [if_pos c3, if_pos c3]
          have h1 := wS_num (hN _ (.inl c3.1) c3.2)
          have hp : parT (some ([48], (tk L (skS L 0)).n, skS L 0 + 1)) = if (wS [48]).2 = 0 ∧ (wS (tk L (skS L 0)).n).2 = 0 then ((wS [48]).1, (wS (tk L (skS L 0)).n).1, skS L 0 + 1, 0) else (0, 0, 0, 3) := rfl
          rw [hp, e0]
          unfold finA
          simp only []
          generalize wS (tk L (skS L 0)).n = x at h1 ⊢
          rcases h1 with h1 | h1
          · simp [h1]
          · simp [h1]
        · rw [if_neg c3, if_neg c3]
          rcases head_eq hN (skS L 0) with ⟨h1, h2⟩ | ⟨a, r, to, h1, h2, h3⟩
          · rw [h1]
            unfold behF
            simp only [h2]
            rfl
          · rw [h1]
            unfold behF
            simp only [h2, if_true]
            rcases tail_eq hN a r to with ⟨g1, g2⟩ | ⟨b, n, g1, g2, g3⟩
            · rw [g1]
              unfold finA
              rw [g2]
              rfl
            · have hp : parT (some (a, b, n)) = if (wS a).2 = 0 ∧ (wS b).2 = 0 then ((wS a).1, (wS b).1, n, 0) else (0, 0, 0, 3) := rfl
              rw [g1, g2, hp]
              unfold finA comb
              generalize wS a = x at h3 ⊢
              generalize wS b = y at g3 ⊢
              rcases h3 with h3 | h3
              · rcases g3 with g3 | g3
                · simp [h3, g3]
                · simp [h3, g3]
              · simp [h3]
end Go.Proofs.YtkgkmlhljeidhaaGreatDoor
set_option linter.unusedSimpArgs false
set_option linter.unusedVariables false
namespace Go.Proofs.YtkgkmlhljeidhaaGreatDoor
open Go.Ev
set_option maxRecDepth 100000
theorem d_Kind (k : Int) (σ : Objs) : E cx 18 [errV k] σ = some (.int .i64 k, σ) := by
  rw [E_prim (C := cx) (h := kindP) (by kernel_rfl)]
  unfold errV
  by_cases h : k = 0
  · subst h; rfl
  · rw [if_neg h]; rfl
theorem d_At (k : Int) (h : ¬ k = 0) (σ : Objs) : E cx 19 [errV k] σ = some (.int .i64 0, σ) := by
  rw [E_prim (C := cx) (h := atP) (by kernel_rfl)]
  unfold errV
  rw [if_neg h]; rfl
end Go.Proofs.YtkgkmlhljeidhaaGreatDoor
namespace Go.Proofs.YtkgkmlhljeidhaaGreatDoor
open Go.ChangeShapes Go.WideShapes Go.ChangeAt Go.RowKit
theorem Tryz.ownKnob : ownKnob Tryz.prog.godebug = none := by kernel_rfl
theorem Tryz.laidOut : laidOutB Tryz.prog = true := by kernel_rfl
section
variable {H : Type} {enc : TypeId × Value → H} {P : Program}
theorem trodAll_kept (hl : laidOutB P = true) {W W' : World} {sp : Nat → Bool} : ∀ (ts : List TypeId) (vs : List Value) (ds : List (DataW H)) (ps : List MemPlace),
    (∀ t ∈ ts, P.readableRec t = true ∧ t < P.types.size) → DataW.TrodAll enc P W 0 (fun _ => true) true ts vs ds ps → (∀ p ∈ ps, W.sameAt W' p) → (∀ p ∈ ps, sp p.block = true) →
    DataW.TrodAll enc P W' 0 sp true ts vs ds ps
  | [], _, _, _, _, h, _, _ => by
    obtain ⟨rfl, rfl, rfl⟩ := trodAll_nil h
    exact trodAll_mk0
  | t :: ts, _, _, _, ht, h, h1, h2 => by
    obtain ⟨v, vs', d, ds', p, q, rfl, rfl, rfl, hv, hr⟩ := trodAll_cons h
    have ht0 := ht t (by simp)
    exact trodAll_cons_mk (WideElems.Trod_stays hl ht0.1 ht0.2 hv (fun x hx => h1 x (by simp [hx])) (fun x hx => h2 x (by simp [hx])))
      (trodAll_kept hl ts vs' ds' q (fun t h => ht t (by simp [h])) hr (fun x hx => h1 x (by simp [hx])) (fun x hx => h2 x (by simp [hx])))
theorem law_post {f : Func} {s : ChangeSpec} {tb : TypeId} {W W' : World} {args : Array Value} {ds : List (DataW H)} {before : List MemPlace}
    (hl : laidOutB P = true) (ht : ∀ t ∈ f.params.toList, P.readableRec t = true ∧ t < P.types.size)
    (hW : DataW.Whole enc P f.params.toList s.vars false W args.toList ds [] before) (hv : s.vars = []) (hr : f.resultTypes = #[tb]) (hb : P.underlying tb = some .bool)
    (hfn : s.fn H ds = { results := [.lit (.bool true)], args := ds }) (hbl : Below W.heap.size W W') : s.post enc P f false true false false W args (.bool true) W' := by
  have hlt : ∀ p ∈ before, p.block < W.heap.size := fun p hp => hW.lt p hp
  have hW0 := hW
  obtain ⟨p, q, hA, hV, hpq, hz, hn⟩ := hW
  rw [hv] at hV
  obtain ⟨_, rfl⟩ := trodVars_none hV
  simp only [List.append_nil] at hpq
  subst hpq
  have hfn' : s.fn H (ds ++ []) = { results := [.lit (.bool true)], args := ds } := by rw [List.append_nil]; exact hfn
  have hold : ∀ x ∈ before, (fun b => decide (b < W.heap.size)) x.block = true := fun x hx => by simpa using hlt x hx
  have keep : ∀ sp : Nat → Bool, (∀ x ∈ before, sp x.block = true) → DataW.TrodAll enc P W' 0 sp true f.params.toList args.toList ds before := fun sp hs =>
    trodAll_kept hl _ _ _ _ ht hA (fun x hx => hbl.same (hlt x hx)) hs
  have hres : ∀ (b : Nat) (sp : Nat → Bool) (hd : Bool), DataW.TrodAll enc P W' b sp hd f.resultTypes.toList ((Value.bool true).resultList f.resultTypes.size) (s.fn H (ds ++ [])).results [] := fun b sp hd => by
    rw [hfn', hr]; exact trodAll_mk1 (shut_bool hb true)
  refine ⟨ds, [], before, [], before, [], hW0, hres _ _ _, ?_, ?_, World.keptBut_mono (fun x hx => ⟨hx, Or.inr (Or.inl hx)⟩) (hbl.frame (· ∈ before)), fun h => by cases h⟩
  · rw [hfn']; exact keep _ hold
  · rw [hv, hfn']; rfl
end
end Go.Proofs.YtkgkmlhljeidhaaGreatDoor
set_option linter.unusedSimpArgs false
set_option linter.unusedVariables false
namespace Go.Proofs.YtkgkmlhljeidhaaGreatDoor
open Go.ChangeShapes Go.WideShapes Go.RowKit Go.Ev
def BytesV (x : V) : Prop := x = .nils ∨ ∃ s : List UInt8, x = .sl (ofBytes s) .no
theorem BytesV.ng {x : V} (h : BytesV x) : x.ng = x := by
  rcases h with rfl | ⟨s, rfl⟩ <;> rfl
theorem open_bytesV {H : Type} {enc : TypeId × Value → H} {P : Program} {w : World} {t e : TypeId} {r : Reach} {b0 : Nat} {v : Value} {d : DataW H} {p : List MemPlace} (ht : P.underlying t = some (.slice e)) (he : P.underlying e = some (.int .u8)) (hc : P.cellsOf e = 1)
    (hv : Value.okWide P w r b0 t v) (h : DataW.Trod enc P w 0 (fun _ => true) true t v d p) : ∃ x, BytesV x ∧ Ev.Rep (memOf w) noPlc v x := by
  obtain ⟨a, len, cap, rfl⟩ := okWide_slice ht hv
  obtain ⟨fuel, hf⟩ := h
  rcases open_ints ht he hc hf with ⟨hcs, _⟩ | ⟨a', len', cap', zs, hcs, _, hl, hm, hz, _, hcell, hwf⟩
  · simp only [Value.cells, List.cons.injEq, Value.slice.injEq, and_true] at hcs
    obtain ⟨rfl, rfl, rfl⟩ := hcs
    exact ⟨.nils, .inl rfl, .nils⟩
  · simp only [Value.cells, List.cons.injEq, Value.slice.injEq, and_true] at hcs
    obtain ⟨rfl, rfl, rfl⟩ := hcs
    simp only [if_true] at hz
    have hsp : a'.spot = none := by
      simp only [Value.okWide, ht, Cell.okWide, Cell.ok] at hv
      exact hv.2.2.2.1
    obtain ⟨b, off, spot⟩ := a'
    simp only at hsp
    subst hsp
    have hr : ∀ n ∈ zs, 0 ≤ n ∧ n ≤ 255 := fun n hn => by
      have := hwf n hn
      simpa [Lit.wf, IntKind.min, IntKind.max, IntKind.signed, IntKind.bits] using this
    have hlen : (zs.take len).length = len := by rw [List.length_take]; omega
    refine ⟨.sl (ofBytes ((zs.take len).map putB)) .no, .inr ⟨_, rfl⟩, ?_⟩
    have e1 : ofBytes ((zs.take len).map putB) = (zs.take len).map (V.int .u8) := by
      unfold ofBytes
      rw [List.map_map]
      refine List.map_congr_left fun n hn => ?_
      show V.int .u8 ((putB n).toNat : Int) = V.int .u8 n
      rw [putB_nat (hr n (List.mem_of_mem_take hn))]
    rw [e1]
    have e2 : ((zs.take len).map (V.int .u8)).length = len := by rw [List.length_map, hlen]
    have e3 : ∀ l : List Int, (l.map (V.int .u8)).flatMap V.cells = l.map (V.int .u8) := by
      intro l
      induction l with
      | nil => rfl
      | cons x l ih => rw [List.map_cons, List.flatMap_cons, ih]; rfl
    have key := Ev.Rep.sl (M := memOf w) (ι := noPlc) ((zs.take len).map (V.int .u8)) .no b off cap 1 ((zs.take len).map (Value.int .u8))
      (fun x hx => by obtain ⟨n, _, rfl⟩ := List.mem_map.1 hx; rfl)
      (by rw [e3, List.length_map, List.length_map])
      (fun i u hu => by
        rw [List.getElem?_map, Option.map_eq_some_iff] at hu
        obtain ⟨n, hn, rfl⟩ := hu
        have hi : i < len := by
          have := (List.getElem?_eq_some_iff.1 hn).1
          omega
        have hn2 : zs[i]? = some n := by rw [List.getElem?_take, if_pos hi] at hn; exact hn
        have := hcell i (by omega)
        rw [List.getD_eq_getElem?_getD, hn2] at this
        show w.cell? ⟨b, off + i, none⟩ = _
        rw [addr_add] at this
        exact this)
      (fun i u c hu hc => by
        rw [e3] at hc
        rw [List.getElem?_map, Option.map_eq_some_iff] at hu hc
        obtain ⟨n, hn, rfl⟩ := hu
        obtain ⟨m, hm, rfl⟩ := hc
        rw [hn] at hm
        cases hm
        exact .int _ _)
      (by rw [e2]; exact hl) (fun h => by cases h)
    rw [e2] at key
    exact key
end Go.Proofs.YtkgkmlhljeidhaaGreatDoor
set_option linter.unusedSimpArgs false
set_option linter.unusedVariables false
namespace Go.Proofs.YtkgkmlhljeidhaaGreatDoor
open Go.Ev
set_option maxRecDepth 100000
set_option maxHeartbeats 8000000
theorem readS_toks (b : List UInt8) (hb : b.length ≤ 10000000) : Toks (readS b) ∧ Nums (readS b) := by
  have h := readS_is b (by omega)
  exact ⟨⟨by omega, fun t ht => by have := h.1 t ht; have h1 := this.ls; have h2 := this.ln; omega⟩, nums_of fun t ht => (h.1 t ht).num⟩
theorem d_AnbReads (x : V) (hx : BytesV x) : E cx 6 [x] [] = some (.bool true, []) := by
  rcases hx with rfl | ⟨b, rfl⟩
  · exact E_run treeAnC_ok (k := 1000) (n := 60) (by kernel_rfl)
  · have h0 := d_speaks
    rw [e_Zw]
    by_cases hl : 500 < (b.length : Int)
    · simp +contextual -implicitDefEqProofs (disch := first | assumption | omega | (simp -implicitDefEqProofs only [go_sem]; try omega)) only [↓reduceIte, go_sem, iP, iN, w64, w8, w32, s_Zw, h0]
    · have h1 := d_Read b (by omega) [] wf_nil
      have hT := readS_toks b (by omega)
      have h2 := d_aParse hT.1 [] wf_nil
      have h3 := d_rParse hT.1 [] wf_nil
      rw [par_eq hT.2] at h2
      generalize readS b = L at h1 h2 h3 hT
      generalize parS L = y at h2 h3
      have h4 := d_Kind y.2.2.2 []
      simp only [parE, parV] at h2 h3
      by_cases hk : y.2.2.2 = 0
      · rw [hk] at h2 h3 h4
        simp +contextual -implicitDefEqProofs (disch := first | assumption | omega | (simp -implicitDefEqProofs only [go_sem]; try omega)) only [↓reduceIte, go_sem, iP, iN, w64, w8, w32, s_Zw, h0, h1, h2, h3, h4]
      · have h5 := d_At y.2.2.2 hk []
        simp +contextual -implicitDefEqProofs (disch := first | assumption | omega | (simp -implicitDefEqProofs only [go_sem]; try omega)) only [↓reduceIte, go_sem, iP, iN, w64, w8, w32, s_Zw, h0, h1, h2, h3, h4, h5, hk]
end Go.Proofs.YtkgkmlhljeidhaaGreatDoor
set_option linter.unusedSimpArgs false
set_option linter.unusedVariables false
namespace Go.Proofs.YtkgkmlhljeidhaaGreatDoor
open Go.ChangeShapes Go.WideShapes Go.RowKit Go.Joins
open Go.ChangeMaps (open_string)
theorem Tryz.et : Tryz.prog.globalNamed "errors.errorType" = some 0 := by kernel_rfl
theorem Tryz.rt : (Tryz.prog.cutTypes.find? (fun x => x.1 == "internal/reflectlite.rtype")).map (fun x => x.2) = some 128 := by kernel_rfl
theorem Tryz.oneRow : ((List.range 198).filter fun t => Tryz.prog.rowNamed t [101, 114, 114, 111, 114]) = [27] := by kernel_rfl
theorem Tryz.ntypes : Tryz.prog.types.size = 198 := by kernel_rfl
theorem errVar_of {l : List (String × DataW Unit)} {d : DataW Unit} (hl : (l.filter fun x => x.2.handleName?.isSome) = [("errors.errorType", d)]) (hd : d.handleName? = some [101, 114, 114, 111, 114]) (hf : d.funcsIn? = none) {W : World} (h : laidMetH Tryz.prog l W) : ErrVar W := by
  obtain ⟨_, h'⟩ := laidMetH_iff.1 h
  rw [hl] at h'
  have h2 := h' _ (List.mem_singleton.2 rfl)
  simp only [hf] at h2
  obtain ⟨name, u, ty, e1, e2, e3, e4, e5⟩ := h2
  have en : name = [101, 114, 114, 111, 114] := (Option.some.inj (hd.symm.trans e1)).symm
  subst en
  obtain rfl := Option.some.inj (Tryz.rt.symm.trans e2)
  have hm : ty ∈ (List.range 198).filter fun t => Tryz.prog.rowNamed t [101, 114, 114, 111, 114] := List.mem_filter.2 ⟨List.mem_range.2 (by rw [← Tryz.ntypes]; exact e3), e4⟩
  rw [Tryz.oneRow] at hm
  obtain rfl := List.mem_singleton.1 hm
  have hh : typeHandle Tryz.prog 27 = .pointer (some ⟨7, 27, none⟩) := by kernel_rfl
  rw [hh] at e5
  simpa [ErrVar] using World.var?_cell Tryz.et e5 0
noncomputable def laidWorld (os : Os) (l : List (String × DataW Unit)) : World :=
  let w0 := World.laidAll Tryz.prog os (l.filter fun x => x.2.handleName?.isNone)
  { w0 with heap := w0.heap.modify 0 fun
      | .cells _ t frozen => .cells #[.iface 128 (.agg #[.pointer (some ⟨7, 27, none⟩)])] t frozen
      | o => o }
set_option maxRecDepth 100000 in
theorem anbReads_lifted (os : Os) (started : os.Started) (H : Type) (enc : TypeId × Value → H) :
    ReturnsInHanded {} Tryz.checked os 6 .any (fun w args => (Rows.anbReadsSpec.pre enc Tryz.prog Tryz.f6 [] false w args ∧ laidMetH Tryz.prog Rows.anbReadsRow.laid w) ∧ sizedMet enc Tryz.prog Tryz.f6 (OpenSpec.ofChange Rows.anbReadsSpec) false w args)
      (Rows.anbReadsSpec.post enc Tryz.prog Tryz.f6 false true false false) := by
  refine returnsInHanded_of_change_and (C := Tryz.checked) (X := fun w _ => laidMetH Tryz.prog Rows.anbReadsRow.laid w) (fun _ _ _ hh h => h.of_heap hh) Tryz.ownKnob started (by kernel_rfl) Tryz.func6
    (ChangeSpec.witness_shaped (enc := enc) (C := Tryz.checked) (os := os) (X := fun w _ => laidMetH Tryz.prog Rows.anbReadsRow.laid w) false (laidWorld os Rows.anbReadsRow.laid) #[.slice none 0 0] 8 (World.laidAll_os _ _ _) (World.shaped_of_ZipB (by kernel_rfl) (by kernel_rfl)) (by kernel_rfl) (by kernel_rfl) (by kernel_rfl)
      (laidMetH_of_parts (laidMet_of_run' 8 (by kernel_rfl) (by kernel_rfl)) (by kernel_rfl))) ?_
  intro W base args ds gs before hval0 hW _ _ hL _
  have hval : ∀ (j : Nat) t v, Tryz.f6.params[j]? = some t → args[j]? = some v → Value.okWide Tryz.prog W .any base t v := hval0
  have hW' := hW
  obtain ⟨p, q, hA0, hV0, rfl, hfz, hnd⟩ := hW
  have hA : DataW.TrodAll enc Tryz.prog W 0 (fun _ => true) true Tryz.f6.params.toList args.toList ds p := hA0
  have hV : DataW.TrodVars enc Tryz.prog W (fun _ => true) [] gs q := hV0
  rw [Tryz.params6] at hA hval
  obtain ⟨v0, d0, rfl, rfl, h0⟩ := trodAll_one hA
  obtain ⟨rfl, rfl⟩ := trodVars_none hV
  obtain ⟨x, hx0, hb0⟩ := open_bytesV Tryz.underlying32 Tryz.underlying5 (by kernel_rfl) (hval 0 32 v0 rfl rfl) h0
  clear hA0 hval0
  obtain ⟨nf, hev⟩ := Ev.ev_of_E cx_esc (d_AnbReads x hx0)
  refine (Ev.calls_of_ev (P := Tryz.prog) (by kernel_rfl) cx cx_prim okAnC (F := c_Zw) rfl W (args := [x]) (Ev.Reps.cons (hb0) Ev.Reps.nil) (by intro x hx; simp only [List.mem_cons, List.not_mem_nil, or_false] at hx; (repeat' (rcases hx with rfl | hx)); all_goals first | rfl | (subst hx; rfl) | exact hx0.ng | (subst hx; exact hx0.ng)) ⟨fun _ => .any _, fun p hp => by obtain rfl := List.mem_singleton.1 hp; exact errVar_of (d := Rows.laid_errors_errorType) (by kernel_rfl) (by kernel_rfl) (by kernel_rfl) hL⟩ hev).mono fun e W' ⟨he, hb⟩ => ?_
  subst he
  exact ⟨_, rfl, law_post (tb := 4) Tryz.laidOut (by rw [Tryz.params6]; intro t ht; simp only [List.mem_cons, List.not_mem_nil, or_false] at ht; (repeat' (rcases ht with rfl | ht)); all_goals first | exact ⟨by kernel_rfl, of_decide_eq_true (by kernel_rfl)⟩ | (subst ht; exact ⟨by kernel_rfl, of_decide_eq_true (by kernel_rfl)⟩)) hW' rfl rfl Tryz.underlying4 rfl hb⟩
theorem anbReads_holds : Rows.AnbReadsSaid :=
  OpenClaim.holds_of_wide 6 Tryz.f6 rfl rfl rfl rfl rfl rfl rfl ⟨rfl, rfl, rfl, rfl, rfl⟩ rfl rfl rfl rfl rfl (by kernel_rfl) Tryz.func6 (by kernel_rfl)
    (of_decide_eq_true (by kernel_rfl)) (by unfold Func.isWrapper; rw [if_neg (of_decide_eq_false (by kernel_rfl))]; exact ⟨rfl, rfl⟩)
    (fun os started H enc _ => anbReads_lifted os started H enc)
theorem anbReads_card : Rows.AnbReadsCardSaid :=
  Claim7.holds_tied_plain_at .later [] _ _ _ _
    anbReads_holds (fun _ h => by cases h) (by kernel_rfl) (fun _ h => by cases h) anbReads_row_tie rfl ⟨rfl, rfl⟩ (by kernel_rfl) rfl
    (fun f fn hf hfn => by
      obtain rfl : f = 6 := Option.some.inj ((show Tryz.prog.funcNamed "wattle/wattlelaw04.AnbReads" = some 6 by kernel_rfl).symm.trans hf) |>.symm
      obtain rfl : fn = Tryz.f6 := (Option.some.inj (Tryz.func6.symm.trans hfn)).symm
      exact ⟨by kernel_rfl, fun j t ht => by
        rw [Tryz.params6] at ht
        have hm := Array.mem_of_getElem? ht
        simp only [List.mem_toArray, List.mem_cons, List.not_mem_nil, or_false] at hm
        (repeat' (rcases hm with rfl | hm))
        all_goals first | (subst hm; show Tryz.prog.wantsStandIn _ = false; kernel_rfl) | (show Tryz.prog.wantsStandIn _ = false; kernel_rfl)⟩)
    (by kernel_rfl)
#print axioms anbReads_card
end Go.Proofs.YtkgkmlhljeidhaaGreatDoor
