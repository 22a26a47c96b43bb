/- For any two numbers, any sign and any blanks AnbCases answers true, and its arguments read as they did. Condition: the row's listed variables (tables of Go's library) read as the program's text lays them; the card ties that. -/
import Derived.Test.YtkgkmlhljeidhaaGreatDoorCsd
import Derived.ProofKit
import Derived.Lib.SmallJoins
import Derived.ChangeVars
import Derived.JoinedOf
import Derived.LaidLaws
import Derived.LaidHandle
import Derived.Stop.Joined
import Derived.Lay
import Derived.SevenTiedAt
import Derived.LaidOnce
import Derived.Test.YtkgkmlhljeidhaaGreatDoorTie
import Derived.Test.YtkgkmlhljeidhaaGreatDoorCards
set_option linter.unusedSimpArgs false
set_option linter.unusedVariables false
set_option linter.unusedSectionVars false
namespace Go.Proofs.YtkgkmlhljeidhaaGreatDoor
open Go.Ev
set_option maxRecDepth 100000
set_option maxHeartbeats 4000000
def nxtC (l : List Int) (i : Int) : Tok :=
  if spaceB (l.getD i.toNat 0) then ⟨13, i, spE l (l.length + 1) i, [], [], false⟩
  else if l.getD i.toNat 0 = 34 then quoS l i
  else if l.getD i.toNat 0 = 39 then quoS l i
  else if numB l i then numS l i
  else if l.getD i.toNat 0 = 45 ∧ isB l (i + 1) 45 = true ∧ isB l (i + 2) 62 = true then ⟨15, i, i + 3, [], [], false⟩
  else if nmB l i then calS l i
  else if l.getD i.toNat 0 = 60 ∧ isB l (i + 1) 33 = true ∧ isB l (i + 2) 45 = true ∧ isB l (i + 3) 45 = true then ⟨14, i, i + 4, [], [], false⟩
  else if l.getD i.toNat 0 = 64 ∧ nmB l (i + 1) = true then ⟨3, i, (namesS l (i + 1)).2, (namesS l (i + 1)).1, [], false⟩
  else if l.getD i.toNat 0 = 35 ∧ (inB l (i + 1) = true ∨ escB l (i + 1) = true) then ⟨4, i, (namesS l (i + 1)).2, (namesS l (i + 1)).1, [], nmB l (i + 1)⟩
  else sgnF l i (l.getD i.toNat 0) [(40, 21), (41, 22), (91, 19), (93, 20), (123, 23), (125, 24), (44, 18), (58, 16), (59, 17)]
def nxtS (l : List Int) (a : Int) : Tok := if (l.length : Int) ≤ behS l a then ⟨0, l.length, l.length, [], [], false⟩ else nxtC l (behS l a)
section
variable {l : List Int} (hl : Chs l)
include hl
theorem d_nx1 (a : Int) (ha : 0 ≤ a ∧ a ≤ l.length) : j_Z1j_1 (Mi cx) 0 (.sl (ints l) .no) (.int .i64 a) (.ptr 0 0) [.cells [.int .i64 0, .int .i64 0, .int .i64 0, .str [], .str [], .bool false]] = some ((nxtS l a).v, []) := by
  have hl2 := hl.2
  have hb := behE_pos l (l.length + 1) a ha.2
  rw [← behS] at hb
  have h1 := fun σ hσ => d_behind hl a ha σ hσ
  unfold nxtS
  generalize hgi : behS l a = i at hb h1
  by_cases c0 : (l.length : Int) ≤ i
  · simp +contextual -implicitDefEqProofs (disch := first | assumption | omega | (simp -implicitDefEqProofs only [go_sem]; try omega)) only [↓reduceIte, go_sem, iP, iN, w64, w8, w32, j_Z1j_1, h1, c0, Tok.v]
  · have h2 := fun σ hσ => d_Space (l.getD i.toNat 0) σ hσ
    rw [if_neg c0]
    unfold nxtC
    cases c1 : spaceB (l.getD i.toNat 0) with
    | true =>
      have h3 := d_spc hl i (l.length + 1) i (by omega) (by omega)
      simp +contextual -implicitDefEqProofs (disch := first | assumption | omega | (simp -implicitDefEqProofs only [go_sem]; try omega)) only [↓reduceIte, go_sem, iP, iN, w64, w8, w32, j_Z1j_1, h1, h2, h3, c0, c1, Tok.v]
    | false =>
      have h4 := fun σ hσ => d_quoted hl i (by omega) σ hσ
      have h5 := fun σ hσ => d_number hl i (by omega) σ hσ
      have h6 := fun σ hσ => d_numeric hl i (by omega) σ hσ
      have h7 := fun σ hσ => d_is hl (i := i + 1) (by omega) σ hσ 45
      have h8 := fun σ hσ => d_is hl (i := i + 2) (by omega) σ hσ 62
      have h9 := fun σ hσ => d_rName hl (i := i) (by omega) σ hσ
      have hA := fun σ hσ => d_called hl i (by omega) σ hσ
      have hB := fun σ hσ => d_is hl (i := i + 1) (by omega) σ hσ 33
      have hC := fun σ hσ => d_is hl (i := i + 2) (by omega) σ hσ 45
      have hD := fun σ hσ => d_is hl (i := i + 3) (by omega) σ hσ 45
      have hE := fun σ hσ => d_rName hl (i := i + 1) (by omega) σ hσ
      have hF := fun σ hσ => d_names l hl (i + 1) (by omega) σ hσ
      have hG := fun σ hσ => d_inner hl (i := i + 1) (by omega) σ hσ
      have hH := fun σ hσ => d_Escape hl (i := i + 1) (by omega) σ hσ
      have hS := fun c => d_sgn0 hl i c (by omega)
      generalize hgc : l.getD i.toNat 0 = c at h2 c1 ⊢
      by_cases c2 : c = 34
      · subst c2
        simp +contextual -implicitDefEqProofs (disch := first | assumption | omega | (simp -implicitDefEqProofs only [go_sem]; try omega)) only [↓reduceIte, go_sem, iP, iN, w64, w8, w32, j_Z1j_1, hgc, h1, h2, c0, c1, h4, Tok.v]
      by_cases c3 : c = 39
      · subst c3
        simp +contextual -implicitDefEqProofs (disch := first | assumption | omega | (simp -implicitDefEqProofs only [go_sem]; try omega)) only [↓reduceIte, go_sem, iP, iN, w64, w8, w32, j_Z1j_1, hgc, h1, h2, c0, c1, h4, Tok.v]
      cases c4 : numB l i with
      | true =>
        simp +contextual -implicitDefEqProofs (disch := first | assumption | omega | (simp -implicitDefEqProofs only [go_sem]; try omega)) only [↓reduceIte, go_sem, iP, iN, w64, w8, w32, j_Z1j_1, hgc, h1, h2, c0, c1, c2, c3, h5, c4, h6, Tok.v]
      | false =>
      by_cases c5 : c = 45
      · subst c5
        cases c6 : isB l (i + 1) 45 <;> cases c7 : isB l (i + 2) 62 <;> cases c8 : nmB l i <;> simp +contextual -implicitDefEqProofs (disch := first | assumption | omega | (simp -implicitDefEqProofs only [go_sem]; try omega)) only [↓reduceIte, go_sem, iP, iN, w64, w8, w32, j_Z1j_1, hgc, h1, h2, c0, c1, h5, c4, h7, h8, h9, hA, hS, c6, c7, c8, Tok.v]
      cases c8 : nmB l i with
      | true =>
        simp +contextual -implicitDefEqProofs (disch := first | assumption | omega | (simp -implicitDefEqProofs only [go_sem]; try omega)) only [↓reduceIte, go_sem, iP, iN, w64, w8, w32, j_Z1j_1, hgc, h1, h2, c0, c1, c2, c3, h5, c4, c5, h9, c8, hA, Tok.v]
      | false =>
      by_cases c9 : c = 60
      · subst c9
        cases cA : isB l (i + 1) 33 <;> cases cB : isB l (i + 2) 45 <;> cases cC : isB l (i + 3) 45 <;> simp +contextual -implicitDefEqProofs (disch := first | assumption | omega | (simp -implicitDefEqProofs only [go_sem]; try omega)) only [↓reduceIte, go_sem, iP, iN, w64, w8, w32, j_Z1j_1, hgc, h1, h2, c0, c1, h5, c4, h9, c8, hB, hC, hD, hS, cA, cB, cC, Tok.v]
      by_cases cD : c = 64
      · subst cD
        cases cE : nmB l (i + 1) <;> simp +contextual -implicitDefEqProofs (disch := first | assumption | omega | (simp -implicitDefEqProofs only [go_sem]; try omega)) only [↓reduceIte, go_sem, iP, iN, w64, w8, w32, j_Z1j_1, hgc, h1, h2, c0, c1, h5, c4, h9, c8, hE, hF, hS, cE, Tok.v]
      by_cases cF : c = 35
      · subst cF
        cases cG : inB l (i + 1) <;> cases cH : escB l (i + 1) <;> simp +contextual -implicitDefEqProofs (disch := first | assumption | omega | (simp -implicitDefEqProofs only [go_sem]; try omega)) only [↓reduceIte, go_sem, iP, iN, w64, w8, w32, j_Z1j_1, hgc, h1, h2, c0, c1, h5, c4, h9, c8, hE, hF, hG, hH, hS, cG, cH, Tok.v]
      simp +contextual -implicitDefEqProofs (disch := first | assumption | omega | (simp -implicitDefEqProofs only [go_sem]; try omega)) only [↓reduceIte, go_sem, iP, iN, w64, w8, w32, j_Z1j_1, hgc, h1, h2, c0, c1, c2, c3, h5, c4, c5, h9, c8, c9, cD, cF, hS, Tok.v]
theorem d_Next (a : Int) (ha : 0 ≤ a ∧ a ≤ l.length) (σ : Objs) (hσ : Wf σ) : E cx 50 [.sl (ints l) .no, .int .i64 a] σ = some ((nxtS l a).v, σ) := by
  refine E_any cx_cl ?_ (by rw [rbs_cons, ints_rb]; rfl) rfl σ hσ
  have hl2 := hl.2
  have h := d_nx1 hl a ha
  rw [e_Z1j]
  simp +contextual -implicitDefEqProofs (disch := first | assumption | omega | (simp -implicitDefEqProofs only [go_sem]; try omega)) only [↓reduceIte, go_sem, iP, iN, w64, w8, w32, s_Z1j, j_Z1j_0, h]
end
end Go.Proofs.YtkgkmlhljeidhaaGreatDoor
set_option linter.unusedSimpArgs false
set_option linter.unusedVariables false
set_option linter.unusedSectionVars false
namespace Go.Proofs.YtkgkmlhljeidhaaGreatDoor
open Go.Ev
set_option maxRecDepth 100000
set_option maxHeartbeats 4000000
def allF (l : List Int) : Nat → Int → List Tok
  | 0, a => []
  | f + 1, a => if (nxtS l a).k = 0 then [nxtS l a] else nxtS l a :: allF l f (nxtS l a).t
def allS (l : List Int) : List Tok := allF l (l.length + 1) 0
def Goes (l : List Int) : Prop := ∀ a : Int, 0 ≤ a ∧ a ≤ l.length → (nxtS l a).k = 0 ∨ a < (nxtS l a).t ∧ (nxtS l a).t ≤ l.length
def toks (l : List Tok) : List V := l.map Tok.v
theorem rbs_toks {n : Nat} {l : List Tok} : V.rbs n (toks l) = true := rbs_map fun _ => rfl
attribute [go_sem] rbs_toks
theorem app_tok {l : List Tok} {x : Tok} {c c' : Cap} {σ : Objs} (hc : c = .fx ∨ c = .gr 6) (hl : (l.length + 1) * 64 ≤ rowMax) : appV false true 6 64 σ (.sl (toks l) c) (.sl [x.v] c') = some (.sl (toks (l ++ [x])) (.gr 6)) :=
  app_map (f := Tok.v) (m := [x]) (fun _ => rfl) (fun _ => rfl) (fun _ => rfl) hc (by simp) hl
section
variable {l : List Int} (hl : Chs l) (hP : Goes l)
include hl hP
theorem d_all0 : ∀ (f : Nat) (a : Int) (out : List Tok) (cap : Cap), (l.length : Int) - a < f → 0 ≤ a ∧ a ≤ l.length → (cap = .fx ∨ cap = .gr 6) → (out.length : Int) ≤ a →
    l_Z1g_0 (Mi cx) 0 0 [.sl (ints l) .no, .sl (toks out) cap, .int .i64 a] [] = some (.sl (toks (out ++ allF l f a)) .no, [])
  | 0, a, out, cap, hf, ha, hc, ho => by omega
  | f + 1, a, out, cap, hf, ha, hc, ho => by
    have hl2 := hl.2
    have hm : rowMax = 140737488355328 := rfl
    have h1 := d_Next hl a ha [] wf_nil
    have hp := hP a ha
    unfold allF
    generalize nxtS l a = t at h1 hp ⊢
    have h2 := fun σ => app_tok (l := out) (x := t) (c := cap) (c' := .no) (σ := σ) hc (by omega)
    have hr : ∀ n, V.rbs n (toks (out ++ [t])) = true := fun n => rbs_toks
    rw [u_Z1g_0]
    by_cases hk : t.k = 0
    · rw [if_pos hk]
      simp only [Tok.v, hk] at h1 h2
      simp +contextual -implicitDefEqProofs (disch := first | assumption | omega | (simp -implicitDefEqProofs only [go_sem]; try omega)) only [↓reduceIte, go_sem, iP, iN, w64, w8, w32, b_Z1g_0, h1, h2, hr]
    · have ih := d_all0 f t.t (out ++ [t]) (.gr 6) (by omega) (by omega) (.inr rfl) (by simp; omega)
      rw [if_neg hk]
      rw [List.append_assoc] at ih
      simp only [Tok.v] at h1 h2
      simp +contextual -implicitDefEqProofs (disch := first | assumption | omega | (simp -implicitDefEqProofs only [go_sem]; try omega)) only [↓reduceIte, go_sem, iP, iN, w64, w8, w32, b_Z1g_0, h1, h2, hk, hr, ih]
end
end Go.Proofs.YtkgkmlhljeidhaaGreatDoor
set_option linter.unusedSimpArgs false
set_option linter.unusedVariables false
set_option linter.unusedSectionVars false
namespace Go.Proofs.YtkgkmlhljeidhaaGreatDoor
open Go.Ev
set_option maxRecDepth 100000
def dig8 (b : UInt8) : Prop := 48 ≤ b.toNat ∧ b.toNat ≤ 57
def Num (n : List UInt8) : Prop := ∃ d : List UInt8, d ≠ [] ∧ (∀ b ∈ d, dig8 b) ∧ (n = d ∨ n = 43 :: d ∨ n = 45 :: d)
structure TokOk (l : List Int) (i : Int) (t : Tok) : Prop where
  lo : t.k = 0 ∨ i < t.t
  hi : t.t ≤ l.length
  ls : t.s.length ≤ 4 * l.length
  ln : t.n.length ≤ 4 * l.length
  num : (t.k = 10 ∨ t.k = 12) → t.w = true → Num t.n
theorem cutL_cons (l : List Int) (a b : Int) (ha : 0 ≤ a ∧ a < b ∧ b ≤ l.length) : cutL l a b = l.getD a.toNat 0 :: cutL l (a + 1) b := by
  have h1 : a.toNat < l.length := by omega
  have e1 : (a + 1).toNat = a.toNat + 1 := by omega
  have e2 : b.toNat - a.toNat = (b.toNat - (a.toNat + 1)) + 1 := by omega
  unfold cutL
  rw [List.drop_eq_getElem_cons h1, e2, List.take_succ_cons, e1, List.getD_eq_getElem?_getD, List.getElem?_eq_getElem h1]
  rfl
theorem cutL_len (l : List Int) (a b : Int) : (cutL l a b).length ≤ l.length := by
  simp only [cutL, List.length_take, List.length_drop]; omega
theorem textS_cons (c : Int) (l : List Int) (h : 1 ≤ c ∧ c ≤ 127) : textS (c :: l) = putB c :: textS l := by
  have e : nz c = c := if_neg (by omega)
  have e2 : rightB c = true := by
    unfold rightB
    simp only [Bool.and_eq_true, Bool.or_eq_true, decide_eq_true_eq]
    omega
  unfold textS
  rw [List.map_cons, textR_cons, e, e2, if_pos rfl]
  unfold putS
  rw [if_pos (by omega)]
  rfl
theorem textS_dig (l : List Int) : ∀ (n : Nat) (a b : Int), b - a = n → 0 ≤ a ∧ b ≤ l.length → (∀ j, a ≤ j → j < b → dgB l j = true) →
    (textS (cutL l a b)).length = n ∧ ∀ x ∈ textS (cutL l a b), dig8 x
  | 0, a, b, hn, hb, hd => by
    have e : cutL l a b = [] := by
      unfold cutL
      rw [show b.toNat - a.toNat = 0 by omega, List.take_zero]
    rw [e]
    exact ⟨rfl, fun x hx => absurd hx (List.not_mem_nil)⟩
  | n + 1, a, b, hn, hb, hd => by
    have h1 := hd a (Int.le_refl _) (by omega)
    have h2 : 48 ≤ l.getD a.toNat 0 ∧ l.getD a.toNat 0 ≤ 57 := by
      unfold dgB digitB at h1
      simp only [Bool.and_eq_true, decide_eq_true_eq] at h1
      omega
    have ih := textS_dig l n (a + 1) b (by omega) (by omega) (fun j hj => hd j (by omega))
    rw [cutL_cons l a b (by omega), textS_cons _ _ (by omega)]
    refine ⟨by rw [List.length_cons, ih.1], fun x hx => ?_⟩
    rcases List.mem_cons.1 hx with hx | hx
    · have := putB_nat (x := l.getD a.toNat 0) (by omega)
      rw [← hx] at this
      unfold dig8; omega
    · exact ih.2 x hx
theorem dgE_all (l : List Int) : ∀ (f : Nat) (a j : Int), a ≤ j → j < dgE l f a → dgB l j = true
  | 0, a, j, h, h2 => by unfold dgE at h2; omega
  | f + 1, a, j, h, h2 => by
    unfold dgE at h2
    split at h2
    · rename_i hd
      by_cases e : j = a
      · rw [e]; exact hd
      · exact dgE_all l f (a + 1) j (by omega) h2
    · omega
theorem dE_gt (l : List Int) (a : Int) (h : dgB l a = true) : a < dE l a := by
  have h1 := dgB_lt h
  have h2 := dgE_pos l l.length (a + 1) (by omega)
  have e : dE l a = dgE l l.length (a + 1) := by
    unfold dE
    show (if dgB l a then dgE l l.length (a + 1) else a) = _
    rw [if_pos h]
  omega
theorem dE_no (l : List Int) (a : Int) (h : dgB l a = false) : dE l a = a := by
  unfold dE
  show (if dgB l a then dgE l l.length (a + 1) else a) = _
  rw [h]; rfl
theorem digS_gt (l : List Int) (a : Int) (h : numB l a = true) (ha : a ≤ l.length) : a < (digS l a).1 := by
  have h1 := sg_pos l a
  have h2 := dE_pos l (sg l a) (by omega)
  have h3 := fracS_pos l (dE l (sg l a)) true h2.2
  unfold digS
  cases hd : dgB l (sg l a) with
  | true => have := dE_gt l (sg l a) hd; omega
  | false =>
    unfold numB at h
    rw [hd, Bool.false_or] at h
    have e := dE_no l (sg l a) hd
    rw [e] at h3 ⊢
    have h4 := dgB_lt (Bool.and_eq_true _ _ ▸ h).2
    unfold fracS
    rw [h, if_pos rfl]
    have h5 := dE_pos l (sg l a + 1) (by omega)
    have h6 := expS_pos l (dE l (sg l a + 1)) false h5.2
    omega
theorem expS_w (l : List Int) (a : Int) (w : Bool) (h : (expS l a w).2 = true) : (expS l a w).1 = a ∧ w = true := by
  unfold expS at h ⊢
  split at h
  · rename_i h1
    split at h
    · exact absurd h (by simp)
    · rename_i h2
      rw [if_neg h2]; simp at h; split <;> exact ⟨rfl, h⟩
  · rename_i h1
    rw [if_neg h1]; exact ⟨rfl, h⟩
theorem digS_whole (l : List Int) (a : Int) (h : numB l a = true) (hw : (digS l a).2 = true) : (digS l a).1 = dE l (sg l a) ∧ dgB l (sg l a) = true := by
  unfold digS fracS at hw ⊢
  cases hf : (isB l (dE l (sg l a)) 46 && dgB l (dE l (sg l a) + 1)) with
  | true =>
    rw [hf, if_pos rfl] at hw
    exact absurd (expS_w _ _ _ hw).2 (by simp)
  | false =>
    rw [hf] at hw
    have h1 := expS_w _ _ _ hw
    refine ⟨h1.1, ?_⟩
    cases hd : dgB l (sg l a) with
    | true => rfl
    | false =>
      exfalso
      unfold numB at h
      rw [hd, Bool.false_or] at h
      rw [dE_no l _ hd, h] at hf
      cases hf
theorem num_ok (l : List Int) (a : Int) (h : numB l a = true) (hw : (digS l a).2 = true) (ha : 0 ≤ a ∧ a ≤ l.length) : Num (textS (cutL l a (digS l a).1)) := by
  have h1 := digS_whole l a h hw
  have h2 := sg_pos l a
  have h3 := dE_pos l (sg l a) (by omega)
  have h4 := dE_gt l (sg l a) h1.2
  rw [h1.1]
  have h5 := textS_dig l (dE l (sg l a) - sg l a).toNat (sg l a) (dE l (sg l a)) (by omega) (by omega) (fun j hj hj2 => dgE_all l (l.length + 1) (sg l a) j hj hj2)
  refine ⟨textS (cutL l (sg l a) (dE l (sg l a))), fun e => ?_, h5.2, ?_⟩
  · rw [e] at h5
    have := h5.1
    simp only [List.length_nil] at this
    omega
  · cases hs : sgB l a with
    | false =>
      have e : sg l a = a := by unfold sg; rw [hs]; rfl
      rw [e]; exact .inl rfl
    | true =>
      have e : sg l a = a + 1 := by unfold sg; rw [hs]; rfl
      rw [e] at h3 h4 ⊢
      right
      have hc : l.getD a.toNat 0 = 43 ∨ l.getD a.toNat 0 = 45 := by
        unfold sgB isB at hs
        simp only [Bool.or_eq_true, Bool.and_eq_true, decide_eq_true_eq] at hs
        rcases hs with hs | hs
        · exact .inl hs.2
        · exact .inr hs.2
      rw [cutL_cons l a _ (by omega), textS_cons _ _ (by omega)]
      rcases hc with hc | hc
      · left; rw [hc]; rfl
      · right; rw [hc]; rfl
theorem numS_ok (l : List Int) (a : Int) (h : numB l a = true) (ha : 0 ≤ a ∧ a ≤ l.length) : TokOk l a (numS l a) := by
  have h1 := digS_gt l a h ha.2
  have h2 := digS_pos l a ha.2
  have h3 := textS_len (cutL l a (digS l a).1)
  have h4 := cutL_len l a (digS l a).1
  have h5 := namesS_pos l (digS l a).1 (by omega)
  have h6 := fun hw => num_ok l a h hw ha
  unfold numS
  split
  · exact ⟨.inr (show a < (namesS l (digS l a).1).2 by omega), h5.2.1, h5.2.2, show (textS _).length ≤ _ by omega, fun _ hw => h6 hw⟩
  · split
    · rename_i hi
      have := isB_lt hi
      exact ⟨.inr (show a < (digS l a).1 + 1 by omega), show (digS l a).1 + 1 ≤ _ by omega, Nat.zero_le _, show (textS _).length ≤ _ by omega, fun hk => by simp at hk⟩
    · exact ⟨.inr h1, h2.2, Nat.zero_le _, show (textS _).length ≤ _ by omega, fun _ hw => h6 hw⟩
theorem tok_ok (l : List Int) (i : Int) (k f t : Int) (s : List UInt8) (w : Bool) (h1 : i < t) (h2 : t ≤ l.length) (h3 : s.length ≤ 4 * l.length) (h4 : k ≠ 10 ∧ k ≠ 12) : TokOk l i ⟨k, f, t, s, [], w⟩ :=
  ⟨.inr h1, h2, h3, Nat.zero_le _, fun h => absurd h (by simp only []; omega)⟩
theorem tif {l : List Int} {i : Int} {c : Prop} [Decidable c] {x y : Tok} (h1 : c → TokOk l i x) (h2 : ¬ c → TokOk l i y) : TokOk l i (if c then x else y) := by
  by_cases h : c
  · rw [if_pos h]; exact h1 h
  · rw [if_neg h]; exact h2 h
theorem rest_ok (l : List Int) (i fr k : Int) (h : i < k ∧ k ≤ l.length) : TokOk l i (restS l fr k) := by
  have h1 := rstE_pos l (l.length + 1) k h.2
  unfold restS rstF
  refine tok_ok _ _ _ _ _ _ _ ?_ ?_ (Nat.zero_le _) (by omega)
  · split <;> omega
  · split <;> omega
theorem txt_ok (l : List Int) (out : List Int) (h : (out.length : Int) ≤ l.length) : (textS out).length ≤ 4 * l.length := by
  have := textS_len out
  omega
theorem url_ok (l : List Int) (i0 fr : Int) (h0 : 0 ≤ i0) : ∀ (f : Nat) (i : Int) (out : List Int), i0 < i ∧ i ≤ l.length → (out.length : Int) ≤ i → TokOk l i0 (urlF l fr f i out)
  | 0, i, out, hi, ho => rest_ok l i0 fr i hi
  | f + 1, i, out, hi, ho => by
    have h1 := spE_pos l (l.length + 1) i hi.2
    have h2 := txt_ok l out (by omega)
    unfold urlF urlC
    generalize spE l (l.length + 1) i = k at h1
    have h3 := rest_ok l i0 fr k (by omega)
    refine tif (fun c => tok_ok _ _ _ _ _ _ _ (by omega) (by omega) h2 (by omega)) fun c0 => ?_
    refine tif (fun c => tok_ok _ _ _ _ _ _ _ (by omega) (by omega) h2 (by omega)) fun c1 => ?_
    refine tif (fun c => h3) fun c2 => ?_
    refine tif (fun c => h3) fun c3 => ?_
    refine tif (fun c => h3) fun c4 => ?_
    refine tif (fun c => h3) fun c5 => ?_
    refine tif (fun c => h3) fun c6 => ?_
    refine tif (fun c => tif (fun he => ?_) fun _ => h3) fun c7 => ?_
    · have hv := valS_pos l k (escB_lt he)
      exact url_ok l i0 fr h0 f _ _ (by omega) (by simp; omega)
    · exact url_ok l i0 fr h0 f _ _ (by omega) (by simp; omega)
theorem quo_ok (l : List Int) (i0 fr m : Int) (h0 : 0 ≤ i0) : ∀ (f : Nat) (i : Int) (out : List Int), (l.length : Int) - i < f → i0 < i ∧ i ≤ l.length → (out.length : Int) ≤ i → TokOk l i0 (quoF l fr m f i out)
  | 0, i, out, hf, hi, ho => by omega
  | f + 1, i, out, hf, hi, ho => by
    have h2 := txt_ok l out (by omega)
    unfold quoF
    refine tif (fun c => tok_ok _ _ _ _ _ _ _ (by omega) (by omega) h2 (by omega)) fun c0 => ?_
    refine tif (fun c => tok_ok _ _ _ _ _ _ _ (by omega) (by omega) h2 (by omega)) fun c1 => ?_
    refine tif (fun c => tok_ok _ _ _ _ _ _ _ (by omega) (by omega) (Nat.zero_le _) (by omega)) fun c2 => ?_
    refine tif (fun c => quo_ok l i0 fr m h0 f _ _ (by omega) (by omega) (by simp; omega)) fun c3 => ?_
    refine tif (fun c => quo_ok l i0 fr m h0 f _ _ (by omega) (by omega) (by omega)) fun c4 => ?_
    refine tif (fun c => quo_ok l i0 fr m h0 f _ _ (by omega) (by omega) (by omega)) fun c5 => ?_
    have hv := valS_pos l i (by omega)
    exact quo_ok l i0 fr m h0 f _ _ (by omega) (by omega) (by simp; omega)
theorem nm_gt (l : List Int) (i : Int) (h0 : 0 ≤ i) (h : inB l i = true ∨ escB l i = true) : i < (namesS l i).2 := by
  show i < (namesF l (l.length + 1) i []).2
  unfold namesF
  split
  · rename_i hc
    have h1 := inB_lt hc
    have h2 := namesF_pos l l.length (i + 1) ([] ++ [l.getD i.toNat 0]) (by omega) (by simp; omega)
    omega
  · split
    · rename_i hc
      have h1 := valS_pos l i (escB_lt hc)
      have h2 := namesF_pos l l.length (valS l i).2 ([] ++ [(valS l i).1]) (by omega) (by simp; omega)
      omega
    · rename_i h1 h2
      rcases h with h | h
      · exact absurd h h1
      · exact absurd h h2
theorem nm_in (l : List Int) (i : Int) (h : nmB l i = true) : inB l i = true ∨ escB l i = true := by
  unfold nmB at h
  split at h
  · rename_i h1
    left
    unfold isB at h1
    simp only [Bool.and_eq_true, decide_eq_true_eq] at h1
    unfold inB nameB
    rw [h1.2]
    simp [h1.1]
  · rcases (Bool.or_eq_true _ _).mp h with h | h
    · left
      unfold stB at h
      unfold inB nameB
      simp only [Bool.and_eq_true, decide_eq_true_eq] at h
      rw [h.2, Bool.true_or, Bool.true_or, Bool.and_true]
      exact decide_eq_true h.1
    · exact .inr h
theorem cal_ok (l : List Int) (i : Int) (h : nmB l i = true) (hi : 0 ≤ i ∧ i ≤ l.length) : TokOk l i (calS l i) := by
  have h1 := nm_gt l i hi.1 (nm_in l i h)
  have h2 := namesS_pos l i hi
  unfold calS
  split
  · rename_i hc
    have h3 := isB_lt hc
    have h4 := spE_pos l (l.length + 1) ((namesS l i).2 + 1) (by omega)
    unfold calC
    split
    · exact url_ok l i i hi.1 _ _ _ (by omega) (by simp; omega)
    · exact tok_ok _ _ _ _ _ _ _ (by omega) (by omega) h2.2.2 (by omega)
  · exact tok_ok _ _ _ _ _ _ _ (by omega) (by omega) h2.2.2 (by omega)
theorem sgn_ok (l : List Int) (i c : Int) (h : 0 ≤ i ∧ i < l.length) : ∀ r : List (Int × Int), (∀ x ∈ r, x.2 ≠ 10 ∧ x.2 ≠ 12) → TokOk l i (sgnF l i c r)
  | [], hr => by
    have h1 := txt_ok l (cutL l i (i + 1)) (by have := cutL_len l i (i + 1); omega)
    unfold sgnF
    exact tok_ok _ _ _ _ _ _ _ (by omega) (by omega) h1 (by omega)
  | (s, k) :: r, hr => by
    unfold sgnF
    split
    · exact tok_ok _ _ _ _ _ _ _ (by omega) (by omega) (Nat.zero_le _) (hr (s, k) (List.mem_cons_self ..))
    · exact sgn_ok l i c h r fun x hx => hr x (List.mem_cons_of_mem _ hx)
theorem nxtC_ok (l : List Int) (i : Int) (h : 0 ≤ i ∧ i < l.length) : TokOk l i (nxtC l i) := by
  unfold nxtC
  have hq : TokOk l i (quoS l i) := quo_ok l i i _ h.1 _ _ _ (by omega) (by omega) (by simp; omega)
  refine tif (fun hc => ?_) fun c0 => ?_
  · have h1 : spB l i = true := by unfold spB; rw [hc, Bool.and_true]; exact decide_eq_true h.2
    have h2 := spE_pos l l.length (i + 1) (by omega)
    have e : spE l (l.length + 1) i = spE l l.length (i + 1) := by
      show (if spB l i then spE l l.length (i + 1) else i) = _
      rw [if_pos h1]
    rw [e]
    exact tok_ok _ _ _ _ _ _ _ (by omega) (by omega) (Nat.zero_le _) (by omega)
  · refine tif (fun hc => hq) fun c1 => ?_
    refine tif (fun hc => hq) fun c2 => ?_
    refine tif (fun hc => numS_ok l i hc (by omega)) fun c3 => ?_
    refine tif (fun hc => ?_) fun c4 => ?_
    · have := isB_lt hc.2.2
      exact tok_ok _ _ _ _ _ _ _ (by omega) (by omega) (Nat.zero_le _) (by omega)
    refine tif (fun hc => cal_ok l i hc (by omega)) fun c5 => ?_
    refine tif (fun hc => ?_) fun c6 => ?_
    · have := isB_lt hc.2.2.2
      exact tok_ok _ _ _ _ _ _ _ (by omega) (by omega) (Nat.zero_le _) (by omega)
    have h2 := namesS_pos l (i + 1) (by omega)
    refine tif (fun hc => tok_ok _ _ _ _ _ _ _ (by omega) (by omega) h2.2.2 (by omega)) fun c7 => ?_
    refine tif (fun hc => tok_ok _ _ _ _ _ _ _ (by omega) (by omega) h2.2.2 (by omega)) fun c8 => ?_
    exact sgn_ok l i _ h _ (by decide)
theorem nxtS_ok (l : List Int) (a : Int) (h : 0 ≤ a ∧ a ≤ l.length) : TokOk l a (nxtS l a) := by
  have h1 := behE_pos l (l.length + 1) a h.2
  rw [← behS] at h1
  unfold nxtS
  split
  · exact ⟨.inl rfl, Int.le_refl _, Nat.zero_le _, Nat.zero_le _, fun h => by simp at h⟩
  · have h2 := nxtC_ok l (behS l a) (by omega)
    refine ⟨?_, h2.hi, h2.ls, h2.ln, h2.num⟩
    rcases h2.lo with h3 | h3
    · exact .inl h3
    · exact .inr (by omega)
theorem goes (l : List Int) : Goes l := fun a h => by
  have h1 := nxtS_ok l a h
  rcases h1.lo with h2 | h2
  · exact .inl h2
  · exact .inr ⟨h2, h1.hi⟩
structure TokIs (n : Nat) (t : Tok) : Prop where
  ls : t.s.length ≤ n
  ln : t.n.length ≤ n
  num : (t.k = 10 ∨ t.k = 12) → t.w = true → Num t.n
theorem all_is (l : List Int) : ∀ (f : Nat) (a : Int), 0 ≤ a ∧ a ≤ l.length → ∀ t ∈ allF l f a, TokIs (4 * l.length) t
  | 0, a, h, t, ht => absurd ht (List.not_mem_nil)
  | f + 1, a, h, t, ht => by
    have h1 := nxtS_ok l a h
    have h2 : TokIs (4 * l.length) (nxtS l a) := ⟨h1.ls, h1.ln, h1.num⟩
    unfold allF at ht
    split at ht
    · rw [List.mem_singleton.1 ht]; exact h2
    · rename_i hk
      rcases List.mem_cons.1 ht with ht | ht
      · rw [ht]; exact h2
      · rcases h1.lo with h3 | h3
        · exact absurd h3 hk
        · have := h1.hi
          exact all_is l f _ (by omega) t ht
theorem all_len (l : List Int) : ∀ (f : Nat) (a : Int), (allF l f a).length ≤ f
  | 0, a => Nat.le_refl _
  | f + 1, a => by
    unfold allF
    split
    · simp
    · have := all_len l f (nxtS l a).t
      simp only [List.length_cons]; omega
theorem toks_rb (l : List Tok) : V.rb 0 (.sl (toks l) .no) = true := rbs_toks
theorem d_All {l : List Int} (hl : Chs l) (σ : Objs) (hσ : Wf σ) : E cx 30 [.sl (ints l) .no] σ = some (.sl (toks (allS l)) .no, σ) := by
  refine E_any cx_cl ?_ (by rw [rbs_cons, ints_rb]; rfl) (toks_rb _) σ hσ
  have h := d_all0 hl (goes l) (l.length + 1) 0 [] .fx (by omega) (by omega) (.inl rfl) (by simp)
  simp only [List.nil_append] at h
  have h' : l_Z1g_0 (Mi cx) 0 0 [.sl (ints l) .no, .sl [] .fx, .int .i64 0] [] = some (.sl (toks (allS l)) .no, []) := h
  rw [e_Z1g]
  simp +contextual -implicitDefEqProofs (disch := first | assumption | omega | (simp -implicitDefEqProofs only [go_sem]; try omega)) only [↓reduceIte, go_sem, iP, iN, w64, w8, w32, s_Z1g, h']
end Go.Proofs.YtkgkmlhljeidhaaGreatDoor
set_option linter.unusedSimpArgs false
set_option linter.unusedVariables false
set_option linter.unusedSectionVars false
namespace Go.Ev
theorem bytesStrN_sl {σ : Objs} {xs : List V} {c : Cap} : eC σ .bytesStrN (.sl xs c) = (bytesOf xs).map V.str := rfl
attribute [go_sem] bytesStrN_sl
end Go.Ev
namespace Go.Proofs.YtkgkmlhljeidhaaGreatDoor
open Go.Ev
set_option maxRecDepth 100000
set_option maxHeartbeats 4000000
def toldF : List UInt8 → Int → Int
  | [], n => n
  | x :: r, n => toldF r (64 * n + x.toNat - 128)
def headI (k : Nat) : Int := if k = 2 then 192 else if k = 3 then 224 else if k = 4 then 240 else 0
def toldS (b : List UInt8) : Int := toldF b.tail ((b.getD 0 0).toNat - headI b.length)
theorem d_toldloop (b : List UInt8) (hb : b.length ≤ 4) : ∀ (r p : List UInt8) (n i N : Int), b = p ++ r → i = p.length → -N ≤ n ∧ n ≤ N → (N + 3) * 64 ^ r.length ≤ 1099511627776 →
    l_Z17_0 (Mi cx) 0 0 [.sl (ofBytes b) .no, .int .i64 n, .int .i64 i] [] = some (.int .i64 (toldF r n), [])
  | [], p, n, i, N, hp, hi, hn, hN => by
    have hlen : b.length = p.length := by rw [hp]; simp
    rw [u_Z17_0]
    simp +contextual -implicitDefEqProofs (disch := first | assumption | omega | (simp -implicitDefEqProofs only [go_sem]; try omega)) only [↓reduceIte, go_sem, iP, iN, w64, w8, w32, b_Z17_0, toldF]
  | x :: r, p, n, i, N, hp, hi, hn, hN => by
    have hlen : b.length = p.length + r.length + 1 := by rw [hp]; simp; omega
    have hg : b.getD i.toNat 0 = x := by rw [hp, hi]; simp
    have hx := UInt8.toNat_lt x
    have hpow : (N + 3) * 64 ^ r.length * 64 ≤ 1099511627776 := by
      rw [List.length_cons, Int.pow_succ, ← Int.mul_assoc] at hN
      exact hN
    have hone : (1 : Int) ≤ 64 ^ r.length := Int.pow_pos (by decide)
    have hle : (N + 3) * 1 ≤ (N + 3) * 64 ^ r.length := Int.mul_le_mul_of_nonneg_left hone (by omega)
    have ih := d_toldloop b hb r (p ++ [x]) (64 * n + x.toNat - 128) (i + 1) (64 * N + 128) (by rw [hp]; simp) (by simp; omega) (by omega) (by
      have h1 : (64 * N + 128 + 3) * 64 ^ r.length ≤ (64 * (N + 3)) * 64 ^ r.length := Int.mul_le_mul_of_nonneg_right (by omega) (by omega)
      have h2 : (64 * (N + 3)) * 64 ^ r.length = (N + 3) * 64 ^ r.length * 64 := by rw [Int.mul_comm 64 (N + 3), Int.mul_assoc, Int.mul_comm 64, ← Int.mul_assoc]
      omega)
    rw [u_Z17_0]
    simp +contextual -implicitDefEqProofs (disch := first | assumption | omega | (simp -implicitDefEqProofs only [go_sem]; try omega)) only [↓reduceIte, go_sem, iP, iN, w64, w8, w32, b_Z17_0, toldF, hg, ih]
theorem d_told (b : List UInt8) (hb : 1 ≤ b.length ∧ b.length ≤ 4) (σ : Objs) (hσ : Wf σ) : E cx 87 [.sl (ofBytes b) .no] σ = some (.int .i64 (toldS b), σ) := by
  refine E_any cx_cl ?_ (by rw [rbs_cons, ofBytes_rb]; rfl) rfl σ hσ
  have hb0 := UInt8.toNat_lt (b.getD 0 0)
  have hh : 0 ≤ headI b.length ∧ headI b.length ≤ 240 := by unfold headI; repeat' split; all_goals omega
  have h1 : l_Z17_0 (Mi cx) 0 0 [.sl (ofBytes b) .no, .int .i64 ((b.getD 0 0).toNat - headI b.length), .int .i64 1] [] = some (.int .i64 (toldS b), []) := by
    obtain ⟨x, r, rfl⟩ : ∃ x r, b = x :: r := by
      cases b with
      | nil => simp at hb
      | cons x r => exact ⟨x, r, rfl⟩
    refine d_toldloop (x :: r) hb.2 r [x] _ 1 255 rfl rfl (by omega) ?_
    have : r.length ≤ 3 := by simp at hb; omega
    have h3 : r.length = 0 ∨ r.length = 1 ∨ r.length = 2 ∨ r.length = 3 := by omega
    rcases h3 with h | h | h | h <;> rw [h] <;> decide
  have h2 : eI 1 (.int .i64 b.length) (.sl [.int .i64 0, .int .i64 0, .int .i64 192, .int .i64 224, .int .i64 240] .fx) = some (.eptr [.int .i64 (headI b.length)] 0) := by
    have h3 : b.length = 1 ∨ b.length = 2 ∨ b.length = 3 ∨ b.length = 4 := by omega
    rcases h3 with h | h | h | h <;> rw [h] <;> rfl
  have h4 : eI 1 (.int .i64 b.length) (.sl [.int .i64 0, .int .i64 0, .int .i64 192, .int .i64 224, .int .i64 240] .no) = some (.eptr [.int .i64 (headI b.length)] 0) := by
    have h3 : b.length = 1 ∨ b.length = 2 ∨ b.length = 3 ∨ b.length = 4 := by omega
    rcases h3 with h | h | h | h <;> rw [h] <;> rfl
  rw [e_Z17]
  simp +contextual -implicitDefEqProofs (disch := first | assumption | omega | (simp -implicitDefEqProofs only [go_sem]; try omega)) only [↓reduceIte, go_sem, iP, iN, w64, w8, w32, s_Z17, h1, h2, h4]
def wholeS (b : List UInt8) : Bool := rightB (toldS b) && decide (putS (toldS b) = b)
theorem d_whole (b : List UInt8) (hb : 1 ≤ b.length ∧ b.length ≤ 4) (σ : Objs) (hσ : Wf σ) : E cx 86 [.sl (ofBytes b) .no] σ = some (.bool (wholeS b), σ) := by
  have h1 := fun σ hσ => d_told b hb σ hσ
  have h2 := fun σ hσ => d_Right (toldS b) σ hσ
  rw [e_Z18]
  unfold wholeS
  cases hr : rightB (toldS b) with
  | true =>
    have h3 := fun σ hσ => d_Put (toldS b) (rightB_le hr) σ hσ
    by_cases he : putS (toldS b) = b
    · simp +contextual -implicitDefEqProofs (disch := first | assumption | omega | (simp -implicitDefEqProofs only [go_sem]; try omega)) only [↓reduceIte, go_sem, iP, iN, w64, w8, w32, s_Z18, h1, h2, h3, hr, he]
    · simp +contextual -implicitDefEqProofs (disch := first | assumption | omega | (simp -implicitDefEqProofs only [go_sem]; try omega)) only [↓reduceIte, go_sem, iP, iN, w64, w8, w32, s_Z18, h1, h2, h3, hr, he]
  | false => simp +contextual -implicitDefEqProofs (disch := first | assumption | omega | (simp -implicitDefEqProofs only [go_sem]; try omega)) only [↓reduceIte, go_sem, iP, iN, w64, w8, w32, s_Z18, h1, h2, hr]
theorem d_filloop (c : UInt8) : ∀ (g : Nat) (out : List UInt8) (cap : Cap) (n : Int), n = out.length + g → n ≤ 100 → (cap = .fx ∨ cap = .gr 1) →
    l_Z16_0 (Mi cx) 0 0 [.int .u8 c.toNat, .int .i64 n, .sl (ofBytes out) cap] [] = some (.sl (ofBytes (out ++ List.replicate g c)) .no, [])
  | 0, out, cap, n, hn, hl, hc => by
    rw [u_Z16_0]
    simp +contextual -implicitDefEqProofs (disch := first | assumption | omega | (simp -implicitDefEqProofs only [go_sem]; try omega)) only [↓reduceIte, go_sem, iP, iN, w64, w8, w32, b_Z16_0, List.replicate, List.append_nil]
  | g + 1, out, cap, n, hn, hl, hc => by
    have hm : rowMax = 140737488355328 := rfl
    have hx := UInt8.toNat_lt c
    have h2 : appV false false 1 1 [] (.sl (ofBytes out) cap) (.sl [.int .u8 c.toNat] .no) = some (.sl (ofBytes (out ++ [c])) (.gr 1)) := app_bytes (m := [c]) hc (by simp) (by simp; omega)
    have ih := d_filloop c g (out ++ [c]) (.gr 1) n (by simp; omega) hl (.inr rfl)
    rw [List.append_assoc] at ih
    rw [u_Z16_0]
    simp +contextual -implicitDefEqProofs (disch := first | assumption | omega | (simp -implicitDefEqProofs only [go_sem]; try omega)) only [↓reduceIte, go_sem, iP, iN, w64, w8, w32, b_Z16_0, h2, ih, List.replicate_succ]
def filS (b : List UInt8) (c : UInt8) (n : Int) : List UInt8 := b ++ List.replicate (n.toNat - b.length) c
theorem d_filled (b : List UInt8) (c : UInt8) (n : Int) (hb : 1 ≤ b.length ∧ (b.length : Int) ≤ n ∧ n ≤ 100) (σ : Objs) (hσ : Wf σ) : E cx 104 [.sl (ofBytes b) .no, .int .u8 c.toNat, .int .i64 n] σ = some (.sl (ofBytes (filS b c n)) .no, σ) := by
  refine E_any cx_cl ?_ (by rw [rbs_cons, ofBytes_rb]; rfl) (ofBytes_rb _) σ hσ
  have hm : rowMax = 140737488355328 := rfl
  have h1 := d_filloop c (n.toNat - b.length) b (.gr 1) n (by omega) hb.2.2 (.inr rfl)
  have h2 : ∀ σ, appV false false 1 1 σ (.sl [] .fx) (.sl (ofBytes b) .no) = some (.sl (ofBytes b) (.gr 1)) := fun σ => app_bytes (l := []) (m := b) (.inl rfl) (by intro h; rw [h] at hb; simp at hb) (by simp; omega)
  rw [e_Z16]
  unfold filS
  simp +contextual -implicitDefEqProofs (disch := first | assumption | omega | (simp -implicitDefEqProofs only [go_sem]; try omega)) only [↓reduceIte, go_sem, iP, iN, w64, w8, w32, s_Z16, h1, h2]
theorem filS_len (b : List UInt8) (c : UInt8) (n : Int) (h : (b.length : Int) ≤ n) : ((filS b c n).length : Int) = n := by
  unfold filS
  simp; omega
def begF (b : List UInt8) : Nat → Int → Bool
  | 0, s => false
  | f + 1, s => if s ≤ 4 then (if wholeS (filS b 128 s) then true else if wholeS (filS b 191 s) then true else begF b f (s + 1)) else false
def begS (b : List UInt8) : Bool := begF b 4 (b.length + 1)
theorem d_begloop (b : List UInt8) (hb : 1 ≤ b.length ∧ b.length ≤ 4) : ∀ (f : Nat) (s : Int), 5 - s < f → (b.length : Int) < s →
    l_Z15_0 (Mi cx) 0 0 [.sl (ofBytes b) .no, .int .i64 s] [] = some (.bool (begF b f s), [])
  | 0, s, hf, hs => by
    rw [u_Z15_0]
    have : ¬ s ≤ 4 := by omega
    simp +contextual -implicitDefEqProofs (disch := first | assumption | omega | (simp -implicitDefEqProofs only [go_sem]; try omega)) only [↓reduceIte, go_sem, iP, iN, w64, w8, w32, b_Z15_0, begF, this]
  | f + 1, s, hf, hs => by
    rw [u_Z15_0]
    by_cases h4 : s ≤ 4
    · have e1 := filS_len b 128 s (by omega)
      have e2 := filS_len b 191 s (by omega)
      have h1 : ∀ σ, Wf σ → E cx 104 [.sl (ofBytes b) .no, .int .u8 128, .int .i64 s] σ = some (.sl (ofBytes (filS b 128 s)) .no, σ) := fun σ hσ => d_filled b 128 s (by omega) σ hσ
      have h2 : ∀ σ, Wf σ → E cx 104 [.sl (ofBytes b) .no, .int .u8 191, .int .i64 s] σ = some (.sl (ofBytes (filS b 191 s)) .no, σ) := fun σ hσ => d_filled b 191 s (by omega) σ hσ
      have h3 := fun σ hσ => d_whole (filS b 128 s) (by omega) σ hσ
      have h5 := fun σ hσ => d_whole (filS b 191 s) (by omega) σ hσ
      have ih := d_begloop b hb f (s + 1) (by omega) (by omega)
      cases c1 : wholeS (filS b 128 s) with
      | true => simp +contextual -implicitDefEqProofs (disch := first | assumption | omega | (simp -implicitDefEqProofs only [go_sem]; try omega)) only [↓reduceIte, go_sem, iP, iN, w64, w8, w32, b_Z15_0, begF, h4, h1, h3, c1]
      | false =>
        cases c2 : wholeS (filS b 191 s) with
        | true => simp +contextual -implicitDefEqProofs (disch := first | assumption | omega | (simp -implicitDefEqProofs only [go_sem]; try omega)) only [↓reduceIte, go_sem, iP, iN, w64, w8, w32, b_Z15_0, begF, h4, h1, h2, h3, h5, c1, c2]
        | false => simp +contextual -implicitDefEqProofs (disch := first | assumption | omega | (simp -implicitDefEqProofs only [go_sem]; try omega)) only [↓reduceIte, go_sem, iP, iN, w64, w8, w32, b_Z15_0, begF, h4, h1, h2, h3, h5, c1, c2, ih]
    · simp +contextual -implicitDefEqProofs (disch := first | assumption | omega | (simp -implicitDefEqProofs only [go_sem]; try omega)) only [↓reduceIte, go_sem, iP, iN, w64, w8, w32, b_Z15_0, begF, h4]
theorem d_begins (b : List UInt8) (hb : 1 ≤ b.length ∧ b.length ≤ 4) (σ : Objs) (hσ : Wf σ) : E cx 88 [.sl (ofBytes b) .no] σ = some (.bool (begS b), σ) := by
  refine E_any cx_cl ?_ (by rw [rbs_cons, ofBytes_rb]; rfl) rfl σ hσ
  have h1 := d_begloop b hb 5 (b.length + 1) (by omega) (by omega)
  have e : begF b 5 (b.length + 1) = begS b := by
    have key : ∀ (f : Nat) (s : Int), 4 - s < f → begF b (f + 1) s = begF b f s := by
      intro f
      induction f with
      | zero => intro s hs; show (if s ≤ 4 then _ else false) = false; rw [if_neg (by omega)]
      | succ f ih =>
        intro s hs
        show (if s ≤ 4 then (if wholeS (filS b 128 s) then true else if wholeS (filS b 191 s) then true else begF b (f + 1) (s + 1)) else false) = (if s ≤ 4 then (if wholeS (filS b 128 s) then true else if wholeS (filS b 191 s) then true else begF b f (s + 1)) else false)
        rw [ih (s + 1) (by omega)]
    exact key 4 _ (by omega)
  rw [e] at h1
  rw [e_Z15]
  simp +contextual -implicitDefEqProofs (disch := first | assumption | omega | (simp -implicitDefEqProofs only [go_sem]; try omega)) only [↓reduceIte, go_sem, iP, iN, w64, w8, w32, s_Z15, h1]
def cut8 (b : List UInt8) (a c : Int) : List UInt8 := (b.drop a.toNat).take (c.toNat - a.toNat)
theorem cut8_len (b : List UInt8) (a c : Int) (h : 0 ≤ a ∧ a ≤ c ∧ c ≤ b.length) : ((cut8 b a c).length : Int) = c - a := by
  unfold cut8
  simp only [List.length_take, List.length_drop]; omega
def fir1 (b : List UInt8) (a : Int) : Nat → Int → Int × Int
  | 0, s => (65533, 1)
  | f + 1, s => if 1 < s then (if a + s ≤ b.length then (if begS (cut8 b a (a + s)) then (65533, s) else fir1 b a f (s - 1)) else fir1 b a f (s - 1)) else (65533, 1)
def fir0 (b : List UInt8) (a : Int) : Nat → Int → Int × Int
  | 0, s => fir1 b a 3 3
  | f + 1, s => if s ≤ 4 then (if a + s ≤ b.length then (if wholeS (cut8 b a (a + s)) then (toldS (cut8 b a (a + s)), s) else fir0 b a f (s + 1)) else fir1 b a 3 3) else fir1 b a 3 3
def firS (b : List UInt8) (a : Int) : Int × Int := fir0 b a 4 1
theorem d_firloop1 (b : List UInt8) (hb : b.length ≤ 1000000000) (a : Int) (ha : 0 ≤ a ∧ a < b.length) : ∀ (f : Nat) (s : Int), s - 1 ≤ f → s ≤ 3 →
    l_Z10_1 (Mi cx) 0 0 [.sl (ofBytes b) .no, .int .i64 a, .int .i64 s] [] = some (.tup [.int .i64 (fir1 b a f s).1, .int .i64 (fir1 b a f s).2], [])
  | 0, s, hf, hs => by
    have : ¬ 1 < s := by omega
    rw [u_Z10_1]
    simp +contextual -implicitDefEqProofs (disch := first | assumption | omega | (simp -implicitDefEqProofs only [go_sem]; try omega)) only [↓reduceIte, go_sem, iP, iN, w64, w8, w32, b_Z10_1, fir1, this]
  | f + 1, s, hf, hs => by
    rw [u_Z10_1]
    by_cases c1 : 1 < s
    · have ih := d_firloop1 b hb a ha f (s - 1) (by omega) (by omega)
      by_cases c2 : a + s ≤ b.length
      · have hl := cut8_len b a (a + s) (by omega)
        have h1 := fun σ hσ => d_begins (cut8 b a (a + s)) (by omega) σ hσ
        have h2 : ∀ c, evCut 1 (.sl (ofBytes b) c) (some (.int .i64 a)) (some (.int .i64 (a + s))) none = some (.sl (ofBytes (cut8 b a (a + s))) .no) := fun c => cut_bytes (by omega)
        cases c3 : begS (cut8 b a (a + s)) with
        | true => simp +contextual -implicitDefEqProofs (disch := first | assumption | omega | (simp -implicitDefEqProofs only [go_sem]; try omega)) only [↓reduceIte, go_sem, iP, iN, w64, w8, w32, b_Z10_1, fir1, c1, c2, c3, h1, h2]
        | false => simp +contextual -implicitDefEqProofs (disch := first | assumption | omega | (simp -implicitDefEqProofs only [go_sem]; try omega)) only [↓reduceIte, go_sem, iP, iN, w64, w8, w32, b_Z10_1, fir1, c1, c2, c3, h1, h2, ih]
      · simp +contextual -implicitDefEqProofs (disch := first | assumption | omega | (simp -implicitDefEqProofs only [go_sem]; try omega)) only [↓reduceIte, go_sem, iP, iN, w64, w8, w32, b_Z10_1, fir1, c1, c2, ih]
    · simp +contextual -implicitDefEqProofs (disch := first | assumption | omega | (simp -implicitDefEqProofs only [go_sem]; try omega)) only [↓reduceIte, go_sem, iP, iN, w64, w8, w32, b_Z10_1, fir1, c1]
theorem d_firloop0 (b : List UInt8) (hb : b.length ≤ 1000000000) (a : Int) (ha : 0 ≤ a ∧ a < b.length) : ∀ (f : Nat) (s : Int), 5 - s = f → 1 ≤ s →
    l_Z10_0 (Mi cx) 0 0 [.sl (ofBytes b) .no, .int .i64 a, .int .i64 s] [] = some (.tup [.int .i64 (fir0 b a f s).1, .int .i64 (fir0 b a f s).2], [])
  | 0, s, hf, hs => by
    have c1 : ¬ s ≤ 4 := by omega
    have h3 := d_firloop1 b hb a ha 3 3 (by omega) (by omega)
    rw [u_Z10_0]
    simp +contextual -implicitDefEqProofs (disch := first | assumption | omega | (simp -implicitDefEqProofs only [go_sem]; try omega)) only [↓reduceIte, go_sem, iP, iN, w64, w8, w32, b_Z10_0, fir0, c1, h3]
  | f + 1, s, hf, hs => by
    have h3 := d_firloop1 b hb a ha 3 3 (by omega) (by omega)
    have ih := d_firloop0 b hb a ha f (s + 1) (by omega) (by omega)
    have c1 : s ≤ 4 := by omega
    rw [u_Z10_0]
    by_cases c2 : a + s ≤ b.length
    · have hl := cut8_len b a (a + s) (by omega)
      have h1 := fun σ hσ => d_whole (cut8 b a (a + s)) (by omega) σ hσ
      have h4 := fun σ hσ => d_told (cut8 b a (a + s)) (by omega) σ hσ
      have h2 : ∀ c, evCut 1 (.sl (ofBytes b) c) (some (.int .i64 a)) (some (.int .i64 (a + s))) none = some (.sl (ofBytes (cut8 b a (a + s))) .no) := fun c => cut_bytes (by omega)
      cases c3 : wholeS (cut8 b a (a + s)) with
      | true => simp +contextual -implicitDefEqProofs (disch := first | assumption | omega | (simp -implicitDefEqProofs only [go_sem]; try omega)) only [↓reduceIte, go_sem, iP, iN, w64, w8, w32, b_Z10_0, fir0, c1, c2, c3, h1, h2, h4]
      | false => simp +contextual -implicitDefEqProofs (disch := first | assumption | omega | (simp -implicitDefEqProofs only [go_sem]; try omega)) only [↓reduceIte, go_sem, iP, iN, w64, w8, w32, b_Z10_0, fir0, c1, c2, c3, h1, h2, h4, ih]
    · simp +contextual -implicitDefEqProofs (disch := first | assumption | omega | (simp -implicitDefEqProofs only [go_sem]; try omega)) only [↓reduceIte, go_sem, iP, iN, w64, w8, w32, b_Z10_0, fir0, c1, c2, h3]
theorem d_First (b : List UInt8) (hb : b.length ≤ 1000000000) (a : Int) (ha : 0 ≤ a ∧ a < b.length) (σ : Objs) (hσ : Wf σ) : E cx 52 [.sl (ofBytes b) .no, .int .i64 a] σ = some (.tup [.int .i64 (firS b a).1, .int .i64 (firS b a).2], σ) := by
  refine E_any cx_cl ?_ (by rw [rbs_cons, ofBytes_rb]; rfl) rfl σ hσ
  have h := d_firloop0 b hb a ha 4 1 (by omega) (by omega)
  rw [e_Z10]
  simp +contextual -implicitDefEqProofs (disch := first | assumption | omega | (simp -implicitDefEqProofs only [go_sem]; try omega)) only [↓reduceIte, go_sem, iP, iN, w64, w8, w32, s_Z10, h, firS]
theorem fir1_ok (b : List UInt8) (a : Int) (ha : 0 ≤ a ∧ a < b.length) : ∀ (f : Nat) (s : Int), (fir1 b a f s).1 = 65533 ∧ 1 ≤ (fir1 b a f s).2 ∧ a + (fir1 b a f s).2 ≤ b.length
  | 0, s => ⟨rfl, Int.le_refl _, show a + 1 ≤ _ by omega⟩
  | f + 1, s => by
    have ih := fir1_ok b a ha f (s - 1)
    unfold fir1
    split
    · split
      · split
        · exact ⟨rfl, show 1 ≤ s by omega, show a + s ≤ _ by omega⟩
        · exact ih
      · exact ih
    · exact ⟨rfl, Int.le_refl _, show a + 1 ≤ _ by omega⟩
theorem fir0_ok (b : List UInt8) (a : Int) (ha : 0 ≤ a ∧ a < b.length) : ∀ (f : Nat) (s : Int), 1 ≤ s → (0 ≤ (fir0 b a f s).1 ∧ (fir0 b a f s).1 ≤ 1114111) ∧ 1 ≤ (fir0 b a f s).2 ∧ a + (fir0 b a f s).2 ≤ b.length
  | 0, s, hs => by
    have h := fir1_ok b a ha 3 3
    unfold fir0
    omega
  | f + 1, s, hs => by
    have ih := fir0_ok b a ha f (s + 1) (by omega)
    have h := fir1_ok b a ha 3 3
    unfold fir0
    split
    · split
      · split
        · rename_i hc
          have := rightB_le (Bool.and_eq_true _ _ ▸ hc).1
          exact ⟨this, hs, by assumption⟩
        · exact ih
      · omega
    · omega
theorem firS_ok (b : List UInt8) (a : Int) (ha : 0 ≤ a ∧ a < b.length) : (0 ≤ (firS b a).1 ∧ (firS b a).1 ≤ 1114111) ∧ 1 ≤ (firS b a).2 ∧ a + (firS b a).2 ≤ b.length := fir0_ok b a ha 4 1 (by omega)
end Go.Proofs.YtkgkmlhljeidhaaGreatDoor
set_option linter.unusedSimpArgs false
set_option linter.unusedVariables false
set_option linter.unusedSectionVars false
namespace Go.Proofs.YtkgkmlhljeidhaaGreatDoor
open Go.Ev
set_option maxRecDepth 100000
set_option maxHeartbeats 4000000
def chaF (b : List UInt8) : Nat → Int → List Int
  | 0, a => []
  | f + 1, a => if a < b.length then (if 0 < a ∨ (firS b a).1 ≠ 65279 then (firS b a).1 :: chaF b f (a + (firS b a).2) else chaF b f (a + (firS b a).2)) else []
def chaS (b : List UInt8) : List Int := chaF b (b.length + 1) 0
theorem d_chaloop (b : List UInt8) (hb : b.length ≤ 1000000000) : ∀ (f : Nat) (a : Int) (out : List Int) (cap : Cap), (b.length : Int) - a < f → 0 ≤ a ∧ a ≤ b.length → (cap = .fx ∨ cap = .gr 1) → (out.length : Int) ≤ a →
    l_Zz_0 (Mi cx) 0 0 [.sl (ofBytes b) .no, .sl (ints out) cap, .int .i64 a] [] = some (.sl (ints (out ++ chaF b f a)) .no, [])
  | 0, a, out, cap, hf, ha, hc, ho => by omega
  | f + 1, a, out, cap, hf, ha, hc, ho => by
    have hm : rowMax = 140737488355328 := rfl
    rw [u_Zz_0]
    by_cases c1 : a < b.length
    · have h1 := fun σ hσ => d_First b hb a (by omega) σ hσ
      have h2 := firS_ok b a (by omega)
      unfold chaF
      generalize firS b a = x at h1 h2 ⊢
      by_cases c2 : 0 < a
      · have ih := d_chaloop b hb f (a + x.2) (out ++ [x.1]) (.gr 1) (by omega) (by omega) (.inr rfl) (by simp; omega)
        rw [List.append_assoc] at ih
        simp +contextual -implicitDefEqProofs (disch := first | assumption | omega | (simp -implicitDefEqProofs only [go_sem]; try omega)) only [↓reduceIte, go_sem, iP, iN, w64, w8, w32, b_Zz_0, j_Zz_0, h1, c1, c2, ih, true_or]
      · by_cases c3 : x.1 = 65279
        · have ih := d_chaloop b hb f (a + x.2) out cap (by omega) (by omega) hc (by omega)
          rw [c3] at h1
          have e : (0 < a ∨ x.1 ≠ 65279) = False := by simp [c2, c3]
          simp only [e]
          simp +contextual -implicitDefEqProofs (disch := first | assumption | omega | (simp -implicitDefEqProofs only [go_sem]; try omega)) only [↓reduceIte, go_sem, iP, iN, w64, w8, w32, b_Zz_0, j_Zz_0, h1, c1, c2, ih]
        · have ih := d_chaloop b hb f (a + x.2) (out ++ [x.1]) (.gr 1) (by omega) (by omega) (.inr rfl) (by simp; omega)
          rw [List.append_assoc] at ih
          have e : (0 < a ∨ x.1 ≠ 65279) = True := by simp [c2, c3]
          simp only [e]
          simp +contextual -implicitDefEqProofs (disch := first | assumption | omega | (simp -implicitDefEqProofs only [go_sem]; try omega)) only [↓reduceIte, go_sem, iP, iN, w64, w8, w32, b_Zz_0, j_Zz_0, h1, c1, c2, c3, ih]
    · unfold chaF
      simp +contextual -implicitDefEqProofs (disch := first | assumption | omega | (simp -implicitDefEqProofs only [go_sem]; try omega)) only [↓reduceIte, go_sem, iP, iN, w64, w8, w32, b_Zz_0, c1, List.append_nil]
theorem d_Chars (b : List UInt8) (hb : b.length ≤ 1000000000) (σ : Objs) (hσ : Wf σ) : E cx 32 [.sl (ofBytes b) .no] σ = some (.sl (ints (chaS b)) .no, σ) := by
  refine E_any cx_cl ?_ (by rw [rbs_cons, ofBytes_rb]; rfl) (ints_rb _) σ hσ
  have h := d_chaloop b hb (b.length + 1) 0 [] .fx (by omega) (by omega) (.inl rfl) (by simp)
  simp only [List.nil_append] at h
  have h' : l_Zz_0 (Mi cx) 0 0 [.sl (ofBytes b) .no, .sl [] .fx, .int .i64 0] [] = some (.sl (ints (chaS b)) .no, []) := h
  rw [e_Zz]
  simp +contextual -implicitDefEqProofs (disch := first | assumption | omega | (simp -implicitDefEqProofs only [go_sem]; try omega)) only [↓reduceIte, go_sem, iP, iN, w64, w8, w32, s_Zz, h']
theorem chaF_ok (b : List UInt8) : ∀ (f : Nat) (a : Int), 0 ≤ a → (∀ c ∈ chaF b f a, 0 ≤ c ∧ c ≤ 1114111) ∧ ((chaF b f a).length : Int) ≤ max 0 (b.length - a)
  | 0, a, ha => ⟨fun c hc => absurd hc (List.not_mem_nil), by unfold chaF; simp; omega⟩
  | f + 1, a, ha => by
    unfold chaF
    split
    · rename_i c1
      have h1 := firS_ok b a (by omega)
      have ih := chaF_ok b f (a + (firS b a).2) (by omega)
      split
      · refine ⟨fun c hc => ?_, by rw [List.length_cons]; omega⟩
        rcases List.mem_cons.1 hc with hc | hc
        · rw [hc]; exact h1.1
        · exact ih.1 c hc
      · exact ⟨ih.1, by omega⟩
    · exact ⟨fun c hc => absurd hc (List.not_mem_nil), by simp; omega⟩
theorem chaS_ok (b : List UInt8) : (∀ c ∈ chaS b, 0 ≤ c ∧ c ≤ 1114111) ∧ (chaS b).length ≤ b.length := by
  have h := chaF_ok b (b.length + 1) 0 (by omega)
  unfold chaS
  exact ⟨h.1, by omega⟩
def fixC (c : Int) : Int := if c = 0 ∨ rightB c = false then 65533 else c
def nlC (c : Int) : Int := if c = 13 ∨ c = 12 then 10 else c
def preF (l : List Int) : Nat → Int → List Int
  | 0, i => []
  | f + 1, i => if i < l.length then (if l.getD i.toNat 0 = 13 ∧ isB l (i + 1) 10 = true then preF l f (i + 1) else fixC (nlC (l.getD i.toNat 0)) :: preF l f (i + 1)) else []
def preS (l : List Int) : List Int := preF l (l.length + 1) 0
theorem fixC_le {c : Int} (h : 0 ≤ c ∧ c ≤ 1114111) : 0 ≤ fixC c ∧ fixC c ≤ 1114111 := by unfold fixC; split <;> omega
section
variable {l : List Int} (hl : Chs l)
include hl
theorem d_pre1 (i c : Int) (r1 : Rk) (out : List Int) (cap : Cap) (hc : cap = .fx ∨ cap = .gr 1) (hi : 0 ≤ i ∧ i < l.length) (ho : (out.length : Int) ≤ i) :
    j_Z11_1 (Mi cx) 0 0 r1 (.sl (ints l) .no) (.sl (ints out) cap) (.int .i64 i) (.int .i64 c) [] = r1 [.sl (ints l) .no, .sl (ints (out ++ [fixC c])) (.gr 1), .int .i64 (i + 1)] [] := by
  have hl2 := hl.2
  have hm : rowMax = 140737488355328 := rfl
  have h1 := fun σ hσ => d_Right c σ hσ
  by_cases c1 : c = 0
  · have e : fixC c = 65533 := if_pos (.inl c1)
    rw [e]
    simp +contextual -implicitDefEqProofs (disch := first | assumption | omega | (simp -implicitDefEqProofs only [go_sem]; try omega)) only [↓reduceIte, go_sem, iP, iN, w64, w8, w32, j_Z11_1, j_Z11_2, j_Z11_0, h1, c1]
  · cases c2 : rightB c with
    | true =>
      have e : fixC c = c := by unfold fixC; simp [c1, c2]
      rw [e]
      simp +contextual -implicitDefEqProofs (disch := first | assumption | omega | (simp -implicitDefEqProofs only [go_sem]; try omega)) only [↓reduceIte, go_sem, iP, iN, w64, w8, w32, j_Z11_1, j_Z11_2, j_Z11_0, h1, c1, c2]
    | false =>
      have e : fixC c = 65533 := if_pos (.inr c2)
      rw [e]
      simp +contextual -implicitDefEqProofs (disch := first | assumption | omega | (simp -implicitDefEqProofs only [go_sem]; try omega)) only [↓reduceIte, go_sem, iP, iN, w64, w8, w32, j_Z11_1, j_Z11_2, j_Z11_0, h1, c1, c2]
theorem d_pre0 : ∀ (f : Nat) (i : Int) (out : List Int) (cap : Cap), (l.length : Int) - i < f → 0 ≤ i ∧ i ≤ l.length → (cap = .fx ∨ cap = .gr 1) → (out.length : Int) ≤ i →
    l_Z11_0 (Mi cx) 0 0 [.sl (ints l) .no, .sl (ints out) cap, .int .i64 i] [] = some (.sl (ints (out ++ preF l f i)) .no, [])
  | 0, i, out, cap, hf, ha, hc, ho => by omega
  | f + 1, i, out, cap, hf, ha, hc, ho => by
    have hl2 := hl.2
    rw [u_Z11_0]
    unfold preF
    by_cases c1 : i < l.length
    · generalize hgc : l.getD i.toNat 0 = c
      have ih := d_pre0 f (i + 1) (out ++ [fixC (nlC c)]) (.gr 1) (by omega) (by omega) (.inr rfl) (by simp; omega)
      rw [List.append_assoc] at ih
      have ih2 := d_pre0 f (i + 1) out cap (by omega) (by omega) hc (by omega)
      have h1 := d_pre1 hl i (nlC c) (l_Z11_0 (Mi cx) 0 0) out cap hc (by omega) ho
      by_cases c2 : c = 13
      · subst c2
        have e : nlC 13 = 10 := rfl
        rw [e] at h1 ih ⊢
        by_cases c3 : i + 1 < l.length
        · by_cases c4 : l.getD (i + 1).toNat 0 = 10
          · have e2 : isB l (i + 1) 10 = true := by unfold isB; rw [decide_eq_true c3, c4]; rfl
            simp +contextual -implicitDefEqProofs (disch := first | assumption | omega | (simp -implicitDefEqProofs only [go_sem]; try omega)) only [↓reduceIte, go_sem, iP, iN, w64, w8, w32, b_Z11_0, j_Z11_0, hgc, h1, c1, c3, c4, e2, ih2]
          · have e2 : isB l (i + 1) 10 = false := by unfold isB; rw [decide_eq_false c4, Bool.and_false]
            simp +contextual -implicitDefEqProofs (disch := first | assumption | omega | (simp -implicitDefEqProofs only [go_sem]; try omega)) only [↓reduceIte, go_sem, iP, iN, w64, w8, w32, b_Z11_0, hgc, h1, c1, c3, c4, e2, ih]
        · have e2 : isB l (i + 1) 10 = false := by unfold isB; rw [decide_eq_false c3, Bool.false_and]
          simp +contextual -implicitDefEqProofs (disch := first | assumption | omega | (simp -implicitDefEqProofs only [go_sem]; try omega)) only [↓reduceIte, go_sem, iP, iN, w64, w8, w32, b_Z11_0, hgc, h1, c1, c3, e2, ih]
      · by_cases c3 : c = 12
        · subst c3
          have e : nlC 12 = 10 := rfl
          rw [e] at h1 ih ⊢
          simp +contextual -implicitDefEqProofs (disch := first | assumption | omega | (simp -implicitDefEqProofs only [go_sem]; try omega)) only [↓reduceIte, go_sem, iP, iN, w64, w8, w32, b_Z11_0, hgc, h1, c1, ih]
        · have e : nlC c = c := if_neg (by omega)
          rw [e] at h1 ih ⊢
          simp +contextual -implicitDefEqProofs (disch := first | assumption | omega | (simp -implicitDefEqProofs only [go_sem]; try omega)) only [↓reduceIte, go_sem, iP, iN, w64, w8, w32, b_Z11_0, hgc, h1, c1, c2, c3, ih]
    · simp +contextual -implicitDefEqProofs (disch := first | assumption | omega | (simp -implicitDefEqProofs only [go_sem]; try omega)) only [↓reduceIte, go_sem, iP, iN, w64, w8, w32, b_Z11_0, c1, List.append_nil]
theorem d_Prepare (σ : Objs) (hσ : Wf σ) : E cx 31 [.sl (ints l) .no] σ = some (.sl (ints (preS l)) .no, σ) := by
  refine E_any cx_cl ?_ (by rw [rbs_cons, ints_rb]; rfl) (ints_rb _) σ hσ
  have h := d_pre0 hl (l.length + 1) 0 [] .fx (by omega) (by omega) (.inl rfl) (by simp)
  simp only [List.nil_append] at h
  have h' : l_Z11_0 (Mi cx) 0 0 [.sl (ints l) .no, .sl [] .fx, .int .i64 0] [] = some (.sl (ints (preS l)) .no, []) := h
  rw [e_Z11]
  simp +contextual -implicitDefEqProofs (disch := first | assumption | omega | (simp -implicitDefEqProofs only [go_sem]; try omega)) only [↓reduceIte, go_sem, iP, iN, w64, w8, w32, s_Z11, h']
theorem preF_ok : ∀ (f : Nat) (i : Int), 0 ≤ i → (∀ c ∈ preF l f i, 0 ≤ c ∧ c ≤ 1114111) ∧ ((preF l f i).length : Int) ≤ max 0 (l.length - i)
  | 0, i, hi => ⟨fun c hc => absurd hc (List.not_mem_nil), by unfold preF; simp; omega⟩
  | f + 1, i, hi => by
    have hg := hl.get i.toNat
    have ih := preF_ok f (i + 1) (by omega)
    unfold preF
    split
    · rename_i c1
      split
      · exact ⟨ih.1, by omega⟩
      · refine ⟨fun c hc => ?_, by rw [List.length_cons]; omega⟩
        rcases List.mem_cons.1 hc with hc | hc
        · rw [hc]; exact fixC_le (by unfold nlC; split <;> omega)
        · exact ih.1 c hc
    · exact ⟨fun c hc => absurd hc (List.not_mem_nil), by simp; omega⟩
end
def readS (b : List UInt8) : List Tok := allS (preS (chaS b))
theorem chaS_chs (b : List UInt8) (hb : b.length ≤ 1000000000) : Chs (chaS b) := ⟨(chaS_ok b).1, by have := (chaS_ok b).2; omega⟩
theorem preS_chs (b : List UInt8) (hb : b.length ≤ 1000000000) : Chs (preS (chaS b)) := by
  have h := preF_ok (chaS_chs b hb) ((chaS b).length + 1) 0 (by omega)
  have h2 := (chaS_ok b).2
  exact ⟨h.1, by unfold preS; omega⟩
theorem preS_len (b : List UInt8) (hb : b.length ≤ 1000000000) : (preS (chaS b)).length ≤ b.length := by
  have h := preF_ok (chaS_chs b hb) ((chaS b).length + 1) 0 (by omega)
  have h2 := (chaS_ok b).2
  unfold preS; omega
theorem d_Read (b : List UInt8) (hb : b.length ≤ 1000000000) (σ : Objs) (hσ : Wf σ) : E cx 14 [.sl (ofBytes b) .no] σ = some (.sl (toks (readS b)) .no, σ) := by
  have h1 := fun σ hσ => d_Chars b hb σ hσ
  have h2 := fun σ hσ => d_Prepare (chaS_chs b hb) σ hσ
  have h3 := fun σ hσ => d_All (preS_chs b hb) σ hσ
  rw [e_Z1k]
  simp +contextual -implicitDefEqProofs (disch := first | assumption | omega | (simp -implicitDefEqProofs only [go_sem]; try omega)) only [↓reduceIte, go_sem, iP, iN, w64, w8, w32, s_Z1k, h1, h2, h3, readS]
theorem readS_is (b : List UInt8) (hb : b.length ≤ 1000000000) : (∀ t ∈ readS b, TokIs (4 * b.length) t) ∧ (readS b).length ≤ b.length + 1 := by
  have h1 := preS_len b hb
  refine ⟨fun t ht => ?_, ?_⟩
  · have h := all_is (preS (chaS b)) _ 0 (by omega) t ht
    exact ⟨by have := h.ls; omega, by have := h.ln; omega, h.num⟩
  · have := all_len (preS (chaS b)) ((preS (chaS b)).length + 1) 0
    unfold readS allS; omega
end Go.Proofs.YtkgkmlhljeidhaaGreatDoor
set_option linter.unusedSimpArgs false
set_option linter.unusedVariables false
set_option linter.unusedSectionVars false
namespace Go.Proofs.YtkgkmlhljeidhaaGreatDoor
open Go.Ev
set_option maxRecDepth 100000
def ch (l : List Int) (i : Int) : Int := if i < l.length then l.getD i.toNat 0 else -1
theorem ch_app (p r : List Int) (k : Nat) : ch (p ++ r) (p.length + k) = ch r k := by
  unfold ch
  rw [List.length_append]
  by_cases h : k < r.length
  · rw [if_pos (by omega), if_pos (by omega)]
    have e : ((p.length : Int) + k).toNat = p.length + k := by omega
    rw [e, List.getD_eq_getElem?_getD, List.getD_eq_getElem?_getD, List.getElem?_append_right (by omega), Int.toNat_natCast, Nat.add_sub_cancel_left]
  · rw [if_neg (by omega), if_neg (by omega)]
theorem ch_here (p r : List Int) : ch (p ++ r) p.length = ch r 0 := by
  have := ch_app p r 0
  simpa using this
theorem ch_next (p r : List Int) (c : Int) : ch (p ++ c :: r) (p.length + 1) = ch r 0 := by
  have h := ch_app (p ++ [c]) r 0
  simp only [List.append_assoc, List.cons_append, List.nil_append, List.length_append, List.length_cons, List.length_nil, Nat.zero_add] at h
  have e : ((p.length + 1 : Nat) : Int) + (0 : Nat) = (p.length : Int) + 1 := by omega
  rw [e] at h
  exact h
theorem ch_0 (c : Int) (r : List Int) : ch (c :: r) 0 = c := by
  unfold ch
  rw [if_pos (by simp)]
  rfl
theorem ch_lt {l : List Int} {i : Int} (h : ch l i ≠ -1) : i < l.length := by
  by_cases h1 : i < l.length
  · exact h1
  · exact absurd (if_neg h1) h
theorem isB_ch {l : List Int} {i c : Int} (hc : 0 ≤ c) : isB l i c = decide (ch l i = c) := by
  unfold isB ch
  by_cases h : i < l.length
  · rw [if_pos h, decide_eq_true h, Bool.true_and]
  · rw [if_neg h, decide_eq_false h, Bool.false_and, decide_eq_false (by omega)]
theorem dgB_ch {l : List Int} {i : Int} : dgB l i = digitB (ch l i) := by
  unfold dgB ch
  by_cases h : i < l.length
  · rw [if_pos h, decide_eq_true h, Bool.true_and]
  · rw [if_neg h, decide_eq_false h]; rfl
theorem spB_ch {l : List Int} {i : Int} : spB l i = spaceB (ch l i) := by
  unfold spB ch
  by_cases h : i < l.length
  · rw [if_pos h, decide_eq_true h, Bool.true_and]
  · rw [if_neg h, decide_eq_false h]; rfl
theorem stB_ch {l : List Int} {i : Int} : stB l i = startB (ch l i) := by
  unfold stB ch
  by_cases h : i < l.length
  · rw [if_pos h, decide_eq_true h, Bool.true_and]
  · rw [if_neg h, decide_eq_false h]; rfl
theorem inB_ch {l : List Int} {i : Int} : inB l i = nameB (ch l i) := by
  unfold inB ch
  by_cases h : i < l.length
  · rw [if_pos h, decide_eq_true h, Bool.true_and]
  · rw [if_neg h, decide_eq_false h]; rfl
theorem sgB_ch {l : List Int} {i : Int} : sgB l i = (decide (ch l i = 43) || decide (ch l i = 45)) := by
  unfold sgB
  rw [isB_ch (by omega), isB_ch (by omega)]
theorem escB_no {l : List Int} {i : Int} (h : ch l i ≠ 92) : escB l i = false := by
  unfold escB
  rw [isB_ch (by omega), decide_eq_false h, Bool.false_and]
theorem behS_no {l : List Int} {i : Int} (h : ch l i ≠ 47) : behS l i = i := by
  show (if comB l i then behE l l.length (comE l i) else i) = i
  unfold comB
  rw [isB_ch (by omega), decide_eq_false h, Bool.false_and]
  rfl
theorem get_ch {l : List Int} {i : Int} (h : ch l i ≠ -1) : l.getD i.toNat 0 = ch l i := by
  unfold ch
  rw [if_pos (ch_lt h)]
theorem dgE_run : ∀ (d p q : List Int) (f : Nat), (∀ c ∈ d, digitB c = true) → digitB (ch q 0) = false → d.length < f → dgE (p ++ (d ++ q)) f p.length = p.length + d.length
  | [], p, q, f, hd, hq, hf => by
    obtain ⟨g, rfl⟩ : ∃ g, f = g + 1 := ⟨f - 1, by simp at hf; omega⟩
    unfold dgE
    rw [dgB_ch, List.nil_append, ch_here, hq]
    simp
  | c :: d, p, q, f, hd, hq, hf => by
    obtain ⟨g, rfl⟩ : ∃ g, f = g + 1 := ⟨f - 1, by simp at hf; omega⟩
    have ih := dgE_run d (p ++ [c]) q g (fun x hx => hd x (List.mem_cons_of_mem _ hx)) hq (by simp at hf; omega)
    simp only [List.append_assoc, List.cons_append, List.nil_append, List.length_append, List.length_cons, List.length_nil, Nat.zero_add] at ih
    unfold dgE
    rw [dgB_ch, List.cons_append, ch_here, ch_0, hd c (List.mem_cons_self ..), if_pos rfl]
    have e : ((p.length + 1 : Nat) : Int) = (p.length : Int) + 1 := by omega
    rw [e] at ih
    rw [ih, List.length_cons]
    omega
theorem spE_run : ∀ (d p q : List Int) (f : Nat), (∀ c ∈ d, spaceB c = true) → spaceB (ch q 0) = false → d.length < f → spE (p ++ (d ++ q)) f p.length = p.length + d.length
  | [], p, q, f, hd, hq, hf => by
    obtain ⟨g, rfl⟩ : ∃ g, f = g + 1 := ⟨f - 1, by simp at hf; omega⟩
    unfold spE
    rw [spB_ch, List.nil_append, ch_here, hq]
    simp
  | c :: d, p, q, f, hd, hq, hf => by
    obtain ⟨g, rfl⟩ : ∃ g, f = g + 1 := ⟨f - 1, by simp at hf; omega⟩
    have ih := spE_run d (p ++ [c]) q g (fun x hx => hd x (List.mem_cons_of_mem _ hx)) hq (by simp at hf; omega)
    simp only [List.append_assoc, List.cons_append, List.nil_append, List.length_append, List.length_cons, List.length_nil, Nat.zero_add] at ih
    unfold spE
    rw [spB_ch, List.cons_append, ch_here, ch_0, hd c (List.mem_cons_self ..), if_pos rfl]
    have e : ((p.length + 1 : Nat) : Int) = (p.length : Int) + 1 := by omega
    rw [e] at ih
    rw [ih, List.length_cons]
    omega
theorem namesF_run : ∀ (n p q : List Int) (f : Nat) (out : List Int), (∀ c ∈ n, nameB c = true) → nameB (ch q 0) = false → ch q 0 ≠ 92 → n.length < f → namesF (p ++ (n ++ q)) f p.length out = (out ++ n, ((p.length : Int) + n.length : Int))
  | [], p, q, f, out, hd, hq, hq2, hf => by
    obtain ⟨g, rfl⟩ : ∃ g, f = g + 1 := ⟨f - 1, by simp at hf; omega⟩
    unfold namesF
    rw [inB_ch, List.nil_append, ch_here, hq, escB_no (by rw [ch_here]; exact hq2)]
    simp
  | c :: n, p, q, f, out, hd, hq, hq2, hf => by
    obtain ⟨g, rfl⟩ : ∃ g, f = g + 1 := ⟨f - 1, by simp at hf; omega⟩
    have ih := namesF_run n (p ++ [c]) q g (out ++ [c]) (fun x hx => hd x (List.mem_cons_of_mem _ hx)) hq hq2 (by simp at hf; omega)
    simp only [List.append_assoc, List.cons_append, List.nil_append, List.length_append, List.length_cons, List.length_nil, Nat.zero_add] at ih
    have hg : (p ++ c :: (n ++ q)).getD (p.length : Int).toNat 0 = c := by simp
    unfold namesF
    rw [inB_ch, List.cons_append, ch_here, ch_0, hd c (List.mem_cons_self ..), if_pos rfl, hg]
    have e : ((p.length + 1 : Nat) : Int) = (p.length : Int) + 1 := by omega
    rw [e] at ih
    rw [ih, List.length_cons]
    congr 1
    omega
theorem cutL_app (p d q : List Int) : cutL (p ++ (d ++ q)) p.length (p.length + d.length) = d := by
  unfold cutL
  have e1 : (p.length : Int).toNat = p.length := by omega
  have e2 : ((p.length : Int) + d.length).toNat - p.length = d.length := by omega
  rw [e1, e2, List.drop_left, List.take_left]
def asc (s : List UInt8) : List Int := s.map fun b => (b.toNat : Int)
def Asc (s : List UInt8) : Prop := ∀ b ∈ s, 1 ≤ b.toNat ∧ b.toNat ≤ 127 ∧ b.toNat ≠ 12 ∧ b.toNat ≠ 13
theorem asc_app (s t : List UInt8) : asc (s ++ t) = asc s ++ asc t := List.map_append
theorem asc_len (s : List UInt8) : (asc s).length = s.length := List.length_map ..
theorem putB_self (b : UInt8) : putB (b.toNat : Int) = b := by
  have hb := UInt8.toNat_lt b
  have := putB_nat (x := (b.toNat : Int)) (by omega)
  exact UInt8.toNat_inj.1 (by omega)
theorem asc_text : ∀ (s : List UInt8), Asc s → textS (asc s) = s
  | [], h => rfl
  | b :: s, h => by
    have hb := h b (List.mem_cons_self ..)
    have ih := asc_text s fun x hx => h x (List.mem_cons_of_mem _ hx)
    have e : asc (b :: s) = (b.toNat : Int) :: asc s := rfl
    rw [e, textS_cons _ _ (by omega), ih, putB_self]
theorem asc_firS (b : List UInt8) (p r : List UInt8) (x : UInt8) (hp : b = p ++ x :: r) (hx : x.toNat ≤ 127) : firS b p.length = ((x.toNat : Int), (1 : Int)) := by
  have hl : b.length = p.length + r.length + 1 := by rw [hp]; simp; omega
  have hc : cut8 b p.length (p.length + 1) = [x] := by
    unfold cut8
    have e1 : (p.length : Int).toNat = p.length := by omega
    have e2 : ((p.length : Int) + 1).toNat - p.length = 1 := by omega
    rw [e1, e2, hp, List.drop_left]
    rfl
  have ht : toldS [x] = x.toNat := by
    unfold toldS headI
    simp [toldF]
  have hr : rightB (x.toNat : Int) = true := by
    unfold rightB
    simp only [Bool.and_eq_true, Bool.or_eq_true, decide_eq_true_eq]
    omega
  have hw : wholeS [x] = true := by
    unfold wholeS
    rw [ht, hr, Bool.true_and]
    apply decide_eq_true
    unfold putS
    rw [if_pos (by omega), putB_self]
  unfold firS fir0
  rw [if_pos (by decide), if_pos (by omega), hc, hw, if_pos rfl, ht]
theorem asc_chaF (b : List UInt8) (hb : Asc b) : ∀ (r p : List UInt8) (f : Nat), b = p ++ r → r.length < f → chaF b f p.length = asc r
  | [], p, f, hp, hf => by
    obtain ⟨g, rfl⟩ : ∃ g, f = g + 1 := ⟨f - 1, by simp at hf; omega⟩
    have hl : b.length = p.length := by rw [hp]; simp
    unfold chaF
    rw [if_neg (by omega)]
    rfl
  | x :: r, p, f, hp, hf => by
    obtain ⟨g, rfl⟩ : ∃ g, f = g + 1 := ⟨f - 1, by simp at hf; omega⟩
    have hl : b.length = p.length + r.length + 1 := by rw [hp]; simp; omega
    have hx := hb x (by rw [hp]; simp)
    have ih := asc_chaF b hb r (p ++ [x]) g (by rw [hp]; simp) (by simp at hf; omega)
    have e : (((p ++ [x]).length : Nat) : Int) = (p.length : Int) + 1 := by simp
    rw [e] at ih
    unfold chaF
    rw [if_pos (by omega), asc_firS b p r x hp (by omega)]
    show (if 0 < (p.length : Int) ∨ (x.toNat : Int) ≠ 65279 then (x.toNat : Int) :: chaF b g (p.length + 1) else chaF b g (p.length + 1)) = _
    rw [if_pos (.inr (by omega)), ih]
    rfl
theorem asc_preF (b : List UInt8) (hb : Asc b) : ∀ (r p : List UInt8) (f : Nat), b = p ++ r → r.length < f → preF (asc b) f p.length = asc r
  | [], p, f, hp, hf => by
    obtain ⟨g, rfl⟩ : ∃ g, f = g + 1 := ⟨f - 1, by simp at hf; omega⟩
    have hl : (asc b).length = p.length := by rw [asc_len, hp]; simp
    unfold preF
    rw [if_neg (by omega)]
    rfl
  | x :: r, p, f, hp, hf => by
    obtain ⟨g, rfl⟩ : ∃ g, f = g + 1 := ⟨f - 1, by simp at hf; omega⟩
    have hl : (asc b).length = p.length + r.length + 1 := by rw [asc_len, hp]; simp; omega
    have hx := hb x (by rw [hp]; simp)
    have ih := asc_preF b hb r (p ++ [x]) g (by rw [hp]; simp) (by simp at hf; omega)
    have e : (((p ++ [x]).length : Nat) : Int) = (p.length : Int) + 1 := by simp
    rw [e] at ih
    have hg : (asc b).getD (p.length : Int).toNat 0 = x.toNat := by
      rw [hp, asc_app]
      have : (p.length : Int).toNat = (asc p).length := by rw [asc_len]; omega
      rw [this]
      simp [asc]
    have h1 : fixC (nlC (x.toNat : Int)) = x.toNat := by
      have e1 : nlC (x.toNat : Int) = x.toNat := if_neg (by omega)
      rw [e1]
      have hr : rightB (x.toNat : Int) = true := by
        unfold rightB
        simp only [Bool.and_eq_true, Bool.or_eq_true, decide_eq_true_eq]
        omega
      unfold fixC
      rw [if_neg (by rw [hr]; simp; omega)]
    unfold preF
    rw [if_pos (by omega), hg, if_neg (by rintro ⟨h, _⟩; omega), h1, ih]
    rfl
theorem asc_pre (b : List UInt8) (hb : Asc b) : preS (chaS b) = asc b := by
  have h1 := asc_chaF b hb b [] (b.length + 1) rfl (by omega)
  have h2 := asc_preF b hb b [] ((asc b).length + 1) rfl (by rw [asc_len]; omega)
  unfold preS chaS
  simp only [List.length_nil] at h1 h2
  have e : ((0 : Nat) : Int) = 0 := rfl
  rw [e] at h1 h2
  rw [h1, h2]
end Go.Proofs.YtkgkmlhljeidhaaGreatDoor
set_option linter.unusedSimpArgs false
set_option linter.unusedVariables false
set_option linter.unusedSectionVars false
namespace Go.Proofs.YtkgkmlhljeidhaaGreatDoor
open Go.Ev
set_option maxRecDepth 100000
theorem nxtS_at {l : List Int} {i : Int} (h1 : ch l i ≠ 47) (h2 : ch l i ≠ -1) : nxtS l i = nxtC l i := by
  have := ch_lt h2
  unfold nxtS
  rw [behS_no h1, if_neg (by omega)]
theorem t_end (l : List Int) : nxtS l l.length = ⟨0, l.length, l.length, [], [], false⟩ := by
  have h : ch l l.length = -1 := if_neg (by omega)
  unfold nxtS
  rw [behS_no (by rw [h]; decide), if_pos (Int.le_refl _)]
theorem t_sp (p s q : List Int) (c : Int) (hs : ∀ x ∈ c :: s, spaceB x = true) (hq : spaceB (ch q 0) = false) :
    nxtS (p ++ ((c :: s) ++ q)) p.length = ⟨13, p.length, p.length + (c :: s).length, [], [], false⟩ := by
  have h0 : ch (p ++ ((c :: s) ++ q)) p.length = c := by rw [ch_here, List.cons_append, ch_0]
  have hc := hs c (List.mem_cons_self ..)
  have hc2 : c = 32 ∨ c = 9 ∨ c = 10 := by
    unfold spaceB at hc
    simp only [Bool.or_eq_true, decide_eq_true_eq] at hc
    omega
  have hg := get_ch (l := p ++ ((c :: s) ++ q)) (i := p.length) (by omega)
  rw [nxtS_at (by omega) (by omega)]
  unfold nxtC
  rw [hg, h0, if_pos hc, spE_run (c :: s) p q _ hs hq (by simp; omega)]
section
variable (p g d q : List Int) (hg : g = [] ∨ g = [43] ∨ g = [45]) (hd : ∀ x ∈ d, digitB x = true) (hne : d ≠ [])
include hg hd hne
theorem num_at : (ch (p ++ (g ++ (d ++ q))) p.length = 43 ∨ ch (p ++ (g ++ (d ++ q))) p.length = 45 ∨ digitB (ch (p ++ (g ++ (d ++ q))) p.length) = true) ∧ sg (p ++ (g ++ (d ++ q))) p.length = ((p ++ g).length : Int) ∧ dgB (p ++ (g ++ (d ++ q))) ((p ++ g).length : Int) = true := by
  obtain ⟨c, d', rfl⟩ : ∃ c d', d = c :: d' := by
    cases d with
    | nil => exact absurd rfl hne
    | cons c d' => exact ⟨c, d', rfl⟩
  have hc := hd c (List.mem_cons_self ..)
  have hc2 : 48 ≤ c ∧ c ≤ 57 := by
    unfold digitB at hc
    simp only [Bool.and_eq_true, decide_eq_true_eq] at hc
    exact hc
  have h3 : dgB (p ++ (g ++ ((c :: d') ++ q))) ((p ++ g).length : Int) = true := by
    rw [← List.append_assoc, dgB_ch, ch_here, List.cons_append, ch_0]
    exact hc
  refine ⟨?_, ?_, h3⟩
  · rw [ch_here]
    rcases hg with rfl | rfl | rfl
    · rw [List.nil_append, List.cons_append, ch_0]; exact .inr (.inr hc)
    · rw [List.cons_append, ch_0]; exact .inl rfl
    · rw [List.cons_append, ch_0]; exact .inr (.inl rfl)
  · unfold sg
    rw [sgB_ch, ch_here]
    rcases hg with rfl | rfl | rfl
    · rw [List.nil_append, List.cons_append, ch_0, decide_eq_false (by omega), decide_eq_false (by omega)]
      simp
    · rw [List.cons_append, ch_0, if_pos (by rfl)]; simp
    · rw [List.cons_append, ch_0, if_pos (by rfl)]; simp
variable (hq : digitB (ch q 0) = false) (hq1 : ch q 0 ≠ 46) (hq2 : ch q 0 ≠ 101) (hq3 : ch q 0 ≠ 69)
include hq hq1 hq2 hq3
theorem dig_at : numB (p ++ (g ++ (d ++ q))) p.length = true ∧ digS (p ++ (g ++ (d ++ q))) p.length = (((p ++ (g ++ d)).length : Int), true) := by
  obtain ⟨-, h1, h2⟩ := num_at p g d q hg hd hne
  refine ⟨by unfold numB; rw [h1, h2]; rfl, ?_⟩
  have h3 : dE (p ++ (g ++ (d ++ q))) ((p ++ g).length : Int) = (((p ++ (g ++ d)).length : Int)) := by
    unfold dE
    have := dgE_run d (p ++ g) q ((p ++ (g ++ (d ++ q))).length + 1) hd hq (by simp; omega)
    rw [List.append_assoc] at this
    rw [this]
    simp
    omega
  have h4 : ch (p ++ (g ++ (d ++ q))) (((p ++ (g ++ d)).length : Int)) = ch q 0 := by
    have := ch_here (p ++ (g ++ d)) q
    simp only [List.append_assoc] at this ⊢
    exact this
  unfold digS
  rw [h1, h3]
  unfold fracS
  rw [isB_ch (by omega), h4, decide_eq_false hq1, Bool.false_and]
  show expS _ _ _ = _
  unfold expS
  rw [isB_ch (by omega), isB_ch (by omega), h4, decide_eq_false hq2, decide_eq_false hq3]
  rfl
theorem t_numS : nxtS (p ++ (g ++ (d ++ q))) p.length = numS (p ++ (g ++ (d ++ q))) p.length := by
  obtain ⟨h1, -, -⟩ := num_at p g d q hg hd hne
  have h2 := (dig_at p g d q hg hd hne hq hq1 hq2 hq3).1
  generalize hl : p ++ (g ++ (d ++ q)) = l at h1 h2 ⊢
  have h3 : ch l p.length ≠ 47 ∧ ch l p.length ≠ -1 ∧ ch l p.length ≠ 34 ∧ ch l p.length ≠ 39 ∧ spaceB (ch l p.length) = false := by
    rcases h1 with h | h | h
    · rw [h]; decide
    · rw [h]; decide
    · unfold digitB at h
      simp only [Bool.and_eq_true, decide_eq_true_eq] at h
      refine ⟨by omega, by omega, by omega, by omega, ?_⟩
      unfold spaceB
      rw [decide_eq_false (by omega), decide_eq_false (by omega), decide_eq_false (by omega)]
      rfl
  rw [nxtS_at h3.1 h3.2.1]
  unfold nxtC
  rw [get_ch h3.2.1, if_neg (by rw [h3.2.2.2.2]; simp), if_neg h3.2.2.1, if_neg h3.2.2.2.1, if_pos h2]
end
theorem cut_gd (p g d q : List Int) : cutL (p ++ (g ++ (d ++ q))) p.length ((p ++ (g ++ d)).length : Int) = g ++ d := by
  have := cutL_app p (g ++ d) q
  rw [List.append_assoc] at this
  rw [List.length_append]
  have e : ((p.length + (g ++ d).length : Nat) : Int) = (p.length : Int) + (g ++ d).length := by omega
  rw [e, this]
theorem t_num (p g d : List Int) (hg : g = [] ∨ g = [43] ∨ g = [45]) (hd : ∀ x ∈ d, digitB x = true) (hne : d ≠ []) :
    nxtS (p ++ (g ++ d)) p.length = ⟨10, p.length, p.length + (g ++ d).length, [], textS (g ++ d), true⟩ := by
  have hc : ch ([] : List Int) 0 = -1 := rfl
  have h1 := t_numS p g d [] hg hd hne (by rw [hc]; rfl) (by rw [hc]; decide) (by rw [hc]; decide) (by rw [hc]; decide)
  have h2 := (dig_at p g d [] hg hd hne (by rw [hc]; rfl) (by rw [hc]; decide) (by rw [hc]; decide) (by rw [hc]; decide)).2
  have h3 := cut_gd p g d []
  simp only [List.append_nil] at h1 h2 h3
  have h4 : ch (p ++ (g ++ d)) ((p ++ (g ++ d)).length : Int) = -1 := if_neg (by omega)
  rw [h1]
  unfold numS
  rw [h2]
  have h5 : nmB (p ++ (g ++ d)) ((p ++ (g ++ d)).length : Int) = false := by
    unfold nmB
    rw [isB_ch (by omega), h4, if_neg (by decide), stB_ch, h4, escB_no (by rw [h4]; decide)]
    rfl
  rw [h5, isB_ch (by omega), h4, if_neg (by decide), if_neg (by decide), h3]
  congr 1
  simp only [List.length_append]
  omega
theorem start_facts {c : Int} (h : startB c = true) : c ≠ 45 ∧ c ≠ 46 ∧ digitB c = false ∧ c ≠ 47 ∧ c ≠ -1 ∧ c ≠ 34 ∧ c ≠ 39 ∧ spaceB c = false ∧ c ≠ 43 := by
  unfold startB smallZ at h
  have h1 : (65 ≤ c ∧ c ≤ 90) ∨ (97 ≤ c ∧ c ≤ 122) ∨ c = 95 ∨ 128 ≤ c := by
    simp only [Bool.or_eq_true, Bool.and_eq_true, decide_eq_true_eq] at h
    split at h <;> omega
  unfold digitB spaceB
  simp only [Bool.and_eq_false_iff, Bool.or_eq_false_iff, decide_eq_false_iff_not]
  omega
theorem t_dim (p g d n q : List Int) (c : Int) (hg : g = [] ∨ g = [43] ∨ g = [45]) (hd : ∀ x ∈ d, digitB x = true) (hne : d ≠ []) (hc : startB c = true) (hc1 : c ≠ 101) (hc2 : c ≠ 69)
    (hn : ∀ x ∈ c :: n, nameB x = true) (hq : nameB (ch q 0) = false) (hq2 : ch q 0 ≠ 92) :
    nxtS (p ++ (g ++ (d ++ ((c :: n) ++ q)))) p.length = ⟨12, p.length, p.length + (g ++ (d ++ (c :: n))).length, textS (c :: n), textS (g ++ d), true⟩ := by
  have f := start_facts hc
  have h0 : ch ((c :: n) ++ q) 0 = c := by rw [List.cons_append, ch_0]
  have h1 := t_numS p g d ((c :: n) ++ q) hg hd hne (by rw [h0]; exact f.2.2.1) (by rw [h0]; exact f.2.1) (by rw [h0]; exact hc1) (by rw [h0]; exact hc2)
  have h2 := (dig_at p g d ((c :: n) ++ q) hg hd hne (by rw [h0]; exact f.2.2.1) (by rw [h0]; exact f.2.1) (by rw [h0]; exact hc1) (by rw [h0]; exact hc2)).2
  have h3 := cut_gd p g d ((c :: n) ++ q)
  have h4 : ch (p ++ (g ++ (d ++ ((c :: n) ++ q)))) ((p ++ (g ++ d)).length : Int) = c := by
    have := ch_here (p ++ (g ++ d)) ((c :: n) ++ q)
    simp only [List.append_assoc] at this ⊢
    rw [this, h0]
  have h6 := namesF_run (c :: n) (p ++ (g ++ d)) q ((p ++ (g ++ (d ++ ((c :: n) ++ q)))).length + 1) [] hn hq hq2 (by simp; omega)
  rw [h1]
  unfold numS
  rw [h2]
  have h5 : nmB (p ++ (g ++ (d ++ ((c :: n) ++ q)))) ((p ++ (g ++ d)).length : Int) = true := by
    unfold nmB
    rw [isB_ch (by omega), h4, if_neg (by rw [decide_eq_false f.1]; simp), stB_ch, h4, hc]
    rfl
  have h7 : namesF (p ++ (g ++ (d ++ ((c :: n) ++ q)))) ((p ++ (g ++ (d ++ ((c :: n) ++ q)))).length + 1) ((p ++ (g ++ d)).length : Int) [] = (c :: n, ((p ++ (g ++ d)).length : Int) + (c :: n).length) := by
    simp only [List.append_assoc, List.nil_append] at h6 ⊢
    exact h6
  have h8 : namesS (p ++ (g ++ (d ++ ((c :: n) ++ q)))) ((p ++ (g ++ d)).length : Int) = (textS (c :: n), ((p ++ (g ++ d)).length : Int) + (c :: n).length) := by
    unfold namesS
    rw [h7]
  rw [h5, if_pos rfl, h3, h8]
  congr 1
  simp only [List.length_append]
  omega
theorem t_delim (p q : List Int) (c : Int) (hc : c = 43 ∨ c = 45) (hq : spaceB (ch q 0) = true) : nxtS (p ++ ([c] ++ q)) p.length = ⟨9, p.length, p.length + 1, textS [c], [], false⟩ := by
  have h0 : ch (p ++ ([c] ++ q)) p.length = c := by rw [ch_here, List.cons_append, ch_0]
  have h1 : ch (p ++ ([c] ++ q)) (p.length + 1) = ch q 0 := by rw [List.cons_append, List.nil_append, ch_next]
  have hq2 : ch q 0 = 32 ∨ ch q 0 = 9 ∨ ch q 0 = 10 := by
    unfold spaceB at hq
    simp only [Bool.or_eq_true, decide_eq_true_eq] at hq
    omega
  have h3 : cutL (p ++ ([c] ++ q)) p.length (p.length + 1) = [c] := cutL_app p [c] q
  generalize p ++ ([c] ++ q) = l at h0 h1 h3 ⊢
  have hn : numB l p.length = false := by
    have hs : sg l p.length = p.length + 1 := by
      unfold sg
      rw [sgB_ch, h0]
      rcases hc with rfl | rfl <;> rfl
    unfold numB
    rw [hs, dgB_ch, h1, isB_ch (by omega), h1]
    rcases hq2 with h | h | h <;> rw [h] <;> rfl
  have hm : nmB l p.length = false := by
    unfold nmB
    rw [isB_ch (by omega), isB_ch (by omega), stB_ch, stB_ch, h0, h1, escB_no (by omega), escB_no (by omega)]
    rcases hc with rfl | rfl <;> rcases hq2 with h | h | h <;> rw [h] <;> rfl
  rw [nxtS_at (by omega) (by omega)]
  unfold nxtC
  rw [get_ch (by omega), h0, hn, hm, isB_ch (by omega), h1]
  have e : (if c = 45 ∧ decide (ch q 0 = 45) = true ∧ isB l (p.length + 2) 62 = true then (⟨15, p.length, p.length + 3, [], [], false⟩ : Tok) else sgnF l p.length c [(40, 21), (41, 22), (91, 19), (93, 20), (123, 23), (125, 24), (44, 18), (58, 16), (59, 17)]) = ⟨9, p.length, p.length + 1, textS [c], [], false⟩ := by
    rw [if_neg (by rintro ⟨_, h, _⟩; rw [decide_eq_true_eq] at h; omega)]
    have := h3
    rcases hc with rfl | rfl
    · simp [sgnF, h3]
    · simp [sgnF, h3]
  rw [if_neg (by rcases hc with rfl | rfl <;> decide), if_neg (by omega), if_neg (by omega), if_neg (by simp)]
  by_cases h45 : c = 45 ∧ decide (ch q 0 = 45) = true ∧ isB l (p.length + 2) 62 = true
  · exfalso
    have := of_decide_eq_true h45.2.1
    omega
  · rw [if_neg h45] at e ⊢
    rw [if_neg (by simp), if_neg (by rintro ⟨h, _⟩; omega), if_neg (by rintro ⟨h, _⟩; omega), if_neg (by rintro ⟨h, _⟩; omega)]
    exact e
end Go.Proofs.YtkgkmlhljeidhaaGreatDoor
set_option linter.unusedSimpArgs false
set_option linter.unusedVariables false
set_option linter.unusedSectionVars false
namespace Go.Proofs.YtkgkmlhljeidhaaGreatDoor
open Go.Ev
set_option maxRecDepth 100000
set_option maxHeartbeats 4000000
def tkZ : Tok := ⟨0, 0, 0, [], [], false⟩
def tk (L : List Tok) (i : Int) : Tok := L.getD i.toNat tkZ
theorem tk_out {L : List Tok} {i : Int} (h : (L.length : Int) ≤ i) : tk L i = tkZ := by
  unfold tk
  rw [List.getD_eq_getElem?_getD, List.getElem?_eq_none (by omega)]
  rfl
theorem tk_k {L : List Tok} {i : Int} (h : (tk L i).k ≠ 0) : i < L.length := by
  by_cases h1 : i < L.length
  · exact h1
  · exact absurd (by rw [tk_out (by omega)]; rfl) h
theorem len_toks {l : List Tok} : (toks l).length = l.length := by
  unfold toks
  rw [List.length_map]
theorem iaddr_toks {l : List Tok} {c : Cap} {k : IntKind} {i : Int} (h : 0 ≤ i ∧ i < l.length) : eI 6 (.int k i) (.sl (toks l) c) = some (.eptr [.int .i64 (tk l i).k, .int .i64 (tk l i).f, .int .i64 (tk l i).t, .str (tk l i).s, .str (tk l i).n, .bool (tk l i).w] 0) := iaddr_map (f := Tok.v) (fun _ => rfl) tkZ h
attribute [go_sem] len_toks iaddr_toks
def skF (L : List Tok) : Nat → Int → Int
  | 0, i => i
  | f + 1, i => if (tk L i).k = 13 then skF L f (i + 1) else i
def skS (L : List Tok) (i : Int) : Int := skF L (L.length + 1) i
theorem skF_le (L : List Tok) : ∀ (f : Nat) (i : Int), i ≤ skF L f i ∧ skF L f i ≤ max i L.length
  | 0, i => by unfold skF; omega
  | f + 1, i => by
    have ih := skF_le L f (i + 1)
    unfold skF
    split
    · rename_i h
      have := tk_k (L := L) (i := i) (by omega)
      omega
    · omega
theorem skS_le (L : List Tok) (i : Int) : i ≤ skS L i ∧ skS L i ≤ max i L.length := skF_le L _ i
def sgT (n : List UInt8) : Bool := decide (((n.getD 0 0).toNat : Int) = 43) || decide (((n.getD 0 0).toNat : Int) = 45)
def numT (L : List Tok) (i : Int) (s : Bool) : Bool := decide ((tk L i).k = 10) && (tk L i).w && decide ((tk L i).n ≠ []) && (sgT (tk L i).n == s)
def Toks (L : List Tok) : Prop := L.length ≤ 1000000000 ∧ ∀ t ∈ L, t.s.length ≤ 10000000000 ∧ t.n.length ≤ 10000000000
theorem Toks.get {L : List Tok} (h : Toks L) (i : Int) : (tk L i).s.length ≤ 10000000000 ∧ (tk L i).n.length ≤ 10000000000 := by
  unfold tk
  rw [List.getD_eq_getElem?_getD]
  cases hg : L[i.toNat]? with
  | none => exact ⟨Nat.zero_le _, Nat.zero_le _⟩
  | some t => exact h.2 t (List.mem_of_getElem? hg)
section
variable {L : List Tok} (hL : Toks L)
include hL
end
end Go.Proofs.YtkgkmlhljeidhaaGreatDoor
set_option linter.unusedSimpArgs false
set_option linter.unusedVariables false
set_option linter.unusedSectionVars false
namespace Go.Proofs.YtkgkmlhljeidhaaGreatDoor
open Go.Ev
set_option maxRecDepth 100000
set_option maxHeartbeats 8000000
theorem lowS_len (s : List UInt8) : (lowS s).length = s.length := by unfold lowS; rw [List.length_map]
section
variable {L : List Tok} (hL : Toks L)
include hL
end
end Go.Proofs.YtkgkmlhljeidhaaGreatDoor
set_option linter.unusedSimpArgs false
set_option linter.unusedVariables false
set_option linter.unusedSectionVars false
namespace Go.Proofs.YtkgkmlhljeidhaaGreatDoor
open Go.Ev
set_option maxRecDepth 100000
set_option maxHeartbeats 8000000
theorem numT_lt {L : List Tok} {i : Int} {s : Bool} (h : numT L i s = true) : i < L.length := by
  unfold numT at h
  simp only [Bool.and_eq_true, decide_eq_true_eq] at h
  exact tk_k (by omega)
section
variable {L : List Tok} (hL : Toks L)
include hL
end
end Go.Proofs.YtkgkmlhljeidhaaGreatDoor
set_option linter.unusedSimpArgs false
set_option linter.unusedVariables false
set_option linter.unusedSectionVars false
namespace Go.Proofs.YtkgkmlhljeidhaaGreatDoor
open Go.Ev
set_option maxRecDepth 100000
set_option maxHeartbeats 8000000
section
variable {L : List Tok} (hL : Toks L)
include hL
end
end Go.Proofs.YtkgkmlhljeidhaaGreatDoor
set_option linter.unusedSimpArgs false
set_option linter.unusedVariables false
set_option linter.unusedSectionVars false
namespace Go.Ev
theorem iaddr_hs {k : IntKind} {i : Int} {o len : Nat} {ag : Bool} (h : 0 ≤ i ∧ i < len) : eI 1 (.int k i) (.hs o 0 len 1 ag) = some (.ptr o i.toNat) := by
  simp only [eI, index, if_pos h, Option.bind_eq_bind, Option.bind_some, if_true, Nat.mul_one, Nat.zero_add]
theorem part_bytes {s : List UInt8} {i : Nat} (h : i < s.length) : part false 1 (ofBytes s) i = some (.int .u8 (s.getD i 0).toNat) := by
  simp only [part, Bool.false_eq_true, if_false, if_true, ofBytes, List.getElem?_map, List.getElem?_eq_getElem h, Option.map_some, List.getD_eq_getElem?_getD, Option.getD_some]
  rfl
theorem chunks_bytes : ∀ (r p : List UInt8), chunks false 1 (ofBytes (p ++ r)) r.length p.length = some (ofBytes r)
  | [], p => rfl
  | b :: r, p => by
    have h := chunks_bytes r (p ++ [b])
    rw [List.append_assoc] at h
    simp only [List.length_append, List.length_cons, List.length_nil, List.cons_append, List.nil_append, Nat.zero_add] at h
    have h2 : part false 1 (ofBytes (p ++ b :: r)) p.length = some (.int .u8 b.toNat) := by
      rw [part_bytes (by simp)]
      simp
    rw [List.length_cons]
    simp only [chunks, h2, h, Option.bind_eq_bind, Option.bind_some, Option.pure_def]
    rfl
theorem bytesStr_hs {s : List UInt8} {τ : Objs} : eC (.cells (ofBytes s) :: τ) .bytesStr (.hs 0 0 s.length 1 false) = (bytesOf (ofBytes s)).map V.str := by
  have h := chunks_bytes s []
  simp only [List.nil_append, List.length_nil] at h
  show (rowOf (.cells (ofBytes s) :: τ) (.hs 0 0 s.length 1 false)).bind (fun xs => (bytesOf xs).map V.str) = _
  have h2 : rowOf (.cells (ofBytes s) :: τ) (.hs 0 0 s.length 1 false) = some (ofBytes s) := h
  rw [h2]
  rfl
theorem set_bytes {p r : List UInt8} {b c : UInt8} : (ofBytes (p ++ b :: r)).set p.length (.int .u8 c.toNat) = ofBytes (p ++ c :: r) := by
  unfold ofBytes
  rw [List.map_append, List.map_append, List.map_cons, List.map_cons, List.set_append_right _ _ (by simp)]
  simp
theorem bytesHV_nil {s : List UInt8} : bytesHV [] (.str s) = some (.hs 0 0 s.length 1 false, [.cells (ofBytes s)]) := rfl
theorem bytes_len {s : List UInt8} : (ofBytes s).length = s.length := by unfold ofBytes; rw [List.length_map]
attribute [go_sem] iaddr_hs part_bytes bytesHV_nil bytes_len
end Go.Ev
namespace Go.Proofs.YtkgkmlhljeidhaaGreatDoor
open Go.Ev
set_option maxRecDepth 100000
set_option maxHeartbeats 4000000
theorem d_cSmall (c : Int) (hc : -1000000000 ≤ c ∧ c ≤ 1000000000) (σ : Objs) (hσ : Wf σ) : E cx 70 [.int .i64 c] σ = some (.int .i64 (smallZ c), σ) := by
  rw [e_Zj]
  unfold smallZ
  by_cases h1 : 65 ≤ c
  · by_cases h2 : c ≤ 90
    · have e : c + 97 - 65 = c + 32 := by omega
      simp +contextual -implicitDefEqProofs (disch := first | assumption | omega | (simp -implicitDefEqProofs only [go_sem]; try omega)) only [↓reduceIte, go_sem, iP, iN, w64, w8, w32, s_Zj, h1, h2, e, true_and]
    · simp +contextual -implicitDefEqProofs (disch := first | assumption | omega | (simp -implicitDefEqProofs only [go_sem]; try omega)) only [↓reduceIte, go_sem, iP, iN, w64, w8, w32, s_Zj, h1, h2, and_false]
  · simp +contextual -implicitDefEqProofs (disch := first | assumption | omega | (simp -implicitDefEqProofs only [go_sem]; try omega)) only [↓reduceIte, go_sem, iP, iN, w64, w8, w32, s_Zj, h1, false_and]
theorem lowB_nat (b : UInt8) : ((lowB b).toNat : Int) = smallZ b.toNat := by
  have hb := UInt8.toNat_lt b
  exact putB_nat (smallZ_le (by omega))
theorem d_clow0 (n : Nat) (hn : n ≤ 100000000000) : ∀ (r p : List UInt8), n = p.length + r.length →
    l_Zh_0 (Mi cx) 0 1 [.hs 0 0 n 1 false, .hs 0 0 n 1 false, .int .i64 n, .int .i64 p.length] [.cells (ofBytes (p ++ r))] = some (.str (p ++ lowS r), [])
  | [], p, hp => by
    have hlen : n = (p ++ ([] : List UInt8)).length := by rw [hp]; simp
    have hc : ¬ p.length < n := by rw [hp]; simp
    have h1 : eC [.cells (ofBytes (p ++ ([] : List UInt8)))] .bytesStr (.hs 0 0 n 1 false) = some (.str (p ++ [])) := by
      rw [hlen, bytesStr_hs, bytesOf_of]; rfl
    have e : lowS [] = [] := rfl
    rw [u_Zh_0, e]
    simp only [List.append_nil] at h1 ⊢
    simp +contextual -implicitDefEqProofs (disch := first | assumption | omega | (simp -implicitDefEqProofs only [go_sem]; try omega)) only [↓reduceIte, go_sem, iP, iN, w64, w8, w32, b_Zh_0, hc, h1]
  | b :: r, p, hp => by
    have hlen : n = p.length + r.length + 1 := by rw [hp]; simp; omega
    have hb := UInt8.toNat_lt b
    have hz := smallZ_le (c := (b.toNat : Int)) (by omega)
    have h1 := fun σ hσ => d_cSmall (b.toNat : Int) (by omega) σ hσ
    have h2 : (ofBytes (p ++ b :: r)).set p.length (.int .u8 (smallZ b.toNat)) = ofBytes (p ++ lowB b :: r) := by
      rw [← lowB_nat, set_bytes]
    have ih := d_clow0 n hn r (p ++ [lowB b]) (by simp; omega)
    simp only [List.append_assoc, List.cons_append, List.nil_append, List.length_append, List.length_cons, List.length_nil, Nat.zero_add] at ih
    have e : lowS (b :: r) = lowB b :: lowS r := rfl
    have e2 : (p.length + 1 : Nat) = ((p.length : Nat) : Int) + 1 := by omega
    rw [e2] at ih
    have h3 : (p ++ b :: r).getD p.length 0 = b := by simp
    have hl : p.length < (p ++ b :: r).length := by simp
    have e3 : ((p.length : Nat) : Int).toNat = p.length := by omega
    rw [u_Zh_0, e]
    simp +contextual -implicitDefEqProofs (disch := first | assumption | omega | (simp -implicitDefEqProofs only [go_sem]; try omega)) only [↓reduceIte, go_sem, iP, iN, w64, w8, w32, b_Zh_0, h1, h2, h3, ih, e3]
theorem d_cLower (s : List UInt8) (hs : s.length ≤ 100000000000) (σ : Objs) (hσ : Wf σ) : E cx 44 [.str s] σ = some (.str (lowS s), σ) := by
  refine E_any cx_cl ?_ rfl rfl σ hσ
  have h := d_clow0 s.length hs s [] (by simp)
  simp only [List.nil_append, List.length_nil] at h
  have h' : l_Zh_0 (Mi cx) 0 1 [.hs 0 0 s.length 1 false, .hs 0 0 s.length 1 false, .int .i64 s.length, .int .i64 0] [.cells (ofBytes s)] = some (.str (lowS s), []) := h
  rw [e_Zh]
  simp +contextual -implicitDefEqProofs (disch := first | assumption | omega | (simp -implicitDefEqProofs only [go_sem]; try omega)) only [↓reduceIte, go_sem, iP, iN, w64, w8, w32, s_Zh, h']
theorem d_Same (s t : List UInt8) (hs : s.length ≤ 100000000000) (ht : t.length ≤ 100000000000) (σ : Objs) (hσ : Wf σ) : E cx 42 [.str s, .str t] σ = some (.bool (decide (lowS s = lowS t)), σ) := by
  have h1 := fun σ hσ => d_cLower s hs σ hσ
  have h2 := fun σ hσ => d_cLower t ht σ hσ
  rw [e_Zi]
  simp +contextual -implicitDefEqProofs (disch := first | assumption | omega | (simp -implicitDefEqProofs only [go_sem]; try omega)) only [↓reduceIte, go_sem, iP, iN, w64, w8, w32, s_Zi, h1, h2]
def preB (s p : List UInt8) : Bool := decide (s.take p.length = p)
theorem d_HasP (s p : List UInt8) (hs : s.length ≤ 100000000000) (hp : p.length ≤ 100000000000) (σ : Objs) (hσ : Wf σ) : E cx 72 [.str s, .str p] σ = some (.bool (preB s p), σ) := by
  rw [e_Zl]
  unfold preB
  by_cases h : p.length ≤ s.length
  · have h1 : evCutS (.str s) none (some (.int .i64 p.length)) = some (.str (s.take p.length)) := cutS_hi (by omega)
    simp +contextual -implicitDefEqProofs (disch := first | assumption | omega | (simp -implicitDefEqProofs only [go_sem]; try omega)) only [↓reduceIte, go_sem, iP, iN, w64, w8, w32, s_Zl, h, h1]
  · have h2 : ¬ s.take p.length = p := fun e => h (by rw [← e, List.length_take]; omega)
    simp +contextual -implicitDefEqProofs (disch := first | assumption | omega | (simp -implicitDefEqProofs only [go_sem]; try omega)) only [↓reduceIte, go_sem, iP, iN, w64, w8, w32, s_Zl, h, h2]
theorem d_HasPrefix (s p : List UInt8) (hs : s.length ≤ 100000000000) (hp : p.length ≤ 100000000000) (σ : Objs) (hσ : Wf σ) : E cx 46 [.str s, .str p] σ = some (.bool (preB s p), σ) := by
  have h1 := fun σ hσ => d_HasP s p hs hp σ hσ
  rw [e_Zo]
  simp +contextual -implicitDefEqProofs (disch := first | assumption | omega | (simp -implicitDefEqProofs only [go_sem]; try omega)) only [↓reduceIte, go_sem, iP, iN, w64, w8, w32, s_Zo, h1]
theorem d_CutP (s p : List UInt8) (hs : s.length ≤ 100000000000) (hp : p.length ≤ 100000000000) (σ : Objs) (hσ : Wf σ) : E cx 71 [.str s, .str p] σ = some (.tup [.str (if preB s p then s.drop p.length else s), .bool (preB s p)], σ) := by
  have h1 := fun σ hσ => d_HasP s p hs hp σ hσ
  rw [e_Zk]
  cases hb : preB s p with
  | true =>
    rw [hb] at h1
    have h2 : p.length ≤ s.length := by
      have := of_decide_eq_true hb
      have h3 : (s.take p.length).length = p.length := by rw [this]
      rw [List.length_take] at h3; omega
    have h4 : evCutS (.str s) (some (.int .i64 p.length)) none = some (.str (s.drop p.length)) := cutS_lo (by omega)
    simp +contextual -implicitDefEqProofs (disch := first | assumption | omega | (simp -implicitDefEqProofs only [go_sem]; try omega)) only [↓reduceIte, go_sem, iP, iN, w64, w8, w32, s_Zk, h1, h4]
  | false => simp +contextual -implicitDefEqProofs (disch := first | assumption | omega | (simp -implicitDefEqProofs only [go_sem]; try omega)) only [↓reduceIte, go_sem, iP, iN, w64, w8, w32, s_Zk, h1, hb, Bool.false_eq_true]
theorem d_CutPrefix (s p : List UInt8) (hs : s.length ≤ 100000000000) (hp : p.length ≤ 100000000000) (σ : Objs) (hσ : Wf σ) : E cx 45 [.str s, .str p] σ = some (.tup [.str (if preB s p then s.drop p.length else s), .bool (preB s p)], σ) := by
  have h1 := fun σ hσ => d_CutP s p hs hp σ hσ
  rw [e_Zn]
  simp +contextual -implicitDefEqProofs (disch := first | assumption | omega | (simp -implicitDefEqProofs only [go_sem]; try omega)) only [↓reduceIte, go_sem, iP, iN, w64, w8, w32, s_Zn, h1]
theorem E_on {f : FuncId} {args : List V} {cs cs' : List V} {r : V} (h : E cx f (.ptr 0 0 :: args) [.cells cs] = some (r, [.cells cs'])) (ha : V.rbs 0 args = true) (hc : V.rbs 0 cs = true) (hc' : V.rbs 0 cs' = true) (hr : V.rb 0 r = true)
    (τ : Objs) (hτ : FrW 1 τ) : E cx f (.ptr 0 0 :: args) (.cells cs :: τ) = some (r, .cells cs' :: τ) := by
  have h1 := E_frame cx_cl (b := 1) hτ (Nat.le_refl _) h
  rw [List.map_cons, ← shs_map, shs_closed ha, sh_closed hr] at h1
  have e : ∀ ds : List V, V.rbs 0 ds = true → ins 1 τ [.cells ds] = .cells ds :: τ := by
    intro ds hd
    show (List.take 1 [O.sh 1 τ.length (.cells ds)] ++ τ) ++ List.drop 1 [O.sh 1 τ.length (.cells ds)] = _
    have : O.sh 1 τ.length (.cells ds) = .cells ds := by show O.cells (ds.map (V.sh 1 τ.length)) = _; rw [← shs_map, shs_closed hd]
    rw [this]
    simp
  rw [e _ hc, e _ hc'] at h1
  exact h1
end Go.Proofs.YtkgkmlhljeidhaaGreatDoor
set_option linter.unusedSimpArgs false
set_option linter.unusedVariables false
set_option linter.unusedSectionVars false
namespace Go.Proofs.YtkgkmlhljeidhaaGreatDoor
open Go.Ev
set_option maxRecDepth 100000
set_option maxHeartbeats 4000000
theorem neq_errV {k : Int} : eB .neq .ifc (errV k) .nili = some (.bool (decide (¬ k = 0))) := by
  unfold errV
  split
  · rename_i h; rw [h]; rfl
  · rename_i h; rw [decide_eq_true h]; rfl
theorem sto0_errV {off : Nat} {cs : List V} {k : Int} {τ : Objs} (h2 : off + 1 ≤ cs.length) :
    stV (.cells cs :: τ) 1 (.ptr 0 off) (errV k) (errV k) = some (.undef, .cells (cs.set off (errV k)) :: τ) := by
  unfold errV
  split
  · show (if (V.nili).cells.length = 1 ∧ off + 1 ≤ cs.length ∧ okCells (V.nili).cells = true then _ else _) = _
    rw [if_pos ⟨rfl, h2, rfl⟩]; rfl
  · show (if (failV k 0).cells.length = 1 ∧ off + 1 ≤ cs.length ∧ okCells (failV k 0).cells = true then _ else _) = _
    rw [if_pos ⟨rfl, h2, rfl⟩]; rfl
theorem frw_nil : FrW 1 [] = True := by unfold FrW; simp
theorem frw_one {cs : List V} : FrW 1 [.cells cs] = (V.rbs 2 cs = true) := by unfold FrW; simp [O.rb]
attribute [go_sem] errV_nogr errV_rb neq_errV eq_errV sto0_errV frw_nil frw_one
def comb (k e : Int) : Int := if k = 0 then e else k
def rdC (L : List Tok) (a k : Int) : List V := [.sl (toks L) .no, .int .i64 a, errV k]
theorem rdC_rb (L : List Tok) (a k : Int) : V.rbs 0 (rdC L a k) = true := by
  unfold rdC
  simp only [rbs_cons, toks_rb, errV_rb, rbs_nil]
  rfl
section
variable {L : List Tok} (hL : Toks L) (a k : Int)
include hL
theorem d_look1 (n : Int) (hn : 0 ≤ n) : E cx 41 [.ptr 0 0, .int .i64 n] [.cells [.sl (toks L) .no, .int .i64 a, errV k]] = some (.agg [.int .i64 (tk L n).k, .int .i64 (tk L n).f, .int .i64 (tk L n).t, .str (tk L n).s, .str (tk L n).n, .bool (tk L n).w], [.cells [.sl (toks L) .no, .int .i64 a, errV k]]) := by
  rw [e_Z3]
  by_cases h : (L.length : Int) ≤ n
  · rw [tk_out h]
    simp +contextual -implicitDefEqProofs (disch := first | assumption | omega | (simp -implicitDefEqProofs only [go_sem]; try omega)) only [↓reduceIte, go_sem, iP, iN, w64, w8, w32, s_Z3, h, tkZ]
  · simp +contextual -implicitDefEqProofs (disch := first | assumption | omega | (simp -implicitDefEqProofs only [go_sem]; try omega)) only [↓reduceIte, go_sem, iP, iN, w64, w8, w32, s_Z3, h]
theorem d_look (n : Int) (hn : 0 ≤ n) (τ : Objs) (hτ : FrW 1 τ) : E cx 41 [.ptr 0 0, .int .i64 n] (.cells [.sl (toks L) .no, .int .i64 a, errV k] :: τ) = some (.agg [.int .i64 (tk L n).k, .int .i64 (tk L n).f, .int .i64 (tk L n).t, .str (tk L n).s, .str (tk L n).n, .bool (tk L n).w], .cells [.sl (toks L) .no, .int .i64 a, errV k] :: τ) :=
  E_on (d_look1 hL a k n hn) rfl (rdC_rb L a k) (rdC_rb L a k) rfl τ hτ
theorem d_askip0 : ∀ (f : Nat) (i : Int), (L.length : Int) - i < f → 0 ≤ i ∧ i ≤ 2000000000 →
    l_Z5_0 (Mi cx) 1 1 [.ptr 0 0, .int .i64 i] [.cells [.sl (toks L) .no, .int .i64 a, errV k]] = some (.int .i64 (skF L f i), [.cells [.sl (toks L) .no, .int .i64 a, errV k]])
  | 0, i, hf, hi => by
    have h1 := fun τ hτ => d_look hL a k i hi.1 τ hτ
    have h2 : tk L i = tkZ := tk_out (by omega)
    rw [h2] at h1
    simp only [tkZ] at h1
    rw [u_Z5_0]
    simp +contextual -implicitDefEqProofs (disch := first | assumption | omega | (simp -implicitDefEqProofs only [go_sem]; try omega)) only [↓reduceIte, go_sem, iP, iN, w64, w8, w32, b_Z5_0, h1, skF]
  | f + 1, i, hf, hi => by
    have hl2 := hL.1
    have h1 := fun τ hτ => d_look hL a k i hi.1 τ hτ
    have hlt : (tk L i).k = 13 → i < L.length := fun h => tk_k (by omega)
    unfold skF
    generalize tk L i = t at h1 hlt ⊢
    rw [u_Z5_0]
    by_cases hk : t.k = 13
    · have hl := hlt hk
      have ih := d_askip0 f (i + 1) (by omega) (by omega)
      simp +contextual -implicitDefEqProofs (disch := first | assumption | omega | (simp -implicitDefEqProofs only [go_sem]; try omega)) only [↓reduceIte, go_sem, iP, iN, w64, w8, w32, b_Z5_0, h1, hk, ih]
    · simp +contextual -implicitDefEqProofs (disch := first | assumption | omega | (simp -implicitDefEqProofs only [go_sem]; try omega)) only [↓reduceIte, go_sem, iP, iN, w64, w8, w32, b_Z5_0, h1, hk]
theorem d_askip (i : Int) (hi : 0 ≤ i ∧ i ≤ 2000000000) (τ : Objs) (hτ : FrW 1 τ) : E cx 25 [.ptr 0 0, .int .i64 i] (.cells [.sl (toks L) .no, .int .i64 a, errV k] :: τ) = some (.int .i64 (skS L i), .cells [.sl (toks L) .no, .int .i64 a, errV k] :: τ) := by
  refine E_on (cs := [.sl (toks L) .no, .int .i64 a, errV k]) (cs' := [.sl (toks L) .no, .int .i64 a, errV k]) ?_ rfl (rdC_rb L a k) (rdC_rb L a k) rfl τ hτ
  have h := d_askip0 hL a k (L.length + 1) i (by omega) hi
  rw [e_Z5]
  simp +contextual -implicitDefEqProofs (disch := first | assumption | omega | (simp -implicitDefEqProofs only [go_sem]; try omega)) only [↓reduceIte, go_sem, iP, iN, w64, w8, w32, s_Z5, h, skS]
theorem d_awhole (s : List UInt8) (hs : s.length ≤ 100000000000) (τ : Objs) (hτ : FrW 1 τ) : E cx 43 [.ptr 0 0, .str s] (.cells [.sl (toks L) .no, .int .i64 a, errV k] :: τ) = some (.int .i64 (wS s).1, .cells [.sl (toks L) .no, .int .i64 a, errV (comb k (wS s).2)] :: τ) := by
  refine E_on (cs := [.sl (toks L) .no, .int .i64 a, errV k]) (cs' := [.sl (toks L) .no, .int .i64 a, errV (comb k (wS s).2)]) ?_ rfl (rdC_rb L a k) (rdC_rb L a _) rfl τ hτ
  have h1 := fun σ hσ => d_pWhole s (by omega) σ hσ
  rw [e_Z7]
  generalize (wS s) = x at h1 ⊢
  unfold comb
  by_cases c1 : x.2 = 0
  · by_cases c2 : k = 0
    · rw [if_pos c2, c2, c1]
      rw [c1] at h1
      simp +contextual -implicitDefEqProofs (disch := first | assumption | omega | (simp -implicitDefEqProofs only [go_sem]; try omega)) only [↓reduceIte, go_sem, iP, iN, w64, w8, w32, s_Z7, j_Z7_0, h1]
    · rw [if_neg c2]
      simp +contextual -implicitDefEqProofs (disch := first | assumption | omega | (simp -implicitDefEqProofs only [go_sem]; try omega)) only [↓reduceIte, go_sem, iP, iN, w64, w8, w32, s_Z7, j_Z7_0, h1, c1, c2]
  · by_cases c2 : k = 0
    · rw [if_pos c2, c2]
      simp +contextual -implicitDefEqProofs (disch := first | assumption | omega | (simp -implicitDefEqProofs only [go_sem]; try omega)) only [↓reduceIte, go_sem, iP, iN, w64, w8, w32, s_Z7, j_Z7_0, h1, c1, List.set_cons_succ, List.set_cons_zero]
    · rw [if_neg c2]
      simp +contextual -implicitDefEqProofs (disch := first | assumption | omega | (simp -implicitDefEqProofs only [go_sem]; try omega)) only [↓reduceIte, go_sem, iP, iN, w64, w8, w32, s_Z7, j_Z7_0, h1, c1, c2]
theorem d_anum (i : Int) (hi : 0 ≤ i) (s : Bool) (τ : Objs) (hτ : FrW 1 τ) : E cx 48 [.ptr 0 0, .int .i64 i, .bool s] (.cells [.sl (toks L) .no, .int .i64 a, errV k] :: τ) = some (.bool (numT L i s), .cells [.sl (toks L) .no, .int .i64 a, errV k] :: τ) := by
  refine E_on (cs := [.sl (toks L) .no, .int .i64 a, errV k]) (cs' := [.sl (toks L) .no, .int .i64 a, errV k]) ?_ rfl (rdC_rb L a k) (rdC_rb L a k) rfl τ hτ
  have h1 := fun τ hτ => d_look hL a k i hi τ hτ
  rw [e_Z4]
  unfold numT
  generalize tk L i = t at h1 ⊢
  by_cases hk : t.k = 10
  · cases hw : t.w with
    | true =>
      by_cases hn : t.n = []
      · simp +contextual -implicitDefEqProofs (disch := first | assumption | omega | (simp -implicitDefEqProofs only [go_sem]; try omega)) only [↓reduceIte, go_sem, iP, iN, w64, w8, w32, s_Z4, h1, hk, hw, hn, Bool.true_and, decide_true, ne_eq, not_true_eq_false, decide_false, Bool.false_and]
      · have hn2 : 0 < t.n.length := List.length_pos_iff.2 hn
        rw [decide_eq_true hk, decide_eq_true hn, Bool.true_and, Bool.true_and]
        unfold sgT
        by_cases g1 : ((t.n.getD 0 0).toNat : Int) = 43
        · simp +contextual -implicitDefEqProofs (disch := first | assumption | omega | (simp -implicitDefEqProofs only [go_sem]; try omega)) only [↓reduceIte, go_sem, iP, iN, w64, w8, w32, s_Z4, h1, hk, hw, hn, g1]
          cases s <;> rfl
        · by_cases g2 : ((t.n.getD 0 0).toNat : Int) = 45
          · simp +contextual -implicitDefEqProofs (disch := first | assumption | omega | (simp -implicitDefEqProofs only [go_sem]; try omega)) only [↓reduceIte, go_sem, iP, iN, w64, w8, w32, s_Z4, h1, hk, hw, hn, g1, g2]
            cases s <;> rfl
          · simp +contextual -implicitDefEqProofs (disch := first | assumption | omega | (simp -implicitDefEqProofs only [go_sem]; try omega)) only [↓reduceIte, go_sem, iP, iN, w64, w8, w32, s_Z4, h1, hk, hw, hn, g1, g2]
            cases s <;> rfl
    | false => simp +contextual -implicitDefEqProofs (disch := first | assumption | omega | (simp -implicitDefEqProofs only [go_sem]; try omega)) only [↓reduceIte, go_sem, iP, iN, w64, w8, w32, s_Z4, h1, hk, hw, Bool.true_and, Bool.false_and, Bool.and_false]
  · simp +contextual -implicitDefEqProofs (disch := first | assumption | omega | (simp -implicitDefEqProofs only [go_sem]; try omega)) only [↓reduceIte, go_sem, iP, iN, w64, w8, w32, s_Z4, h1, hk, Bool.false_and, decide_false]
end
end Go.Proofs.YtkgkmlhljeidhaaGreatDoor
set_option linter.unusedSimpArgs false
set_option linter.unusedVariables false
set_option linter.unusedSectionVars false
namespace Go.Proofs.YtkgkmlhljeidhaaGreatDoor
open Go.Ev
set_option maxRecDepth 100000
set_option maxHeartbeats 8000000
theorem comb_0 {k : Int} : comb k 0 = k := by
  unfold comb
  by_cases h : k = 0
  · rw [if_pos h, h]
  · rw [if_neg h]
def cutN (p name : List UInt8) : List UInt8 × Bool := (if preB name p then name.drop p.length else name, preB name p)
def headA (L : List Tok) (i : Int) : Int × (List UInt8 × Bool) × Int × Int :=
  if (tk L i).k = 9 ∧ (tk L i).s = [43] ∧ (tk L (i + 1)).k = 1 then (1, cutN [110] (lowS (tk L (i + 1)).s), i + 2, 0)
  else if (tk L i).k = 1 then (if preB (lowS (tk L i).s) [45] = true then (-1, cutN [45, 110] (lowS (tk L i).s), i + 1, 0) else (1, cutN [110] (lowS (tk L i).s), i + 1, 0))
  else if (tk L i).k = 12 then (if (tk L i).w = true then (if preB (lowS (tk L i).s) [110] = true then ((wS (tk L i).n).1, cutN [110] (lowS (tk L i).s), i + 1, (wS (tk L i).n).2) else (0, cutN [110] (lowS (tk L i).s), i + 1, 0)) else (0, ([], false), i + 1, 0))
  else (0, ([], false), i + 1, 0)
def tailA (L : List Tok) (a : Int) : Int × Int × Int :=
  if numT L (skS L a) true = true then ((wS (tk L (skS L a)).n).1, skS L a + 1, (wS (tk L (skS L a)).n).2)
  else if (tk L (skS L a)).k = 9 ∧ ((tk L (skS L a)).s = [43] ∨ (tk L (skS L a)).s = [45]) ∧ numT L (skS L (skS L a + 1)) false = true then
    ((wS ((tk L (skS L a)).s ++ (tk L (skS L (skS L a + 1))).n)).1, skS L (skS L a + 1) + 1, (wS ((tk L (skS L a)).s ++ (tk L (skS L (skS L a + 1))).n)).2)
  else (0, a, 0)
def whB (s : List UInt8) (a : Int) : (Int × Bool) × Int × Int := if (wS s).2 = 0 ∨ (wS s).2 = 3 then (((wS s).1, true), a, (wS s).2) else ((0, false), a, 0)
def behA (L : List Tok) (r : List UInt8) (a : Int) : (Int × Bool) × Int × Int :=
  if r = [] then (((tailA L a).1, true), (tailA L a).2.1, (tailA L a).2.2)
  else if r = [45] then (if numT L (skS L a) false = true then whB (45 :: (tk L (skS L a)).n) (skS L a + 1) else ((0, false), a, 0))
  else if ((r.getD 0 0).toNat : Int) = 45 then (if digitB ((r.getD 1 0).toNat : Int) = true then whB r a else ((0, false), a, 0))
  else ((0, false), a, 0)
def fixA (t : Tok) : Option (Int × Int × Int) :=
  if t.k = 1 ∧ lowS t.s = [101, 118, 101, 110] then some (2, 0, 0)
  else if t.k = 1 ∧ lowS t.s = [111, 100, 100] then some (2, 1, 0)
  else if t.k = 10 ∧ t.w = true then some (0, (wS t.n).1, (wS t.n).2) else none
theorem d_over (k : Int) (hk : k ≠ 0) (σ : Objs) (hσ : Wf σ) : E cx 49 [errV k] σ = some (.bool (decide (k = 3)), σ) := by
  have hp : E cx 35 [errV k, .ifc 38 (.int .i64 3)] σ = some (.bool (decide (k = 3)), σ) := by
    rw [E_prim (C := cx) (h := isP) (by kernel_rfl)]
    have e : errV k = failV k 0 := if_neg hk
    rw [e]
    by_cases h : k = 3
    · subst h; rfl
    · have : (3 : Int) ∈ [k] ↔ False := by simp; omega
      show some (V.bool (decide (3 ∈ [k])), σ) = _
      simp only [this, decide_false, h]
  rw [e_Ze]
  simp +contextual -implicitDefEqProofs (disch := first | assumption | omega | (simp -implicitDefEqProofs only [go_sem]; try omega)) only [↓reduceIte, go_sem, iP, iN, w64, w8, w32, s_Ze, hp]
section
variable {L : List Tok} (hL : Toks L) (a k : Int)
include hL
theorem d_afix (ha : 0 ≤ a ∧ a ≤ 2000000000) : E cx 26 [.ptr 0 0] [.cells [.sl (toks L) .no, .int .i64 a, errV k]] =
    match fixA (tk L a) with
    | some (x, y, e) => some (.tup [.int .i64 x, .int .i64 y, .bool true], [.cells [.sl (toks L) .no, .int .i64 (a + 1), errV (comb k e)]])
    | none => some (.tup [.int .i64 0, .int .i64 0, .bool false], [.cells [.sl (toks L) .no, .int .i64 a, errV k]]) := by
  have h0 := hL.get a
  have h1 := fun τ hτ => d_look hL a k a (by omega) τ hτ
  have hev : lowS [101, 118, 101, 110] = [101, 118, 101, 110] := by decide
  have hod : lowS [111, 100, 100] = [111, 100, 100] := by decide
  rw [e_Z1]
  generalize tk L a = t at h0 h1 ⊢
  have h2 := fun σ hσ => d_Same t.s [101, 118, 101, 110] (by omega) (by simp) σ hσ
  have h3 := fun σ hσ => d_Same t.s [111, 100, 100] (by omega) (by simp) σ hσ
  have h4 := fun τ hτ => d_awhole hL a k t.n (by omega) τ hτ
  rw [hev] at h2
  rw [hod] at h3
  unfold fixA
  have hne : (([111, 100, 100] : List UInt8) = [101, 118, 101, 110]) = False := by decide
  by_cases c1 : t.k = 1
  · by_cases c2 : lowS t.s = [101, 118, 101, 110]
    · simp +contextual -implicitDefEqProofs (disch := first | assumption | omega | (simp -implicitDefEqProofs only [go_sem]; try omega)) only [↓reduceIte, go_sem, iP, iN, w64, w8, w32, s_Z1, j_Z1_0, h1, h2, c1, c2, true_and, comb_0, List.set_cons_succ, List.set_cons_zero]
    · by_cases c3 : lowS t.s = [111, 100, 100]
      · simp +contextual -implicitDefEqProofs (disch := first | assumption | omega | (simp -implicitDefEqProofs only [go_sem]; try omega)) only [↓reduceIte, go_sem, iP, iN, w64, w8, w32, s_Z1, j_Z1_0, h1, h2, h3, c1, c3, hne, true_and, comb_0, List.set_cons_succ, List.set_cons_zero]
      · simp +contextual -implicitDefEqProofs (disch := first | assumption | omega | (simp -implicitDefEqProofs only [go_sem]; try omega)) only [↓reduceIte, go_sem, iP, iN, w64, w8, w32, s_Z1, j_Z1_0, h1, h2, h3, c1, c2, c3, true_and, false_and, and_false]
  · by_cases c2 : t.k = 10
    · cases c3 : t.w with
      | true => simp +contextual -implicitDefEqProofs (disch := first | assumption | omega | (simp -implicitDefEqProofs only [go_sem]; try omega)) only [↓reduceIte, go_sem, iP, iN, w64, w8, w32, s_Z1, j_Z1_0, h1, h4, c1, c2, c3, true_and, false_and, and_false, List.set_cons_succ, List.set_cons_zero]
      | false => simp +contextual -implicitDefEqProofs (disch := first | assumption | omega | (simp -implicitDefEqProofs only [go_sem]; try omega)) only [↓reduceIte, go_sem, iP, iN, w64, w8, w32, s_Z1, j_Z1_0, h1, h4, c1, c2, c3, true_and, false_and, and_false, Bool.false_eq_true]
    · simp +contextual -implicitDefEqProofs (disch := first | assumption | omega | (simp -implicitDefEqProofs only [go_sem]; try omega)) only [↓reduceIte, go_sem, iP, iN, w64, w8, w32, s_Z1, j_Z1_0, h1, c1, c2, true_and, false_and]
end
end Go.Proofs.YtkgkmlhljeidhaaGreatDoor
set_option linter.unusedSimpArgs false
set_option linter.unusedVariables false
set_option linter.unusedSectionVars false
namespace Go.Ev
theorem lockS_p {ag : Bool} {sz o off : Nat} {σ : Objs} : lockS [rdLoad ag sz (.ptr o off)] σ = some σ := rfl
theorem openS_p1 {off : Nat} {cs : List V} {P Q : O} {τ τ' : Objs} {s : List UInt8} (h : cs[off]? = some (.str s)) : openS [rdLoad false 1 (.ptr 1 off)] (P :: .cells cs :: τ) (Q :: .cells cs :: τ') = some (Q :: .cells cs :: τ') := by
  show (if (stable (P :: .cells cs :: τ) (Q :: .cells cs :: τ') (.same false 1 off 1) && true) = true then some (Q :: .cells cs :: τ') else none) = _
  have e : stable (P :: .cells cs :: τ) (Q :: .cells cs :: τ') (.same false 1 off 1) = true := by
    show (decide (cs.length = cs.length) && V.beqs (((cs.drop off).take 1).map V.ng) (((cs.drop off).take 1).map V.ng)) = true
    have e1 : (cs.drop off).take 1 = [.str s] := by
      rw [List.take_one, List.head?_drop, h]; rfl
    rw [e1, decide_eq_true rfl]
    simp [V.ng, V.beqs, V.beq]
  rw [e]; rfl
attribute [go_sem] lockS_p
end Go.Ev
namespace Go.Proofs.YtkgkmlhljeidhaaGreatDoor
open Go.Ev
set_option maxRecDepth 100000
set_option maxHeartbeats 8000000
section
variable {L : List Tok} (hL : Toks L) (a k : Int)
include hL
theorem d_ahd (x to : Int) (r : List UInt8) (ok : Bool) (hto : 0 ≤ to ∧ to ≤ 2000000000) (cs : List V) :
    j_Z2_0 (Mi cx) 1 (.ptr 0 0) (.int .i64 x) (.str r) (.bool ok) [.cells [.sl (toks L) .no, .int .i64 to, errV k], .cells cs] = some (.tup [.int .i64 x, .str r, .bool ok], [.cells [.sl (toks L) .no, .int .i64 (to + 1), errV k]]) := by
  simp +contextual -implicitDefEqProofs (disch := first | assumption | omega | (simp -implicitDefEqProofs only [go_sem]; try omega)) only [↓reduceIte, go_sem, iP, iN, w64, w8, w32, j_Z2_0, List.set_cons_succ, List.set_cons_zero]
theorem d_ahead (ha : 0 ≤ a ∧ a ≤ 1000000000) : E cx 27 [.ptr 0 0] [.cells [.sl (toks L) .no, .int .i64 a, errV k]] =
    some (.tup [.int .i64 (headA L a).1, .str (headA L a).2.1.1, .bool (headA L a).2.1.2], [.cells [.sl (toks L) .no, .int .i64 (headA L a).2.2.1, errV (comb k (headA L a).2.2.2)]]) := by
  have h0 := hL.get a
  have h0' := hL.get (a + 1)
  have h1 := fun τ hτ => d_look hL a k a (by omega) τ hτ
  have h2 := fun τ hτ => d_look hL a k (a + 1) (by omega) τ hτ
  have h2' := fun τ hτ => d_look hL (a + 1) k (a + 1) (by omega) τ hτ
  have r1 := fun k x r ok cs => d_ahd hL k x a r ok (by omega) cs
  have r2 := fun k x r ok cs => d_ahd hL k x (a + 1) r ok (by omega) cs
  have ea : a + 1 + 1 = a + 2 := by omega
  rw [ea] at r2
  rw [e_Z2]
  unfold headA
  generalize tk L (a + 1) = u at h0' h2 h2' ⊢
  generalize tk L a = t at h0 h1 ⊢
  have l1 := lowS_len t.s
  have l2 := lowS_len u.s
  have g1 := fun σ hσ => d_cLower t.s (by omega) σ hσ
  have g2 := fun σ hσ => d_cLower u.s (by omega) σ hσ
  have g3 := fun p hp σ hσ => d_CutPrefix (lowS t.s) p (by omega) hp σ hσ
  have g3a := fun σ hσ => g3 [110] (by simp) σ hσ
  have g3b := fun σ hσ => g3 [45, 110] (by simp) σ hσ
  have g4 := fun σ hσ => d_CutPrefix (lowS u.s) [110] (by omega) (by simp) σ hσ
  have g5 := fun σ hσ => d_HasPrefix (lowS t.s) [45] (by omega) (by simp) σ hσ
  have g6 := fun τ hτ => d_awhole hL a k t.n (by omega) τ hτ
  by_cases c1 : t.k = 9
  · by_cases c2 : t.s = [43]
    · rw [c2] at g1
      by_cases c3 : u.k = 1
      · simp +contextual -implicitDefEqProofs (disch := first | assumption | omega | (simp -implicitDefEqProofs only [go_sem]; try omega)) only [↓reduceIte, go_sem, iP, iN, w64, w8, w32, s_Z2, h1, h2, h2', c1, c2, c3, g1, g2, g4, r2, true_and, comb_0, cutN, List.set_cons_succ, List.set_cons_zero]
      · simp +contextual -implicitDefEqProofs (disch := first | assumption | omega | (simp -implicitDefEqProofs only [go_sem]; try omega)) only [↓reduceIte, go_sem, iP, iN, w64, w8, w32, s_Z2, h1, h2, h2', c1, c2, c3, g1, r1, true_and, and_false, false_and, comb_0]
    · simp +contextual -implicitDefEqProofs (disch := first | assumption | omega | (simp -implicitDefEqProofs only [go_sem]; try omega)) only [↓reduceIte, go_sem, iP, iN, w64, w8, w32, s_Z2, h1, c1, c2, g1, r1, true_and, and_false, false_and, comb_0]
  · by_cases c2 : t.k = 1
    · cases c3 : preB (lowS t.s) [45] with
      | true =>
        rw [c3] at g5
        simp +contextual -implicitDefEqProofs (disch := first | assumption | omega | (simp -implicitDefEqProofs only [go_sem]; try omega)) only [↓reduceIte, go_sem, iP, iN, w64, w8, w32, s_Z2, h1, c1, c2, g1, g3b, g5, r1, false_and, comb_0, cutN]
      | false =>
        rw [c3] at g5
        simp +contextual -implicitDefEqProofs (disch := first | assumption | omega | (simp -implicitDefEqProofs only [go_sem]; try omega)) only [↓reduceIte, go_sem, iP, iN, w64, w8, w32, s_Z2, h1, c1, c2, g1, g3a, g5, r1, false_and, comb_0, cutN, Bool.false_eq_true]
    · by_cases c3 : t.k = 12
      · cases c4 : t.w with
        | true =>
          cases c5 : preB (lowS t.s) [110] with
          | true =>
            rw [c5] at g3a
            simp +contextual -implicitDefEqProofs (disch := first | assumption | omega | (simp -implicitDefEqProofs only [go_sem]; try omega)) only [↓reduceIte, go_sem, iP, iN, w64, w8, w32, s_Z2, h1, c1, c2, c3, c4, g1, g3a, g6, r1, false_and, comb_0, cutN, c5]
          | false =>
            rw [c5] at g3a
            simp +contextual -implicitDefEqProofs (disch := first | assumption | omega | (simp -implicitDefEqProofs only [go_sem]; try omega)) only [↓reduceIte, go_sem, iP, iN, w64, w8, w32, s_Z2, h1, c1, c2, c3, c4, g1, g3a, g6, r1, false_and, comb_0, cutN, c5, Bool.false_eq_true]
        | false => simp +contextual -implicitDefEqProofs (disch := first | assumption | omega | (simp -implicitDefEqProofs only [go_sem]; try omega)) only [↓reduceIte, go_sem, iP, iN, w64, w8, w32, s_Z2, h1, c1, c2, c3, c4, g1, r1, false_and, comb_0, Bool.false_eq_true]
      · simp +contextual -implicitDefEqProofs (disch := first | assumption | omega | (simp -implicitDefEqProofs only [go_sem]; try omega)) only [↓reduceIte, go_sem, iP, iN, w64, w8, w32, s_Z2, h1, c1, c2, c3, g1, r1, false_and, comb_0]
theorem d_atail (ha : 0 ≤ a ∧ a ≤ (L.length : Int) + 1) : E cx 47 [.ptr 0 0] [.cells [.sl (toks L) .no, .int .i64 a, errV k]] =
    some (.int .i64 (tailA L a).1, [.cells [.sl (toks L) .no, .int .i64 (tailA L a).2.1, errV (comb k (tailA L a).2.2)]]) := by
  have hl := hL.1
  have k1 := skS_le L a
  have h1 := fun τ hτ => d_askip hL a k a (by omega) τ hτ
  rw [e_Z6]
  unfold tailA
  generalize skS L a = i at k1 h1 ⊢
  have k2 := skS_le L (i + 1)
  have h2 := fun τ hτ => d_askip hL a k (i + 1) (by omega) τ hτ
  have h3 := fun s τ hτ => d_anum hL a k i (by omega) s τ hτ
  have hlt1 : numT L i true = true → i < L.length := numT_lt
  have h4 := fun a τ hτ => d_look hL a k i (by omega) τ hτ
  generalize skS L (i + 1) = j at k2 h2 ⊢
  have h5 := fun s τ hτ => d_anum hL a k j (by omega) s τ hτ
  have hlt2 : numT L j false = true → j < L.length := numT_lt
  have h6 := fun a τ hτ => d_look hL a k j (by omega) τ hτ
  have h7 := hL.get i
  have h8 := hL.get j
  generalize tk L i = t at h4 h7 ⊢
  generalize tk L j = u at h6 h8 ⊢
  have p2 : ∀ c : UInt8, eB .add .no (.str [c]) (.str u.n) = some (.str (c :: u.n)) := fun c => bs_add (by unfold strMax; simp only [List.length_cons, List.length_nil]; omega)
  have ho : ∀ (x : List UInt8) (P Q : O) (τ τ' : Objs), openS [rdLoad false 1 (.ptr 1 3)] (P :: .cells [.int .i64 9, .int .i64 t.f, .int .i64 t.t, .str x, .str t.n, .bool t.w] :: τ) (Q :: .cells [.int .i64 9, .int .i64 t.f, .int .i64 t.t, .str x, .str t.n, .bool t.w] :: τ') = some (Q :: .cells [.int .i64 9, .int .i64 t.f, .int .i64 t.t, .str x, .str t.n, .bool t.w] :: τ') := fun x P Q τ τ' => openS_p1 (s := x) rfl
  cases n1 : numT L i true with
  | true =>
    have := hlt1 n1
    have h9 := fun τ hτ => d_awhole hL (i + 1) k t.n (by omega) τ hτ
    simp +contextual -implicitDefEqProofs (disch := first | assumption | omega | (simp -implicitDefEqProofs only [go_sem]; try omega)) only [↓reduceIte, go_sem, iP, iN, w64, w8, w32, s_Z6, h1, h3, h4, n1, h9, List.set_cons_succ, List.set_cons_zero]
  | false =>
    by_cases c1 : t.k = 9
    · by_cases c2 : t.s = [43]
      · cases n2 : numT L j false with
        | true =>
          have := hlt2 n2
          have h9 := fun τ hτ => d_awhole hL (j + 1) k (43 :: u.n) (by rw [List.length_cons]; omega) τ hτ
          simp +contextual -implicitDefEqProofs (disch := first | assumption | omega | (simp -implicitDefEqProofs only [go_sem]; try omega)) only [↓reduceIte, go_sem, iP, iN, w64, w8, w32, s_Z6, h1, h2, h3, h4, h5, h6, n1, n2, h9, p2, ho, c1, c2, true_and, true_or, Bool.false_eq_true, List.set_cons_succ, List.set_cons_zero, List.cons_append, List.nil_append]
        | false => simp +contextual -implicitDefEqProofs (disch := first | assumption | omega | (simp -implicitDefEqProofs only [go_sem]; try omega)) only [↓reduceIte, go_sem, iP, iN, w64, w8, w32, s_Z6, h1, h2, h3, h4, h5, n1, n2, c1, c2, true_and, true_or, Bool.false_eq_true, and_false, comb_0]
      · by_cases c3 : t.s = [45]
        · have hne : (([45] : List UInt8) = [43]) = False := by decide
          cases n2 : numT L j false with
          | true =>
            have := hlt2 n2
            have h9 := fun τ hτ => d_awhole hL (j + 1) k (45 :: u.n) (by rw [List.length_cons]; omega) τ hτ
            simp +contextual -implicitDefEqProofs (disch := first | assumption | omega | (simp -implicitDefEqProofs only [go_sem]; try omega)) only [↓reduceIte, go_sem, iP, iN, w64, w8, w32, s_Z6, h1, h2, h3, h4, h5, h6, n1, n2, h9, p2, ho, c1, c3, hne, true_and, or_true, Bool.false_eq_true, List.set_cons_succ, List.set_cons_zero, List.cons_append, List.nil_append]
          | false => simp +contextual -implicitDefEqProofs (disch := first | assumption | omega | (simp -implicitDefEqProofs only [go_sem]; try omega)) only [↓reduceIte, go_sem, iP, iN, w64, w8, w32, s_Z6, h1, h2, h3, h4, h5, n1, n2, c1, c3, hne, true_and, or_true, Bool.false_eq_true, and_false, comb_0]
        · simp +contextual -implicitDefEqProofs (disch := first | assumption | omega | (simp -implicitDefEqProofs only [go_sem]; try omega)) only [↓reduceIte, go_sem, iP, iN, w64, w8, w32, s_Z6, h1, h3, h4, n1, c1, c2, c3, true_and, or_false, false_and, and_false, Bool.false_eq_true, comb_0]
    · simp +contextual -implicitDefEqProofs (disch := first | assumption | omega | (simp -implicitDefEqProofs only [go_sem]; try omega)) only [↓reduceIte, go_sem, iP, iN, w64, w8, w32, s_Z6, h1, h3, h4, n1, c1, false_and, Bool.false_eq_true, comb_0]
end
end Go.Proofs.YtkgkmlhljeidhaaGreatDoor
set_option linter.unusedSimpArgs false
set_option linter.unusedVariables false
set_option linter.unusedSectionVars false
namespace Go.Proofs.YtkgkmlhljeidhaaGreatDoor
open Go.Ev
set_option maxRecDepth 100000
set_option maxHeartbeats 8000000
def finA (a b n e : Int) (ok : Bool) : Int × Int × Int × Int := if ok then (if e = 0 then (a, b, n, 0) else (0, 0, 0, e)) else (0, 0, 0, 10)
def behF (L : List Tok) (h : Int × (List UInt8 × Bool) × Int × Int) : Int × Int × Int × Int :=
  if h.2.1.2 = true then finA h.1 (behA L h.2.1.1 h.2.2.1).1.1 (behA L h.2.1.1 h.2.2.1).2.1 (comb h.2.2.2 (behA L h.2.1.1 h.2.2.1).2.2) (behA L h.2.1.1 h.2.2.1).1.2
  else (0, 0, 0, 10)
def parA (L : List Tok) : Int × Int × Int × Int :=
  match fixA (tk L (skS L 0)) with
  | some (x, y, e) => finA x y (skS L 0 + 1) e true
  | none => behF L (headA L (skS L 0))
def parE (x : Int × Int × Int × Int) : V := .tup [.int .i64 x.1, .int .i64 x.2.1, .int .i64 x.2.2.1, errV x.2.2.2]
theorem behA_r {L : List Tok} {r : List UInt8} {a : Int} (hr : r ≠ []) (hr2 : r ≠ [45]) (h : ((r.getD 0 0).toNat : Int) = 45) : 1 < r.length := by
  match r, hr, hr2, h with
  | [x], _, h2, h =>
    exfalso
    apply h2
    have h' : (x.toNat : Int) = 45 := h
    have : x = 45 := UInt8.toNat_inj.1 (by show x.toNat = 45; omega)
    rw [this]
  | x :: y :: z, _, _, _ => simp
section
variable {L : List Tok} (hL : Toks L) (a k : Int)
include hL
theorem d_abeh0 (s : List UInt8) (hs : s.length ≤ 100000000000) : j_Z0_0 (Mi cx) 1 (.ptr 0 0) (.str s) [.cells [.sl (toks L) .no, .int .i64 a, errV k]] =
    some (.tup [.int .i64 (whB s a).1.1, .bool (whB s a).1.2], [.cells [.sl (toks L) .no, .int .i64 (whB s a).2.1, errV (comb k (whB s a).2.2)]]) := by
  have h1 := fun σ hσ => d_pWhole s (by omega) σ hσ
  have h2 := fun τ hτ => d_awhole hL a k s hs τ hτ
  unfold whB
  generalize wS s = x at h1 h2 ⊢
  by_cases c1 : x.2 = 0
  · rw [c1] at h1 h2
    simp +contextual -implicitDefEqProofs (disch := first | assumption | omega | (simp -implicitDefEqProofs only [go_sem]; try omega)) only [↓reduceIte, go_sem, iP, iN, w64, w8, w32, j_Z0_0, h1, h2, c1, true_or, comb_0]
  · have h3 := fun σ hσ => d_over x.2 c1 σ hσ
    by_cases c2 : x.2 = 3
    · rw [c2] at h1 h2 h3
      simp +contextual -implicitDefEqProofs (disch := first | assumption | omega | (simp -implicitDefEqProofs only [go_sem]; try omega)) only [↓reduceIte, go_sem, iP, iN, w64, w8, w32, j_Z0_0, h1, h2, h3, c2, or_true]
    · simp +contextual -implicitDefEqProofs (disch := first | assumption | omega | (simp -implicitDefEqProofs only [go_sem]; try omega)) only [↓reduceIte, go_sem, iP, iN, w64, w8, w32, j_Z0_0, h1, h2, h3, c1, c2, or_false, comb_0]
theorem d_abehind (r : List UInt8) (hr : r.length ≤ 10000000000) (ha : 0 ≤ a ∧ a ≤ (L.length : Int) + 1) : E cx 28 [.ptr 0 0, .str r] [.cells [.sl (toks L) .no, .int .i64 a, errV k]] =
    some (.tup [.int .i64 (behA L r a).1.1, .bool (behA L r a).1.2], [.cells [.sl (toks L) .no, .int .i64 (behA L r a).2.1, errV (comb k (behA L r a).2.2)]]) := by
  have hl := hL.1
  rw [e_Z0]
  unfold behA
  by_cases c1 : r = []
  · subst c1
    have h1 := d_atail hL a k ha
    simp +contextual -implicitDefEqProofs (disch := first | assumption | omega | (simp -implicitDefEqProofs only [go_sem]; try omega)) only [↓reduceIte, go_sem, iP, iN, w64, w8, w32, s_Z0, h1]
  · by_cases c2 : r = [45]
    · subst c2
      have k1 := skS_le L a
      have h1 := fun τ hτ => d_askip hL a k a (by omega) τ hτ
      generalize skS L a = i at k1 h1 ⊢
      have h3 := fun s τ hτ => d_anum hL a k i (by omega) s τ hτ
      have hlt1 : numT L i false = true → i < L.length := numT_lt
      have h4 := fun τ hτ => d_look hL (i + 1) k i (by omega) τ hτ
      have h7 := hL.get i
      generalize tk L i = t at h4 h7 ⊢
      have p1 : ∀ c : UInt8, eB .add .no (.str [c]) (.str t.n) = some (.str (c :: t.n)) := fun c => bs_add (by unfold strMax; simp only [List.length_cons, List.length_nil]; omega)
      have h8 := d_abeh0 hL (i + 1) k (45 :: t.n) (by rw [List.length_cons]; omega)
      cases n1 : numT L i false with
      | true =>
        have := hlt1 n1
        simp +contextual -implicitDefEqProofs (disch := first | assumption | omega | (simp -implicitDefEqProofs only [go_sem]; try omega)) only [↓reduceIte, go_sem, iP, iN, w64, w8, w32, s_Z0, h1, h3, h4, h8, n1, p1, c1, List.set_cons_succ, List.set_cons_zero]
      | false => simp +contextual -implicitDefEqProofs (disch := first | assumption | omega | (simp -implicitDefEqProofs only [go_sem]; try omega)) only [↓reduceIte, go_sem, iP, iN, w64, w8, w32, s_Z0, h1, h3, n1, c1, Bool.false_eq_true, comb_0]
    · have hr0 : 0 < r.length := List.length_pos_iff.2 c1
      by_cases c3 : ((r.getD 0 0).toNat : Int) = 45
      · have hr1 := behA_r (L := L) (a := a) c1 c2 c3
        have h8 := d_abeh0 hL a k r (by omega)
        have h9 := fun σ hσ => d_cDigit ((r.getD 1 0).toNat : Int) σ hσ
        have hb := UInt8.toNat_lt (r.getD 1 0)
        have ix : evIdx (.int .i64 1) (.str r) = some (.int .u8 (r.getD 1 0).toNat) := idx_str (by omega)
        unfold digitB
        cases c4 : (decide (48 ≤ ((r.getD 1 0).toNat : Int)) && decide (((r.getD 1 0).toNat : Int) ≤ 57)) with
        | true =>
          rw [c4] at h9
          simp +contextual -implicitDefEqProofs (disch := first | assumption | omega | (simp -implicitDefEqProofs only [go_sem]; try omega)) only [↓reduceIte, go_sem, iP, iN, w64, w8, w32, s_Z0, h8, h9, c1, c2, c3, ix]
        | false =>
          rw [c4] at h9
          simp +contextual -implicitDefEqProofs (disch := first | assumption | omega | (simp -implicitDefEqProofs only [go_sem]; try omega)) only [↓reduceIte, go_sem, iP, iN, w64, w8, w32, s_Z0, h9, c1, c2, c3, ix, Bool.false_eq_true, comb_0]
      · simp +contextual -implicitDefEqProofs (disch := first | assumption | omega | (simp -implicitDefEqProofs only [go_sem]; try omega)) only [↓reduceIte, go_sem, iP, iN, w64, w8, w32, s_Z0, c1, c2, c3, comb_0]
end
theorem headA_to (L : List Tok) (i : Int) (h : 0 ≤ i ∧ i ≤ L.length) : 0 ≤ (headA L i).2.2.1 ∧ (headA L i).2.2.1 ≤ (L.length : Int) + 1 := by
  unfold headA
  split
  · rename_i hc
    have := tk_k (L := L) (i := i + 1) (by omega)
    show 0 ≤ i + 2 ∧ i + 2 ≤ _; omega
  · repeat' split
    all_goals (show 0 ≤ i + 1 ∧ i + 1 ≤ _; omega)
theorem cutN_len (p name : List UInt8) : (cutN p name).1.length ≤ name.length := by
  unfold cutN
  show (if preB name p then name.drop p.length else name).length ≤ _
  split
  · rw [List.length_drop]; omega
  · exact Nat.le_refl _
theorem headA_len {L : List Tok} (hL : Toks L) (i : Int) : (headA L i).2.1.1.length ≤ 10000000000 := by
  have h1 := (hL.get i).1
  have h2 := (hL.get (i + 1)).1
  have l1 := lowS_len (tk L i).s
  have l2 := lowS_len (tk L (i + 1)).s
  have n1 := cutN_len [110] (lowS (tk L i).s)
  have n2 := cutN_len [45, 110] (lowS (tk L i).s)
  have n3 := cutN_len [110] (lowS (tk L (i + 1)).s)
  unfold headA
  repeat' split
  all_goals first | (show (cutN _ _).1.length ≤ _; omega) | (show ([] : List UInt8).length ≤ _; simp)
theorem d_aParse {L : List Tok} (hL : Toks L) (σ : Objs) (hσ : Wf σ) : E cx 13 [.sl (toks L) .no] σ = some (parE (parA L), σ) := by
  refine E_any cx_cl ?_ (by rw [rbs_cons, toks_rb]; rfl) (by unfold parE; simp only [V.rb, rbs_cons, errV_rb, rbs_nil]; rfl) σ hσ
  have hl := hL.1
  have k1 := skS_le L 0
  have e0 : errV 0 = .nili := rfl
  have h1 := fun τ hτ => d_askip hL 0 0 0 (by omega) τ hτ
  have h10 := fun σ hσ => d_Fail 10 0 σ hσ
  have e10 : failV 10 0 = errV 10 := rfl
  rw [e10] at h10
  have h2 := d_afix hL (skS L 0) 0 (by omega)
  have h3 := d_ahead hL (skS L 0) 0 (by omega)
  have h4 := d_abehind hL (headA L (skS L 0)).2.2.1 (headA L (skS L 0)).2.2.2 (headA L (skS L 0)).2.1.1 (headA_len hL _) (headA_to L _ (by omega))
  have ec : ∀ e, comb 0 e = e := fun e => if_pos rfl
  rw [ec] at h3
  rw [e_Za]
  unfold parA
  generalize skS L 0 = i at k1 h1 h2 h3 h4 ⊢
  rw [e0] at h1 h2 h3
  cases hf : fixA (tk L i) with
  | some x =>
    obtain ⟨x, y, e⟩ := x
    rw [hf] at h2
    simp only [ec] at h2
    unfold finA
    by_cases he : e = 0
    · rw [he, e0] at h2
      simp +contextual -implicitDefEqProofs (disch := first | assumption | omega | (simp -implicitDefEqProofs only [go_sem]; try omega)) only [↓reduceIte, go_sem, iP, iN, w64, w8, w32, s_Za, j_Za_0, h1, h2, he, parE, e0, List.set_cons_succ, List.set_cons_zero]
    · simp +contextual -implicitDefEqProofs (disch := first | assumption | omega | (simp -implicitDefEqProofs only [go_sem]; try omega)) only [↓reduceIte, go_sem, iP, iN, w64, w8, w32, s_Za, j_Za_0, h1, h2, he, parE, List.set_cons_succ, List.set_cons_zero]
  | none =>
    rw [hf] at h2
    simp only [e0] at h2
    unfold behF
    generalize headA L i = h at h3 h4 ⊢
    cases h5 : h.2.1.2 with
    | false =>
      rw [h5] at h3
      simp +contextual -implicitDefEqProofs (disch := first | assumption | omega | (simp -implicitDefEqProofs only [go_sem]; try omega)) only [↓reduceIte, go_sem, iP, iN, w64, w8, w32, s_Za, j_Za_0, h1, h2, h3, h10, parE, Bool.false_eq_true, List.set_cons_succ, List.set_cons_zero]
    | true =>
      rw [h5] at h3
      unfold finA
      generalize behA L h.2.1.1 h.2.2.1 = b at h4 ⊢
      cases h6 : b.1.2 with
      | false =>
        rw [h6] at h4
        simp +contextual -implicitDefEqProofs (disch := first | assumption | omega | (simp -implicitDefEqProofs only [go_sem]; try omega)) only [↓reduceIte, go_sem, iP, iN, w64, w8, w32, s_Za, j_Za_0, h1, h2, h3, h4, h10, parE, Bool.false_eq_true, List.set_cons_succ, List.set_cons_zero]
      | true =>
        rw [h6] at h4
        by_cases he : comb h.2.2.2 b.2.2 = 0
        · rw [he] at h4
          simp +contextual -implicitDefEqProofs (disch := first | assumption | omega | (simp -implicitDefEqProofs only [go_sem]; try omega)) only [↓reduceIte, go_sem, iP, iN, w64, w8, w32, s_Za, j_Za_0, h1, h2, h3, h4, he, e0, parE, List.set_cons_succ, List.set_cons_zero]
        · simp +contextual -implicitDefEqProofs (disch := first | assumption | omega | (simp -implicitDefEqProofs only [go_sem]; try omega)) only [↓reduceIte, go_sem, iP, iN, w64, w8, w32, s_Za, j_Za_0, h1, h2, h3, h4, he, parE, List.set_cons_succ, List.set_cons_zero]
end Go.Proofs.YtkgkmlhljeidhaaGreatDoor
set_option linter.unusedSimpArgs false
set_option linter.unusedVariables false
set_option linter.unusedSectionVars false
namespace Go.Proofs.YtkgkmlhljeidhaaGreatDoor
open Go.Ev
set_option maxRecDepth 100000
def Nums (L : List Tok) : Prop := ∀ i, ((tk L i).k = 10 ∨ (tk L i).k = 12) → (tk L i).w = true → Num (tk L i).n
theorem nums_of {L : List Tok} (h : ∀ t ∈ L, (t.k = 10 ∨ t.k = 12) → t.w = true → Num t.n) : Nums L := by
  intro i hk hw
  unfold tk at hk hw ⊢
  rw [List.getD_eq_getElem?_getD] at hk hw ⊢
  cases hg : L[i.toNat]? with
  | none =>
    rw [hg] at hk
    exact absurd hk (by decide)
  | some t =>
    rw [hg] at hk hw
    exact h t (List.mem_of_getElem? hg) hk hw
end Go.Proofs.YtkgkmlhljeidhaaGreatDoor
set_option linter.unusedSimpArgs false
set_option linter.unusedVariables false
set_option linter.unusedSectionVars false
namespace Go.Proofs.YtkgkmlhljeidhaaGreatDoor
open Go.Ev
set_option maxRecDepth 100000
theorem whB_ok {s : List UInt8} {a : Int} (h : (wS s).2 = 0 ∨ (wS s).2 = 3) : whB s a = (((wS s).1, true), a, (wS s).2) := by
  unfold whB
  rw [if_pos h]
end Go.Proofs.YtkgkmlhljeidhaaGreatDoor
set_option linter.unusedSimpArgs false
set_option linter.unusedVariables false
namespace Go.Proofs.YtkgkmlhljeidhaaGreatDoor
open Go.Ev
set_option maxRecDepth 100000
def digF : Nat → Nat → List UInt8 → List UInt8
  | 0, _, acc => acc
  | f + 1, n, acc => if n / 10 = 0 then UInt8.ofNat (48 + n % 10) :: acc else digF f (n / 10) (UInt8.ofNat (48 + n % 10) :: acc)
def digs (n : Nat) : List UInt8 := digF (n + 1) n []
theorem d_digloop : ∀ (f n : Nat) (acc : List UInt8), n < f → n < 4611686018427387904 → acc.length + f < 4611686018427387904 →
    l_Zx_0 (Mi cx) 0 0 [.int .i64 n, .str acc] [] = some (.str (digF f n acc), [])
  | 0, n, acc, h, _, _ => absurd h (Nat.not_lt_zero n)
  | f + 1, n, acc, h, hn, ha => by
    have hm : strMax = 4611686018427387904 := rfl
    have e1 : ((48 : Int) + (n : Int) % 10).toNat = 48 + n % 10 := by omega
    have e2 : ((n : Int) / 10) = ((n / 10 : Nat) : Int) := by omega
    have e3 : (((n / 10 : Nat) : Int) = 0) = (n / 10 = 0) := by rw [eq_iff_iff]; omega
    rw [u_Zx_0]
    by_cases h0 : n / 10 = 0
    · simp +contextual -implicitDefEqProofs (disch := first | assumption | omega | (simp -implicitDefEqProofs only [go_sem]; try omega)) only [↓reduceIte, go_sem, iP, iN, w64, w8, w32, b_Zx_0, tmod_nn, tdiv_nn, e1, e2, e3, digF, h0]
    · have ih := d_digloop f (n / 10) (UInt8.ofNat (48 + n % 10) :: acc) (by omega) (by omega) (by simp; omega)
      simp +contextual -implicitDefEqProofs (disch := first | assumption | omega | (simp -implicitDefEqProofs only [go_sem]; try omega)) only [↓reduceIte, go_sem, iP, iN, w64, w8, w32, b_Zx_0, tmod_nn, tdiv_nn, e1, e2, e3, digF, h0, ih]
theorem d_digits (n : Nat) (hn : n < 4611686018427387000) (σ : Objs) (hσ : Wf σ) : E cx 12 [.int .i64 n] σ = some (.str (digs n), σ) := by
  refine E_any cx_cl ?_ rfl rfl σ hσ
  have h := d_digloop (n + 1) n [] (by omega) (by omega) (by simp; omega)
  rw [e_Zx]
  simp +contextual -implicitDefEqProofs (disch := first | assumption | omega | (simp -implicitDefEqProofs only [go_sem]; try omega)) only [↓reduceIte, go_sem, iP, iN, w64, w8, w32, s_Zx, h, digs]
def vL (r : List UInt8) (n : Int) : Int := r.foldl (fun n b => 10 * n + b.toNat - 48) n
theorem dig_toNat (n : Nat) : (UInt8.ofNat (48 + n % 10)).toNat = 48 + n % 10 := by
  rw [UInt8.toNat_ofNat']; omega
theorem dgn_isD (n : Nat) : isD (UInt8.ofNat (48 + n % 10)) := by
  unfold isD; rw [dig_toNat]; omega
theorem digF_isD : ∀ (f n : Nat) (acc : List UInt8), (∀ b ∈ acc, isD b) → ∀ b ∈ digF f n acc, isD b
  | 0, n, acc, h => h
  | f + 1, n, acc, h => by
    have h' : ∀ b ∈ (UInt8.ofNat (48 + n % 10) :: acc), isD b := by
      intro b hb
      rcases List.mem_cons.1 hb with rfl | hb
      · exact dgn_isD n
      · exact h b hb
    unfold digF
    split
    · exact h'
    · exact digF_isD f (n / 10) _ h'
theorem vL_cons (b : UInt8) (r : List UInt8) (n : Int) : vL (b :: r) n = vL r (10 * n + b.toNat - 48) := rfl
theorem digF_vL : ∀ (f n : Nat) (acc : List UInt8), n < f → vL (digF f n acc) 0 = vL acc n
  | 0, n, acc, h => absurd h (Nat.not_lt_zero n)
  | f + 1, n, acc, h => by
    unfold digF
    split
    · rename_i h0
      rw [vL_cons, dig_toNat]
      congr 1; omega
    · rename_i h0
      rw [digF_vL f (n / 10) _ (by omega), vL_cons, dig_toNat]
      congr 1; omega
theorem digF_ne : ∀ (f n : Nat) (acc : List UInt8), 0 < f → digF f n acc ≠ []
  | 0, n, acc, h => absurd h (Nat.lt_irrefl 0)
  | 1, n, acc, _ => by unfold digF; split <;> simp [digF]
  | f + 2, n, acc, _ => by
    unfold digF
    split
    · simp
    · exact digF_ne (f + 1) (n / 10) _ (by omega)
theorem digF_len : ∀ (f n : Nat) (acc : List UInt8), (digF f n acc).length ≤ acc.length + f
  | 0, n, acc => Nat.le_refl _
  | f + 1, n, acc => by
    unfold digF
    split
    · simp
    · have := digF_len f (n / 10) (UInt8.ofNat (48 + n % 10) :: acc)
      simp at this ⊢; omega
theorem wlr_vL : ∀ (r : List UInt8) (n m : Int), (∀ b ∈ r, isD b) → 0 ≤ n → 0 ≤ m → (n ≤ 2147483647 → m = n) → (2147483647 < n → 2147483647 < m) →
    ∃ x, wlr r n = some x ∧ (vL r m ≤ 2147483647 → x = vL r m) ∧ (2147483647 < vL r m → 2147483647 < x) ∧ m ≤ vL r m
  | [], n, m, _, hn, hm, h1, h2 => by
    refine ⟨n, rfl, fun h => ?_, fun h => ?_, Int.le_refl _⟩
    · show n = m
      have h' : m ≤ 2147483647 := h
      rcases Int.lt_or_le 2147483647 n with k | k
      · have := h2 k; omega
      · exact (h1 k).symm
    · have h' : 2147483647 < m := h
      rcases Int.lt_or_le 2147483647 n with k | k
      · exact k
      · have := h1 k; omega
  | b :: r, n, m, hb, hn, hm, h1, h2 => by
    have hD := hb b (by simp)
    have hD' := hD
    unfold isD at hD'
    have hr : ∀ c ∈ r, isD c := fun c hc => hb c (by simp [hc])
    simp only [wlr, if_pos hD, vL_cons]
    rcases Int.lt_or_le 2147483647 n with k | k
    · have k2 := h2 k
      rw [if_neg (by omega)]
      obtain ⟨x, e1, e2, e3, e4⟩ := wlr_vL r n (10 * m + b.toNat - 48) hr hn (by omega) (fun h => by omega) (fun _ => by omega)
      exact ⟨x, e1, e2, e3, by omega⟩
    · have k2 := h1 k
      subst k2
      rw [if_pos k]
      obtain ⟨x, e1, e2, e3, e4⟩ := wlr_vL r (10 * m + b.toNat - 48) (10 * m + b.toNat - 48) hr (by omega) (by omega) (fun _ => rfl) (fun h => h)
      exact ⟨x, e1, e2, e3, by omega⟩
def wvS (neg : Bool) (m : Int) : Int × Int := if 2147483647 < m then (0, 3) else (if neg then -m else m, 0)
theorem wS_digits (s r : List UInt8) (hu : unsign s = r) (hr : ∀ b ∈ r, isD b) (hne : r ≠ []) : wS s = wvS (decide (((s.headD 0).toNat : Int) = 45)) (vL r 0) := by
  obtain ⟨x, e1, e2, e3, _⟩ := wlr_vL r 0 0 hr (by omega) (by omega) (fun _ => rfl) (fun h => h)
  unfold wS
  rw [hu, if_neg hne, e1]
  unfold wvS
  rcases Int.lt_or_le 2147483647 (vL r 0) with k | k
  · simp only [if_pos (e3 k), if_pos k]
  · have := e2 k
    subst this
    simp only [if_neg (show ¬ 2147483647 < vL r 0 by omega), decide_eq_true_eq]
theorem digs_isD (n : Nat) : ∀ b ∈ digs n, isD b := digF_isD _ _ _ (by simp)
theorem digs_ne (n : Nat) : digs n ≠ [] := digF_ne _ _ _ (by omega)
theorem digs_vL (n : Nat) : vL (digs n) 0 = n := digF_vL _ _ _ (by omega)
theorem isD_unsign {s : List UInt8} (h : ∀ b ∈ s, isD b) : unsign s = s := by
  match s with
  | [] => rfl
  | c :: t =>
    have := h c (by simp)
    unfold isD at this
    have h2 : ¬ (c.toNat = 43 ∨ c.toNat = 45) := by omega
    simp only [unsign, if_neg h2]
theorem head_digs (n : Nat) : ¬ (((digs n).headD 0).toNat : Int) = 45 := by
  match h : digs n with
  | [] => exact absurd h (digs_ne n)
  | c :: t =>
    have := digs_isD n c (by rw [h]; simp)
    unfold isD at this
    simp only [List.headD_cons]; omega
theorem wS_digs (n : Nat) : wS (digs n) = wvS false n := by
  rw [wS_digits (digs n) (digs n) (isD_unsign (digs_isD n)) (digs_isD n) (digs_ne n), digs_vL, decide_eq_false (head_digs n)]
theorem wS_plus (n : Nat) : wS (43 :: digs n) = wvS false n := by
  rw [wS_digits (43 :: digs n) (digs n) (by simp [unsign]) (digs_isD n) (digs_ne n), digs_vL]; rfl
theorem vL_zeros : ∀ (k : Nat) (r : List UInt8), vL (List.replicate k 48 ++ r) 0 = vL r 0
  | 0, r => by simp
  | k + 1, r => by
    rw [List.replicate_succ, List.cons_append, vL_cons]
    exact vL_zeros k r
theorem wS_minus (k n : Nat) : wS (45 :: (List.replicate k 48 ++ digs n)) = wvS true n := by
  have hr : ∀ b ∈ List.replicate k (48 : UInt8) ++ digs n, isD b := by
    intro b hb
    rcases List.mem_append.1 hb with hb | hb
    · rw [List.eq_of_mem_replicate hb]; unfold isD; decide
    · exact digs_isD n b hb
  have hne : List.replicate k (48 : UInt8) ++ digs n ≠ [] := by
    intro h; exact digs_ne n (List.append_eq_nil_iff.1 h).2
  rw [wS_digits (45 :: (List.replicate k 48 ++ digs n)) (List.replicate k 48 ++ digs n) (by simp [unsign]) hr hne, vL_zeros, digs_vL]; rfl
end Go.Proofs.YtkgkmlhljeidhaaGreatDoor
set_option linter.unusedSimpArgs false
set_option linter.unusedVariables false
set_option linter.unusedSectionVars false
namespace Go.Proofs.YtkgkmlhljeidhaaGreatDoor
open Go.Ev
set_option maxRecDepth 100000
def Lex (b p r : List UInt8) (L : List Tok) : Prop := b = p ++ r ∧ ∀ f, r.length < f → allF (asc b) f p.length = L
theorem lex_end (b : List UInt8) : Lex b b [] [⟨0, b.length, b.length, [], [], false⟩] := by
  refine ⟨by simp, fun f hf => ?_⟩
  obtain ⟨g, rfl⟩ : ∃ g, f = g + 1 := ⟨f - 1, by simp at hf; omega⟩
  have h := t_end (asc b)
  rw [asc_len] at h
  unfold allF
  rw [h]
  rfl
theorem lex_cons {b p s q : List UInt8} {t : Tok} {L : List Tok} (hs : s ≠ []) (ht : nxtS (asc b) p.length = t) (hk : t.k ≠ 0) (hto : t.t = ((p ++ s).length : Int)) (h : Lex b (p ++ s) q L) : Lex b p (s ++ q) (t :: L) := by
  refine ⟨by rw [h.1, List.append_assoc], fun f hf => ?_⟩
  have hsl := List.length_pos_iff.2 hs
  obtain ⟨g, rfl⟩ : ∃ g, f = g + 1 := ⟨f - 1, by simp at hf; omega⟩
  unfold allF
  rw [ht, if_neg hk, hto, h.2 g (by simp at hf; omega)]
theorem lex_read {b : List UInt8} {L : List Tok} (hb : Asc b) (h : Lex b [] b L) : readS b = L := by
  unfold readS
  rw [asc_pre b hb]
  unfold allS
  exact h.2 _ (by rw [asc_len]; omega)
theorem asc_mem {s : List UInt8} {c : Int} (h : c ∈ asc s) : ∃ b ∈ s, c = b.toNat := by
  obtain ⟨b, hb, rfl⟩ := List.mem_map.1 h
  exact ⟨b, hb, rfl⟩
def Dg (d : List UInt8) : Prop := d ≠ [] ∧ ∀ b ∈ d, isD b
theorem Dg.dig {d : List UInt8} (h : Dg d) : ∀ x ∈ asc d, digitB x = true := by
  intro x hx
  obtain ⟨b, hb, rfl⟩ := asc_mem hx
  have := h.2 b hb
  unfold isD at this
  unfold digitB
  rw [decide_eq_true this.1, decide_eq_true this.2]; rfl
theorem Dg.ne {d : List UInt8} (h : Dg d) : asc d ≠ [] := fun e => h.1 (List.map_eq_nil_iff.1 e)
theorem Dg.asc {d : List UInt8} (h : Dg d) : Asc d := fun b hb => by
  have := h.2 b hb
  unfold isD at this
  omega
theorem Dg.low {d : List UInt8} (h : Dg d) : lowS d = d := by
  have : ∀ b ∈ d, lowB b = id b := fun b hb => by
    have := h.2 b hb
    unfold isD at this
    unfold lowB
    have e : smallZ (b.toNat : Int) = b.toNat := if_neg (by omega)
    rw [e, putB_self]
    rfl
  unfold lowS
  rw [List.map_congr_left this, List.map_id]
theorem Dg.head {d q : List UInt8} (h : Dg d) : ∃ x : UInt8, ch (Proofs.YtkgkmlhljeidhaaGreatDoor.asc (d ++ q)) 0 = x.toNat ∧ isD x ∧ d.getD 0 0 = x := by
  obtain ⟨x, d', rfl⟩ : ∃ x d', d = x :: d' := by
    cases d with
    | nil => exact absurd rfl h.1
    | cons x d' => exact ⟨x, d', rfl⟩
  refine ⟨x, ?_, h.2 x (List.mem_cons_self ..), rfl⟩
  show ch ((x.toNat : Int) :: _) 0 = _
  rw [ch_0]
theorem Dg.sg {d : List UInt8} (h : Dg d) : sgT d = false := by
  obtain ⟨x, _, h2, h3⟩ := h.head (q := [])
  unfold isD at h2
  unfold sgT
  rw [h3, decide_eq_false (by omega), decide_eq_false (by omega)]
  rfl
theorem Dg.name {d : List UInt8} (h : Dg d) : ∀ x ∈ Proofs.YtkgkmlhljeidhaaGreatDoor.asc d, nameB x = true := by
  intro x hx
  have := h.dig x hx
  unfold nameB
  rw [this]
  simp
def Bl (s : List UInt8) : Prop := ∀ b ∈ s, b = 32 ∨ b = 9 ∨ b = 10
theorem Bl.sp {s : List UInt8} (h : Bl s) : ∀ x ∈ asc s, spaceB x = true := by
  intro x hx
  obtain ⟨b, hb, rfl⟩ := asc_mem hx
  rcases h b hb with h | h | h <;> rw [h] <;> rfl
theorem Bl.asc {s : List UInt8} (h : Bl s) : Asc s := fun b hb => by
  rcases h b hb with h | h | h <;> rw [h] <;> decide
theorem Asc.app {s t : List UInt8} (h : Asc s) (k : Asc t) : Asc (s ++ t) := fun b hb => by
  rcases List.mem_append.1 hb with hb | hb
  · exact h b hb
  · exact k b hb
section
variable {b p q : List UInt8} {L : List Tok}
theorem lx_sp {s : List UInt8} (hs : Bl s) (hne : s ≠ []) (hq : spaceB (ch (asc q) 0) = false) (h : Lex b (p ++ s) q L) : Lex b p (s ++ q) (⟨13, p.length, p.length + s.length, [], [], false⟩ :: L) := by
  refine lex_cons hne ?_ (by simp) (by simp) h
  obtain ⟨x, s', rfl⟩ : ∃ x s', s = x :: s' := by
    cases s with
    | nil => exact absurd rfl hne
    | cons x s' => exact ⟨x, s', rfl⟩
  have k := t_sp (asc p) (asc s') (asc q) x.toNat hs.sp hq
  rw [asc_len] at k
  rw [h.1, List.append_assoc, asc_app, asc_app]
  have e : asc (x :: s') = (x.toNat : Int) :: asc s' := rfl
  rw [e, k]
  simp only [List.length_cons, asc_len]
theorem lx_num {g d : List UInt8} (hg : g = [] ∨ g = [43] ∨ g = [45]) (hd : Dg d) (h : Lex b (p ++ (g ++ d)) [] L) : Lex b p ((g ++ d) ++ []) (⟨10, p.length, p.length + (g ++ d).length, [], g ++ d, true⟩ :: L) := by
  refine lex_cons (by intro e; exact hd.1 (List.append_eq_nil_iff.1 e).2) ?_ (by simp) (by simp) h
  have hg' : asc g = [] ∨ asc g = [43] ∨ asc g = [45] := by
    rcases hg with rfl | rfl | rfl
    · exact .inl rfl
    · exact .inr (.inl rfl)
    · exact .inr (.inr rfl)
  have k := t_num (asc p) (asc g) (asc d) hg' hd.dig hd.ne
  rw [asc_len, ← asc_app, asc_text (g ++ d) (Asc.app (by rcases hg with rfl | rfl | rfl <;> intro x hx <;> simp at hx <;> subst hx <;> decide) hd.asc), asc_len] at k
  rw [h.1, List.append_nil, asc_app, k]
theorem lx_dim {g d n : List UInt8} {c : UInt8} (hg : g = [] ∨ g = [43] ∨ g = [45]) (hd : Dg d) (hc : c = 78 ∨ c = 110) (hn : Asc n) (hn2 : ∀ x ∈ asc n, nameB x = true) (hq : nameB (ch (asc q) 0) = false) (hq2 : ch (asc q) 0 ≠ 92) (h : Lex b (p ++ (g ++ (d ++ (c :: n)))) q L) :
    Lex b p ((g ++ (d ++ (c :: n))) ++ q) (⟨12, p.length, p.length + (g ++ (d ++ (c :: n))).length, c :: n, g ++ d, true⟩ :: L) := by
  refine lex_cons (by intro e; exact hd.1 (List.append_eq_nil_iff.1 (List.append_eq_nil_iff.1 e).2).1) ?_ (by simp) (by simp) h
  have hg' : asc g = [] ∨ asc g = [43] ∨ asc g = [45] := by
    rcases hg with rfl | rfl | rfl
    · exact .inl rfl
    · exact .inr (.inl rfl)
    · exact .inr (.inr rfl)
  have hcc : startB (c.toNat : Int) = true ∧ (c.toNat : Int) ≠ 101 ∧ (c.toNat : Int) ≠ 69 ∧ nameB (c.toNat : Int) = true ∧ Asc [c] := by
    rcases hc with rfl | rfl
    · exact ⟨rfl, by decide, by decide, rfl, by intro x hx; simp at hx; subst hx; decide⟩
    · exact ⟨rfl, by decide, by decide, rfl, by intro x hx; simp at hx; subst hx; decide⟩
  have k := t_dim (asc p) (asc g) (asc d) (asc n) (asc q) c.toNat hg' hd.dig hd.ne hcc.1 hcc.2.1 hcc.2.2.1 (by intro x hx; rcases List.mem_cons.1 hx with hx | hx; (rw [hx]; exact hcc.2.2.2.1); exact hn2 x hx) hq hq2
  have e : (c.toNat : Int) :: asc n = asc (c :: n) := rfl
  have hga : Asc g := by rcases hg with rfl | rfl | rfl <;> intro x hx <;> simp at hx <;> subst hx <;> decide
  rw [asc_len, e, ← asc_app, ← asc_app, ← asc_app, ← asc_app, ← asc_app, ← asc_app, ← asc_app, asc_text (c :: n) (Asc.app hcc.2.2.2.2 hn), asc_text (g ++ d) (hga.app hd.asc), asc_len] at k
  rw [h.1]
  simp only [List.append_assoc] at k ⊢
  rw [k]
theorem lx_del {c : UInt8} (hc : c = 43 ∨ c = 45) (hq : spaceB (ch (asc q) 0) = true) (h : Lex b (p ++ [c]) q L) : Lex b p ([c] ++ q) (⟨9, p.length, p.length + 1, [c], [], false⟩ :: L) := by
  refine lex_cons (by simp) ?_ (by simp) (by simp) h
  have k := t_delim (asc p) (asc q) c.toNat (by rcases hc with rfl | rfl <;> decide) hq
  have e : [(c.toNat : Int)] = asc [c] := rfl
  rw [asc_len, e, ← asc_app, ← asc_app, asc_text [c] (by intro x hx; simp at hx; subst hx; rcases hc with rfl | rfl <;> decide)] at k
  rw [h.1, List.append_assoc, k]
end
theorem skS_no {L : List Tok} {i : Int} (h : (tk L i).k ≠ 13) : skS L i = i := by
  unfold skS skF
  rw [if_neg h]
theorem skS_one {L : List Tok} {i : Int} (hi : 0 ≤ i) (h : (tk L i).k = 13) (h2 : (tk L (i + 1)).k ≠ 13) : skS L i = i + 1 := by
  have hl := tk_k (L := L) (i := i) (by omega)
  obtain ⟨n, hn⟩ : ∃ n, L.length = n + 1 := ⟨L.length - 1, by omega⟩
  unfold skS
  rw [hn]
  unfold skF
  rw [if_pos h]
  unfold skF
  rw [if_neg h2]
theorem par_dim {L : List Tok} {i : Int} {r : List UInt8} (h0 : skS L 0 = i) (ht : (tk L i).k = 12) (hw : (tk L i).w = true) (hs : lowS (tk L i).s = 110 :: r) :
    parA L = finA (wS (tk L i).n).1 (behA L r (i + 1)).1.1 (behA L r (i + 1)).2.1 (comb (wS (tk L i).n).2 (behA L r (i + 1)).2.2) (behA L r (i + 1)).1.2 := by
  have h1 : fixA (tk L i) = none := by
    unfold fixA
    rw [ht, if_neg (by rintro ⟨h, _⟩; omega), if_neg (by rintro ⟨h, _⟩; omega), if_neg (by rintro ⟨h, _⟩; omega)]
  have h2 : headA L i = ((wS (tk L i).n).1, (r, true), i + 1, (wS (tk L i).n).2) := by
    have hp : preB (110 :: r) [110] = true := by unfold preB; exact decide_eq_true rfl
    unfold headA
    rw [ht, if_neg (by rintro ⟨h, _⟩; omega), if_neg (by omega), if_pos rfl, hw, if_pos rfl, hs, hp, if_pos rfl]
    unfold cutN
    rw [hp]
    rfl
  unfold parA
  rw [h0, h1]
  simp only []
  rw [h2]
  unfold behF
  rw [if_pos rfl]
theorem par_rest {L : List Tok} {i : Int} {B : List UInt8} (h0 : skS L 0 = i) (ht : (tk L i).k = 12) (hw : (tk L i).w = true) (hB : Dg B) (hs : lowS (tk L i).s = 110 :: 45 :: B) (he : (wS (tk L i).n).2 = 0) (he2 : (wS (45 :: B)).2 = 0) :
    parA L = ((wS (tk L i).n).1, (wS (45 :: B)).1, i + 1, 0) := by
  rw [par_dim h0 ht hw hs]
  have h1 : behA L (45 :: B) (i + 1) = (((wS (45 :: B)).1, true), i + 1, (wS (45 :: B)).2) := by
    obtain ⟨x, h1, h2, h3⟩ := hB.head (q := [])
    have hx : (45 :: B).getD 1 0 = x := h3
    have hd : digitB ((x.toNat : Int)) = true := by
      unfold isD at h2
      unfold digitB
      rw [decide_eq_true h2.1, decide_eq_true h2.2]; rfl
    unfold behA
    rw [if_neg (by simp), if_neg (by intro e; injection e with _ e; exact hB.1 e), if_pos (by rfl), hx, hd, if_pos rfl]
    exact whB_ok (.inl he2)
  rw [h1, he, he2]
  rfl
theorem par_num {L : List Tok} {i : Int} (hi : 0 ≤ i) (h0 : skS L 0 = i) (ht : (tk L i).k = 12) (hw : (tk L i).w = true) (hs : lowS (tk L i).s = [110]) (he : (wS (tk L i).n).2 = 0)
    (hk : (tk L (i + 1)).k = 10) (hkw : (tk L (i + 1)).w = true) (hn : sgT (tk L (i + 1)).n = true) (he2 : (wS (tk L (i + 1)).n).2 = 0) :
    parA L = ((wS (tk L i).n).1, (wS (tk L (i + 1)).n).1, i + 1 + 1, 0) := by
  rw [par_dim h0 ht hw hs]
  have h1 : skS L (i + 1) = i + 1 := skS_no (by omega)
  have hne : (tk L (i + 1)).n ≠ [] := by intro e; rw [e] at hn; cases hn
  have h2 : numT L (i + 1) true = true := by
    unfold numT
    rw [hk, hkw, hn, decide_eq_true hne]; rfl
  unfold behA tailA
  rw [if_pos rfl, h1, h2, if_pos rfl, he, he2]
  rfl
theorem par_del {L : List Tok} {i : Int} {c : UInt8} {B : List UInt8} (hi : 0 ≤ i) (h0 : skS L 0 = i) (ht : (tk L i).k = 12) (hw : (tk L i).w = true) (hs : lowS (tk L i).s = [110]) (he : (wS (tk L i).n).2 = 0)
    (hk1 : (tk L (i + 1)).k = 13) (hk2 : (tk L (i + 1 + 1)).k = 9) (hc : c = 43 ∨ c = 45) (hs2 : (tk L (i + 1 + 1)).s = [c]) (hk3 : (tk L (i + 1 + 1 + 1)).k = 13) (hk4 : (tk L (i + 1 + 1 + 1 + 1)).k = 10) (hkw : (tk L (i + 1 + 1 + 1 + 1)).w = true)
    (hB : Dg B) (hn : (tk L (i + 1 + 1 + 1 + 1)).n = B) (he2 : (wS (c :: B)).2 = 0) :
    parA L = ((wS (tk L i).n).1, (wS (c :: B)).1, i + 1 + 1 + 1 + 1 + 1, 0) := by
  rw [par_dim h0 ht hw hs]
  have h1 : skS L (i + 1) = i + 1 + 1 := skS_one (by omega) hk1 (by omega)
  have h2 : numT L (i + 1 + 1) true = false := by
    unfold numT
    rw [hk2]; rfl
  have h3 : skS L (i + 1 + 1 + 1) = i + 1 + 1 + 1 + 1 := skS_one (by omega) hk3 (by omega)
  have h4 : numT L (i + 1 + 1 + 1 + 1) false = true := by
    unfold numT
    rw [hk4, hkw, hn, hB.sg, decide_eq_true hB.1]; rfl
  unfold behA tailA
  rw [if_pos rfl, h1, h2, if_neg (by simp), h3, hs2, hn, if_pos ⟨hk2, by rcases hc with rfl | rfl <;> simp, h4⟩]
  show finA _ (wS (c :: B)).1 _ (comb _ (wS (c :: B)).2) true = _
  rw [he, he2]
  rfl
end Go.Proofs.YtkgkmlhljeidhaaGreatDoor
set_option linter.unusedSimpArgs false
set_option linter.unusedVariables false
set_option linter.unusedSectionVars false
namespace Go.Proofs.YtkgkmlhljeidhaaGreatDoor
open Go.Ev
set_option maxRecDepth 100000
set_option maxHeartbeats 8000000
theorem lex_end' {b p : List UInt8} (h : p = b) : Lex b p [] [⟨0, b.length, b.length, [], [], false⟩] := by
  rw [h]; exact lex_end b
theorem lex_read' {b r : List UInt8} {L : List Tok} (hb : Asc b) (h : Lex b [] r L) : readS b = L := by
  have e : r = b := by rw [h.1, List.nil_append]
  rw [e] at h
  exact lex_read hb h
theorem readS_ok (b : List UInt8) (hb : b.length ≤ 10000000) : Toks (readS b) ∧ Nums (readS b) := by
  have h := readS_is b (by omega)
  exact ⟨⟨by omega, fun t ht => by have := h.1 t ht; have h1 := this.ls; have h2 := this.ln; omega⟩, nums_of fun t ht => (h.1 t ht).num⟩
theorem asc1 {c : UInt8} (h : c = 78 ∨ c = 110 ∨ c = 43 ∨ c = 45) : Asc [c] := by
  intro x hx
  simp only [List.mem_singleton] at hx
  subst hx
  rcases h with rfl | rfl | rfl | rfl <;> decide
theorem ch_as (x : UInt8) (r : List UInt8) : ch (asc (x :: r)) 0 = x.toNat := by
  show ch ((x.toNat : Int) :: _) 0 = _
  rw [ch_0]
theorem bl_head {s : List UInt8} (hs : Bl s) (hne : s ≠ []) (q : List UInt8) : ch (asc (s ++ q)) 0 = 32 ∨ ch (asc (s ++ q)) 0 = 9 ∨ ch (asc (s ++ q)) 0 = 10 := by
  obtain ⟨x, s', rfl⟩ : ∃ x s', s = x :: s' := by
    cases s with
    | nil => exact absurd rfl hne
    | cons x s' => exact ⟨x, s', rfl⟩
  rw [List.cons_append, ch_as]
  rcases hs x (List.mem_cons_self ..) with h | h | h <;> rw [h]
  · exact .inl rfl
  · exact .inr (.inl rfl)
  · exact .inr (.inr rfl)
section
variable {A B pad : List UInt8} {s : UInt8} {va vb : Int} (hA : Dg A) (hB : Dg B) (hp : Bl pad) (hs : s = 43 ∨ s = 45) (ha : wS A = (va, 0)) (hb : wS (s :: B) = (vb, 0))
include hA hB hp hs ha hb
theorem cases_x : ∃ n, parA (readS (A ++ [78] ++ pad ++ [s] ++ pad ++ B)) = (va, vb, n, 0) := by
  have h0 : ch (asc []) 0 = -1 := rfl
  have hl : lowS [78] = [110] := by decide
  have hab : Asc (A ++ [78] ++ pad ++ [s] ++ pad ++ B) := ((((hA.asc.app (asc1 (.inl rfl))).app hp.asc).app (asc1 (.inr (.inr hs)))).app hp.asc).app hB.asc
  generalize hbb : A ++ [78] ++ pad ++ [s] ++ pad ++ B = b at hab
  have hd := hB.head (q := [])
  obtain ⟨x, hx, hx2, _⟩ := hd
  rw [List.append_nil] at hx
  unfold isD at hx2
  by_cases hpe : pad = []
  · subst hpe
    rcases hs with rfl | rfl
    · have k1 := lex_end' (b := b) (p := [] ++ ([] ++ (A ++ [78])) ++ ([43] ++ B)) (by rw [← hbb]; simp)
      have k2 := lx_num (g := [43]) (.inr (.inl rfl)) hB k1
      have k3 := lx_dim (b := b) (p := []) (g := []) (d := A) (n := []) (c := 78) (q := ([43] ++ B) ++ []) (.inl rfl) hA (.inl rfl) (fun x hx => by cases hx) (fun x hx => by cases hx) (by show nameB (ch (asc (43 :: _)) 0) = false; rw [ch_as]; rfl) (by show ch (asc (43 :: _)) 0 ≠ 92; rw [ch_as]; decide) k2
      rw [lex_read' hab k3]
      refine ⟨0 + 1 + 1, Eq.trans (par_num (i := 0) (by omega) (skS_no (show (12 : Int) ≠ 13 by decide)) rfl rfl hl (show (wS A).2 = 0 by rw [ha]) rfl rfl rfl (show (wS (43 :: B)).2 = 0 by rw [hb])) ?_⟩
      show ((wS A).1, (wS (43 :: B)).1, _, _) = _
      rw [ha, hb]
    · have k1 := lex_end' (b := b) (p := [] ++ ([] ++ (A ++ (78 :: 45 :: B)))) (by rw [← hbb]; simp)
      have k3 := lx_dim (b := b) (p := []) (g := []) (d := A) (n := 45 :: B) (c := 78) (q := []) (.inl rfl) hA (.inl rfl) ((asc1 (.inr (.inr (.inr rfl)))).app hB.asc) (fun x hx => by
        have hx : x ∈ (45 : Int) :: asc B := hx
        rcases List.mem_cons.1 hx with hx | hx
        · rw [hx]; rfl
        · exact hB.name x hx) (by rw [h0]; rfl) (by rw [h0]; decide) k1
      rw [lex_read' hab k3]
      have hl2 : lowS (78 :: 45 :: B) = 110 :: 45 :: B := by
        show lowB 78 :: lowB 45 :: lowS B = _
        rw [hB.low]
        rfl
      refine ⟨0 + 1, Eq.trans (par_rest (i := 0) (skS_no (show (12 : Int) ≠ 13 by decide)) rfl rfl hB hl2 (show (wS A).2 = 0 by rw [ha]) (show (wS (45 :: B)).2 = 0 by rw [hb])) ?_⟩
      show ((wS A).1, (wS (45 :: B)).1, _, _) = _
      rw [ha, hb]
  · have hsp : ∀ q, spaceB (ch (asc (pad ++ q)) 0) = true := fun q => by rcases bl_head hp hpe q with h | h | h <;> rw [h] <;> rfl
    have hnm : ∀ q, nameB (ch (asc (pad ++ q)) 0) = false := fun q => by rcases bl_head hp hpe q with h | h | h <;> rw [h] <;> rfl
    have h92 : ∀ q, ch (asc (pad ++ q)) 0 ≠ 92 := fun q => by rcases bl_head hp hpe q with h | h | h <;> rw [h] <;> decide
    have hsd : spaceB (ch (asc B) 0) = false := by
      rw [hx]
      unfold spaceB
      rw [decide_eq_false (by omega), decide_eq_false (by omega), decide_eq_false (by omega)]
      rfl
    have hss : ∀ q, spaceB (ch (asc ([s] ++ q)) 0) = false := fun q => by
      rw [List.cons_append, ch_as]
      rcases hs with rfl | rfl <;> rfl
    have k1 := lex_end' (b := b) (p := [] ++ ([] ++ (A ++ [78])) ++ pad ++ [s] ++ pad ++ ([] ++ B)) (by rw [← hbb]; simp)
    have k2 := lx_num (g := []) (.inl rfl) hB k1
    have k3 := lx_sp hp hpe (by simpa using hsd) k2
    have k4 := lx_del hs (hsp _) k3
    have k5 := lx_sp hp hpe (hss _) k4
    have k6 := lx_dim (b := b) (p := []) (g := []) (d := A) (n := []) (c := 78) (.inl rfl) hA (.inl rfl) (fun x hx => by cases hx) (fun x hx => by cases hx) (hnm _) (h92 _) k5
    rw [lex_read' hab k6]
    refine ⟨0 + 1 + 1 + 1 + 1 + 1, Eq.trans (par_del (i := 0) (c := s) (B := B) (by omega) (skS_no (show (12 : Int) ≠ 13 by decide)) rfl rfl hl (show (wS A).2 = 0 by rw [ha]) rfl rfl hs rfl rfl rfl rfl hB rfl (by rw [hb])) ?_⟩
    show ((wS A).1, (wS (s :: B)).1, _, _) = _
    rw [ha, hb]
theorem cases_y : ∃ n, parA (readS (pad ++ A ++ [110] ++ [s] ++ B)) = (va, vb, n, 0) := by
  have h0 : ch (asc []) 0 = -1 := rfl
  have hl : lowS [110] = [110] := by decide
  have hab : Asc (pad ++ A ++ [110] ++ [s] ++ B) := (((hp.asc.app hA.asc).app (asc1 (.inr (.inl rfl)))).app (asc1 (.inr (.inr hs)))).app hB.asc
  generalize hbb : pad ++ A ++ [110] ++ [s] ++ B = b at hab
  obtain ⟨x, hx, hx2, _⟩ := hA.head (q := [])
  rw [List.append_nil] at hx
  unfold isD at hx2
  have hsd : ∀ q, spaceB (ch (asc (A ++ q)) 0) = false := fun q => by
    obtain ⟨x, hx, hx2, _⟩ := hA.head (q := q)
    unfold isD at hx2
    rw [hx]
    unfold spaceB
    rw [decide_eq_false (by omega), decide_eq_false (by omega), decide_eq_false (by omega)]
    rfl
  have key : ∀ p : List UInt8, p = pad → ∃ t0 t1 n1 n2, (s = 43 → Lex b p (A ++ [110] ++ [43] ++ B) [⟨12, t0, t1, [110], A, true⟩, ⟨10, n1, n2, [], 43 :: B, true⟩, ⟨0, b.length, b.length, [], [], false⟩]) ∧
      (s = 45 → Lex b p (A ++ [110] ++ [45] ++ B) [⟨12, t0, t1, 110 :: 45 :: B, A, true⟩, ⟨0, b.length, b.length, [], [], false⟩]) := by
    rintro p rfl
    rcases hs with rfl | rfl
    · have k1 := lex_end' (b := b) (p := p ++ ([] ++ (A ++ [110])) ++ ([43] ++ B)) (by rw [← hbb]; simp)
      have k2 := lx_num (g := [43]) (.inr (.inl rfl)) hB k1
      have k3 := lx_dim (b := b) (p := p) (g := []) (d := A) (n := []) (c := 110) (q := ([43] ++ B) ++ []) (.inl rfl) hA (.inr rfl) (fun x hx => by cases hx) (fun x hx => by cases hx) (by show nameB (ch (asc (43 :: _)) 0) = false; rw [ch_as]; rfl) (by show ch (asc (43 :: _)) 0 ≠ 92; rw [ch_as]; decide) k2
      have e : ([] ++ (A ++ [110])) ++ (([43] ++ B) ++ []) = A ++ [110] ++ [43] ++ B := by simp
      rw [e] at k3
      exact ⟨_, _, _, _, fun _ => k3, fun h => absurd h (by decide)⟩
    · have k1 := lex_end' (b := b) (p := p ++ ([] ++ (A ++ (110 :: 45 :: B)))) (by rw [← hbb]; simp)
      have k3 := lx_dim (b := b) (p := p) (g := []) (d := A) (n := 45 :: B) (c := 110) (q := []) (.inl rfl) hA (.inr rfl) ((asc1 (.inr (.inr (.inr rfl)))).app hB.asc) (fun x hx => by
        have hx : x ∈ (45 : Int) :: asc B := hx
        rcases List.mem_cons.1 hx with hx | hx
        · rw [hx]; rfl
        · exact hB.name x hx) (by rw [h0]; rfl) (by rw [h0]; decide) k1
      have e : ([] ++ (A ++ (110 :: 45 :: B))) ++ [] = A ++ [110] ++ [45] ++ B := by simp
      rw [e] at k3
      exact ⟨_, _, 0, 0, fun h => absurd h (by decide), fun _ => k3⟩
  obtain ⟨t0, t1, n1, n2, k43, k45⟩ := key pad rfl
  have hl2 : lowS (110 :: 45 :: B) = 110 :: 45 :: B := by
    show lowB 110 :: lowB 45 :: lowS B = _
    rw [hB.low]
    rfl
  by_cases hpe : pad = []
  · subst hpe
    rcases hs with rfl | rfl
    · rw [lex_read' hab (k43 rfl)]
      refine ⟨0 + 1 + 1, Eq.trans (par_num (i := 0) (by omega) (skS_no (show (12 : Int) ≠ 13 by decide)) rfl rfl hl (show (wS A).2 = 0 by rw [ha]) rfl rfl rfl (show (wS (43 :: B)).2 = 0 by rw [hb])) ?_⟩
      show ((wS A).1, (wS (43 :: B)).1, _, _) = _
      rw [ha, hb]
    · rw [lex_read' hab (k45 rfl)]
      refine ⟨0 + 1, Eq.trans (par_rest (i := 0) (skS_no (show (12 : Int) ≠ 13 by decide)) rfl rfl hB hl2 (show (wS A).2 = 0 by rw [ha]) (show (wS (45 :: B)).2 = 0 by rw [hb])) ?_⟩
      show ((wS A).1, (wS (45 :: B)).1, _, _) = _
      rw [ha, hb]
  · rcases hs with rfl | rfl
    · have k := lx_sp (b := b) (p := []) (q := A ++ [110] ++ [43] ++ B) hp hpe (by simpa using hsd _) (k43 rfl)
      rw [lex_read' hab k]
      refine ⟨1 + 1 + 1, Eq.trans (par_num (i := 1) (by omega) (skS_one (by omega) rfl (show (12 : Int) ≠ 13 by decide)) rfl rfl hl (show (wS A).2 = 0 by rw [ha]) rfl rfl rfl (show (wS (43 :: B)).2 = 0 by rw [hb])) ?_⟩
      show ((wS A).1, (wS (43 :: B)).1, _, _) = _
      rw [ha, hb]
    · have k := lx_sp (b := b) (p := []) (q := A ++ [110] ++ [45] ++ B) hp hpe (by simpa using hsd _) (k45 rfl)
      rw [lex_read' hab k]
      refine ⟨1 + 1, Eq.trans (par_rest (i := 1) (skS_one (by omega) rfl (show (12 : Int) ≠ 13 by decide)) rfl rfl hB hl2 (show (wS A).2 = 0 by rw [ha]) (show (wS (45 :: B)).2 = 0 by rw [hb])) ?_⟩
      show ((wS A).1, (wS (45 :: B)).1, _, _) = _
      rw [ha, hb]
end
end Go.Proofs.YtkgkmlhljeidhaaGreatDoor
set_option linter.unusedSimpArgs false
set_option linter.unusedVariables false
set_option linter.unusedSectionVars false
namespace Go.Proofs.YtkgkmlhljeidhaaGreatDoor
open Go.Ev
set_option maxRecDepth 100000
set_option maxHeartbeats 8000000
theorem dg_digs (n : Nat) : Dg (digs n) := ⟨digs_ne n, digs_isD n⟩
theorem and7 (g : Int) (h : 0 ≤ g ∧ g ≤ 255) : eB .and .no (.int .u8 g) (.int .u8 7) = some (.int .u8 (g % 8)) := by
  obtain ⟨m, rfl⟩ : ∃ m : Nat, g = m := ⟨g.toNat, by omega⟩
  have key : (BitVec.ofInt 8 (m : Int) &&& BitVec.ofInt 8 7).toNat = m % 8 := by
    rw [BitVec.toNat_and]
    have e1 : (BitVec.ofInt 8 (m : Int)).toNat = m := by simp [BitVec.toNat_ofInt]; omega
    have e2 : (BitVec.ofInt 8 7).toNat = 2 ^ 3 - 1 := rfl
    rw [e1, e2, Nat.and_two_pow_sub_one_eq_mod]
  show some (V.int .u8 (IntKind.u8.wrap (BitVec.ofInt 8 (m : Int) &&& BitVec.ofInt 8 7).toNat)) = _
  rw [key, w8 (by omega)]
  congr 2
def padS (k : Int) : List UInt8 := [32, 9, 10, 32, 9, 10, 32].take (k % 8).toNat
theorem pad_cut (k : Int) : evCutS (.str [32, 9, 10, 32, 9, 10, 32]) none (some (.int .u8 (k % 8))) = some (.str (padS k)) := by
  unfold padS
  exact cutS_hi (by simp; omega)
theorem pad_bl (k : Int) : Bl (padS k) := by
  intro b hb
  have := List.mem_of_mem_take hb
  simp only [List.mem_cons, List.not_mem_nil, or_false] at this
  rcases this with h | h | h | h | h | h | h <;> simp [h]
theorem d_cases0 (a b : Nat) (ha : a ≤ 65535) (hb : b ≤ 65535) (k : Int) (hk : 0 ≤ k ∧ k ≤ 255) (s : UInt8) (hs : s = 43 ∨ s = 45) (vb : Int) (hv : wS (s :: digs b) = (vb, 0)) :
    j_Zw_0 (Mi cx) 0 (.int .u16 a) (.int .u16 b) (.int .u8 k) (.str [s]) (.int .i64 vb) [] = some (.bool true, []) := by
  have hm : strMax = 4611686018427387904 := rfl
  have h1 := and7 k hk
  have h2 := pad_cut k
  have hp := pad_bl k
  have hpl : (padS k).length ≤ 7 := by unfold padS; rw [List.length_take]; simp; omega
  generalize padS k = pad at h2 hp hpl
  generalize k % 8 = q at h1 h2
  have hla : (digs a).length ≤ a + 1 := by simpa [digs] using digF_len (a + 1) a []
  have hlb : (digs b).length ≤ b + 1 := by simpa [digs] using digF_len (b + 1) b []
  have hA := dg_digs a
  have hB := dg_digs b
  have h3 := fun σ hσ => d_digits a (by omega) σ hσ
  have h4 := fun σ hσ => d_digits b (by omega) σ hσ
  have hva : wS (digs a) = ((a : Int), 0) := by
    rw [wS_digs]
    unfold wvS
    rw [if_neg (by omega)]
    rfl
  obtain ⟨n1, hx⟩ := cases_x hA hB hp hs hva hv
  obtain ⟨n2, hy⟩ := cases_y hA hB hp hs hva hv
  generalize digs a = A at h3 hx hy hla
  generalize digs b = B at h4 hx hy hlb
  have hx1 := fun σ hσ => d_Read (A ++ [78] ++ pad ++ [s] ++ pad ++ B) (by simp; omega) σ hσ
  have hy1 := fun σ hσ => d_Read (pad ++ A ++ [110] ++ [s] ++ B) (by simp; omega) σ hσ
  have hx2 := readS_ok (A ++ [78] ++ pad ++ [s] ++ pad ++ B) (by simp; omega)
  have hy2 := readS_ok (pad ++ A ++ [110] ++ [s] ++ B) (by simp; omega)
  have hx3 := fun σ hσ => d_aParse hx2.1 σ hσ
  have hy3 := fun σ hσ => d_aParse hy2.1 σ hσ
  have e0 : errV 0 = .nili := rfl
  rw [hx] at hx3
  rw [hy] at hy3
  simp only [parE, e0] at hx3 hy3
  have a1 : eB .add .no (.str A) (.str [78]) = some (.str (A ++ [78])) := bs_add (by simp; omega)
  have a2 : eB .add .no (.str (A ++ [78])) (.str pad) = some (.str (A ++ [78] ++ pad)) := bs_add (by simp; omega)
  have a3 : eB .add .no (.str (A ++ [78] ++ pad)) (.str [s]) = some (.str (A ++ [78] ++ pad ++ [s])) := bs_add (by simp; omega)
  have a4 : eB .add .no (.str (A ++ [78] ++ pad ++ [s])) (.str pad) = some (.str (A ++ [78] ++ pad ++ [s] ++ pad)) := bs_add (by simp; omega)
  have a5 : eB .add .no (.str (A ++ [78] ++ pad ++ [s] ++ pad)) (.str B) = some (.str (A ++ [78] ++ pad ++ [s] ++ pad ++ B)) := bs_add (by simp; omega)
  have b1 : eB .add .no (.str pad) (.str A) = some (.str (pad ++ A)) := bs_add (by omega)
  have b2 : eB .add .no (.str (pad ++ A)) (.str [110]) = some (.str (pad ++ A ++ [110])) := bs_add (by simp; omega)
  have b3 : eB .add .no (.str (pad ++ A ++ [110])) (.str [s]) = some (.str (pad ++ A ++ [110] ++ [s])) := bs_add (by simp; omega)
  have b4 : eB .add .no (.str (pad ++ A ++ [110] ++ [s])) (.str B) = some (.str (pad ++ A ++ [110] ++ [s] ++ B)) := bs_add (by simp; omega)
  generalize A ++ [78] ++ pad ++ [s] ++ pad ++ B = x at a5 hx1 hx3
  generalize A ++ [78] ++ pad ++ [s] ++ pad = x1 at a4 a5
  generalize A ++ [78] ++ pad ++ [s] = x2 at a3 a4
  generalize A ++ [78] ++ pad = x3 at a2 a3
  generalize A ++ [78] = x4 at a1 a2
  generalize pad ++ A ++ [110] ++ [s] ++ B = y at b4 hy1 hy3
  generalize pad ++ A ++ [110] ++ [s] = y1 at b3 b4
  generalize pad ++ A ++ [110] = y2 at b2 b3
  generalize pad ++ A = y3 at b1 b2
  generalize readS x = X at hx1 hx3
  generalize readS y = Y at hy1 hy3
  simp +contextual -implicitDefEqProofs (disch := first | assumption | omega | (simp -implicitDefEqProofs only [go_sem]; try omega)) only [↓reduceIte, go_sem, iP, iN, w64, w8, w32, j_Zw_0, h1, h2, h3, h4, hx1, hx3, hy1, hy3, a1, a2, a3, a4, a5, b1, b2, b3, b4]
theorem d_AnbCases (a b k : Int) (ha : 0 ≤ a ∧ a ≤ 65535) (hb : 0 ≤ b ∧ b ≤ 65535) (hk : 0 ≤ k ∧ k ≤ 255) (m : Bool) : E cx 4 [.int .u16 a, .int .u16 b, .bool m, .int .u8 k] [] = some (.bool true, []) := by
  have h0 := d_speaks
  obtain ⟨a, rfl⟩ : ∃ n : Nat, a = n := ⟨a.toNat, by omega⟩
  obtain ⟨b, rfl⟩ : ∃ n : Nat, b = n := ⟨b.toNat, by omega⟩
  have h1 := d_cases0 a b (by omega) (by omega) k hk 43 (.inl rfl) b (by rw [wS_plus]; unfold wvS; rw [if_neg (by omega)]; rfl)
  have h2 := d_cases0 a b (by omega) (by omega) k hk 45 (.inr rfl) (0 - (b : Int)) (by
    have := wS_minus 0 b
    simp only [List.replicate_zero, List.nil_append] at this
    rw [this, Int.zero_sub]; unfold wvS; rw [if_neg (by omega)]; rfl)
  rw [e_Zw]
  cases m with
  | true => simp +contextual -implicitDefEqProofs (disch := first | assumption | omega | (simp -implicitDefEqProofs only [go_sem]; try omega)) only [↓reduceIte, go_sem, iP, iN, w64, w8, w32, s_Zw, h0, h2]
  | false => simp +contextual -implicitDefEqProofs (disch := first | assumption | omega | (simp -implicitDefEqProofs only [go_sem]; try omega)) only [↓reduceIte, go_sem, iP, iN, w64, w8, w32, s_Zw, h0, h1]
end Go.Proofs.YtkgkmlhljeidhaaGreatDoor
namespace Go.Proofs.YtkgkmlhljeidhaaGreatDoor
open Go.ChangeShapes Go.WideShapes Go.ChangeAt Go.RowKit
theorem Tryz.ownKnob : ownKnob Tryz.prog.godebug = none := by kernel_rfl
theorem Tryz.laidOut : laidOutB Tryz.prog = true := by kernel_rfl
section
variable {H : Type} {enc : TypeId × Value → H} {P : Program}
theorem trodAll_kept (hl : laidOutB P = true) {W W' : World} {sp : Nat → Bool} : ∀ (ts : List TypeId) (vs : List Value) (ds : List (DataW H)) (ps : List MemPlace),
    (∀ t ∈ ts, P.readableRec t = true ∧ t < P.types.size) → DataW.TrodAll enc P W 0 (fun _ => true) true ts vs ds ps → (∀ p ∈ ps, W.sameAt W' p) → (∀ p ∈ ps, sp p.block = true) →
    DataW.TrodAll enc P W' 0 sp true ts vs ds ps
  | [], _, _, _, _, h, _, _ => by
    obtain ⟨rfl, rfl, rfl⟩ := trodAll_nil h
    exact trodAll_mk0
  | t :: ts, _, _, _, ht, h, h1, h2 => by
    obtain ⟨v, vs', d, ds', p, q, rfl, rfl, rfl, hv, hr⟩ := trodAll_cons h
    have ht0 := ht t (by simp)
    exact trodAll_cons_mk (WideElems.Trod_stays hl ht0.1 ht0.2 hv (fun x hx => h1 x (by simp [hx])) (fun x hx => h2 x (by simp [hx])))
      (trodAll_kept hl ts vs' ds' q (fun t h => ht t (by simp [h])) hr (fun x hx => h1 x (by simp [hx])) (fun x hx => h2 x (by simp [hx])))
theorem law_post {f : Func} {s : ChangeSpec} {tb : TypeId} {W W' : World} {args : Array Value} {ds : List (DataW H)} {before : List MemPlace}
    (hl : laidOutB P = true) (ht : ∀ t ∈ f.params.toList, P.readableRec t = true ∧ t < P.types.size)
    (hW : DataW.Whole enc P f.params.toList s.vars false W args.toList ds [] before) (hv : s.vars = []) (hr : f.resultTypes = #[tb]) (hb : P.underlying tb = some .bool)
    (hfn : s.fn H ds = { results := [.lit (.bool true)], args := ds }) (hbl : Below W.heap.size W W') : s.post enc P f false true false false W args (.bool true) W' := by
  have hlt : ∀ p ∈ before, p.block < W.heap.size := fun p hp => hW.lt p hp
  have hW0 := hW
  obtain ⟨p, q, hA, hV, hpq, hz, hn⟩ := hW
  rw [hv] at hV
  obtain ⟨_, rfl⟩ := trodVars_none hV
  simp only [List.append_nil] at hpq
  subst hpq
  have hfn' : s.fn H (ds ++ []) = { results := [.lit (.bool true)], args := ds } := by rw [List.append_nil]; exact hfn
  have hold : ∀ x ∈ before, (fun b => decide (b < W.heap.size)) x.block = true := fun x hx => by simpa using hlt x hx
  have keep : ∀ sp : Nat → Bool, (∀ x ∈ before, sp x.block = true) → DataW.TrodAll enc P W' 0 sp true f.params.toList args.toList ds before := fun sp hs =>
    trodAll_kept hl _ _ _ _ ht hA (fun x hx => hbl.same (hlt x hx)) hs
  have hres : ∀ (b : Nat) (sp : Nat → Bool) (hd : Bool), DataW.TrodAll enc P W' b sp hd f.resultTypes.toList ((Value.bool true).resultList f.resultTypes.size) (s.fn H (ds ++ [])).results [] := fun b sp hd => by
    rw [hfn', hr]; exact trodAll_mk1 (shut_bool hb true)
  refine ⟨ds, [], before, [], before, [], hW0, hres _ _ _, ?_, ?_, World.keptBut_mono (fun x hx => ⟨hx, Or.inr (Or.inl hx)⟩) (hbl.frame (· ∈ before)), fun h => by cases h⟩
  · rw [hfn']; exact keep _ hold
  · rw [hv, hfn']; rfl
end
end Go.Proofs.YtkgkmlhljeidhaaGreatDoor
set_option linter.unusedSimpArgs false
set_option linter.unusedVariables false
namespace Go.Proofs.YtkgkmlhljeidhaaGreatDoor
open Go.ChangeShapes Go.WideShapes Go.RowKit Go.Joins
open Go.ChangeMaps (open_string)
set_option maxRecDepth 100000 in
theorem anbCases_lifted (os : Os) (started : os.Started) (H : Type) (enc : TypeId × Value → H) :
    ReturnsInHanded {} Tryz.checked os 4 .any (fun w args => (Rows.anbCasesSpec.pre enc Tryz.prog Tryz.f4 [] false w args ∧ laidMetH Tryz.prog Rows.anbCasesRow.laid w) ∧ sizedMet enc Tryz.prog Tryz.f4 (OpenSpec.ofChange Rows.anbCasesSpec) false w args)
      (Rows.anbCasesSpec.post enc Tryz.prog Tryz.f4 false true false false) := by
  refine returnsInHanded_of_change_and (C := Tryz.checked) (X := fun w _ => laidMetH Tryz.prog Rows.anbCasesRow.laid w) (fun _ _ _ hh h => h.of_heap hh) Tryz.ownKnob started (by kernel_rfl) Tryz.func4
    (ChangeSpec.witness_shaped (enc := enc) (C := Tryz.checked) (os := os) (X := fun w _ => laidMetH Tryz.prog Rows.anbCasesRow.laid w) false (World.laidAll Tryz.prog os Rows.anbCasesRow.laid) #[.int .u16 0, .int .u16 0, .bool false, .int .u8 0] 8 (World.laidAll_os _ _ _)
      (World.shaped_of_ZipB (by kernel_rfl) (by kernel_rfl)) (by kernel_rfl) (by kernel_rfl) (by kernel_rfl)
      (by rw [MakeChecks.laidMetH_plain _ _ _ (by kernel_rfl)]; exact laidMet_laidAll _ (by kernel_rfl) (by kernel_rfl))) ?_
  intro W base args ds gs before hval0 hW _ _ hL _
  have hval : ∀ (j : Nat) t v, Tryz.f4.params[j]? = some t → args[j]? = some v → Value.okWide Tryz.prog W .any base t v := hval0
  have hW' := hW
  obtain ⟨p, q, hA0, hV0, rfl, hfz, hnd⟩ := hW
  have hA : DataW.TrodAll enc Tryz.prog W 0 (fun _ => true) true Tryz.f4.params.toList args.toList ds p := hA0
  have hV : DataW.TrodVars enc Tryz.prog W (fun _ => true) [] gs q := hV0
  rw [Tryz.params4] at hA hval
  obtain ⟨v0, v1, v2, v3, d0, d1, d2, d3, p0, p1, p2, p3, rfl, rfl, rfl, h0, h1, h2, h3⟩ := trodAll_four hA
  obtain ⟨rfl, rfl⟩ := trodVars_none hV
  obtain ⟨a, rfl, hd0, hp0, w0⟩ := open_int Tryz.underlying24 (hval 0 24 v0 rfl rfl) h0
  obtain ⟨b, rfl, hd1, hp1, w1⟩ := open_int Tryz.underlying24 (hval 1 24 v1 rfl rfl) h1
  obtain ⟨m, rfl, hd2, hp2⟩ := open_bool Tryz.underlying4 (hval 2 4 v2 rfl rfl) h2
  obtain ⟨k, rfl, hd3, hp3, w3⟩ := open_int Tryz.underlying5 (hval 3 5 v3 rfl rfl) h3
  have r0 : 0 ≤ a ∧ a ≤ 65535 := by simpa [Lit.wf, IntKind.min, IntKind.max, IntKind.signed, IntKind.bits] using w0
  have r1 : 0 ≤ b ∧ b ≤ 65535 := by simpa [Lit.wf, IntKind.min, IntKind.max, IntKind.signed, IntKind.bits] using w1
  have r3 : 0 ≤ k ∧ k ≤ 255 := by simpa [Lit.wf, IntKind.min, IntKind.max, IntKind.signed, IntKind.bits] using w3
  clear hA0 hval0
  obtain ⟨nf, hev⟩ := Ev.ev_of_E cx_esc (d_AnbCases a b k r0 r1 r3 m)
  refine (Ev.calls_of_ev (P := Tryz.prog) (by kernel_rfl) cx cx_prim okAnC (F := c_Zw) rfl W (args := [.int .u16 a, .int .u16 b, .bool m, .int .u8 k]) (Ev.Reps.cons (.int _ _) (Ev.Reps.cons (.int _ _) (Ev.Reps.cons (.bool _) (Ev.Reps.cons (.int _ _) Ev.Reps.nil)))) (by intro x hx; simp only [List.mem_cons, List.not_mem_nil, or_false] at hx; (repeat' (rcases hx with rfl | hx)); all_goals first | rfl | (subst hx; rfl)) ⟨fun _ => .any _, fun p hp => by cases hp⟩ hev).mono fun e W' ⟨he, hb⟩ => ?_
  subst he
  exact ⟨_, rfl, law_post (tb := 4) Tryz.laidOut (by rw [Tryz.params4]; intro t ht; simp only [List.mem_cons, List.not_mem_nil, or_false] at ht; (repeat' (rcases ht with rfl | ht)); all_goals first | exact ⟨by kernel_rfl, of_decide_eq_true (by kernel_rfl)⟩ | (subst ht; exact ⟨by kernel_rfl, of_decide_eq_true (by kernel_rfl)⟩)) hW' rfl rfl Tryz.underlying4 rfl hb⟩
theorem anbCases_holds : Rows.AnbCasesSaid :=
  OpenClaim.holds_of_wide 4 Tryz.f4 rfl rfl rfl rfl rfl rfl rfl ⟨rfl, rfl, rfl, rfl, rfl⟩ rfl rfl rfl rfl rfl (by kernel_rfl) Tryz.func4 (by kernel_rfl)
    (of_decide_eq_true (by kernel_rfl)) (by unfold Func.isWrapper; rw [if_neg (of_decide_eq_false (by kernel_rfl))]; exact ⟨rfl, rfl⟩)
    (fun os started H enc _ => anbCases_lifted os started H enc)
theorem anbCases_card : Rows.AnbCasesCardSaid :=
  Claim7.holds_tied_plain_at .later [] _ _ _ _
    anbCases_holds (fun _ h => by cases h) (by kernel_rfl) (fun _ h => by cases h) anbCases_row_tie rfl ⟨rfl, rfl⟩ (by kernel_rfl) rfl
    (fun f fn hf hfn => by
      obtain rfl : f = 4 := Option.some.inj ((show Tryz.prog.funcNamed "wattle/wattlelaw04.AnbCases" = some 4 by kernel_rfl).symm.trans hf) |>.symm
      obtain rfl : fn = Tryz.f4 := (Option.some.inj (Tryz.func4.symm.trans hfn)).symm
      exact ⟨by kernel_rfl, fun j t ht => by
        rw [Tryz.params4] at ht
        have hm := Array.mem_of_getElem? ht
        simp only [List.mem_toArray, List.mem_cons, List.not_mem_nil, or_false] at hm
        (repeat' (rcases hm with rfl | hm))
        all_goals first | (subst hm; show Tryz.prog.wantsStandIn _ = false; kernel_rfl) | (show Tryz.prog.wantsStandIn _ = false; kernel_rfl)⟩)
    (by kernel_rfl)
#print axioms anbCases_card
end Go.Proofs.YtkgkmlhljeidhaaGreatDoor
