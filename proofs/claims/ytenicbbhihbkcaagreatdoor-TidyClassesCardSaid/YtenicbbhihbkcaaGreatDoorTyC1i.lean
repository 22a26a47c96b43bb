/- Part of a proof: the small language, and functions of the program on it. -/
import Derived.Test.YtenicbbhihbkcaaGreatDoorTyC1h
import Derived.Test.YtenicbbhihbkcaaGreatDoorChecked
import Derived.Lib.Bytealg
import Derived.Laws.Externs
import Derived.RangeFuncNested
import Derived.RangeFuncLeaves
import Derived.Shelf.Abstract
import Derived.WalkKit
import Derived.OwnWalkIn
import Derived.TacticsInMore
import Derived.LoopNIn
import Derived.LoopIn
import Derived.Shelf.RegionOpen
import Derived.Lib.Hide
set_option linter.unusedSimpArgs false
set_option linter.unusedVariables false
set_option maxRecDepth 100000
namespace Go.Proofs.YtenicbbhihbkcaaGreatDoor
open Go.Ev
theorem e_Z5i (a0 : V) (σ : Objs) : E cx 3 [a0] σ = s_Z5i (Mi cx) a0 σ := (E_fn (F := c_Z5i) (by kernel_rfl) (by kernel_rfl) _ _).trans (k_Z5i ..)
theorem u_Z5i_1 (n0 : Nat) (n1 : Nat) (r1 : Rk) (n2 : Nat) (z0 z3 z5 z6 z7 z14 z15 z16 : V) (σ : Objs) : l_Z5i_1 (Mi cx) n0 n1 r1 n2 [z0, z3, z5, z6, z7, z14, z15, z16] σ = b_Z5i_1 (Mi cx) n0 n1 r1 n2 (l_Z5i_1 (Mi cx) n0 n1 r1 n2) z0 z3 z5 z6 z7 z14 z15 z16 σ :=
  loop_at cx (seek (Mi cx) 45 [(n1, r1)] [true, true, true, true, false, true, true, true, false, true, true, true, false, true] c_Z5i.body (topK c_Z5i n0)) n2 (B := fun rec vs σ => b_Z5i_1 (Mi cx) n0 n1 r1 n2 rec (vs.getD 0 .undef) (vs.getD 1 .undef) (vs.getD 2 .undef) (vs.getD 3 .undef) (vs.getD 4 .undef) (vs.getD 5 .undef) (vs.getD 6 .undef) (vs.getD 7 .undef) σ) (by kernel_rfl) (by kernel_rfl) _ _
theorem u_Z5i_0 (n0 : Nat) (n1 : Nat) (z0 z3 z14 z15 z16 : V) (σ : Objs) : l_Z5i_0 (Mi cx) n0 n1 [z0, z3, z14, z15, z16] σ = b_Z5i_0 (Mi cx) n0 n1 (l_Z5i_0 (Mi cx) n0 n1) z0 z3 z14 z15 z16 σ :=
  loop_at cx (seek (Mi cx) 45 [] [true, true, true, true, false, true] c_Z5i.body (topK c_Z5i n0)) n1 (B := fun rec vs σ => b_Z5i_0 (Mi cx) n0 n1 rec (vs.getD 0 .undef) (vs.getD 1 .undef) (vs.getD 2 .undef) (vs.getD 3 .undef) (vs.getD 4 .undef) σ) (by kernel_rfl) (by kernel_rfl) _ _
theorem e_Z57 (a0 : V) (σ : Objs) : E cx 6 [a0] σ = s_Z57 (Mi cx) a0 σ := (E_fn (F := c_Z57) (by kernel_rfl) (by kernel_rfl) _ _).trans (k_Z57 ..)
theorem u_Z57_0 (n0 : Nat) (n1 : Nat) (z2 z5 z6 z7 : V) (σ : Objs) : l_Z57_0 (Mi cx) n0 n1 [z2, z5, z6, z7] σ = b_Z57_0 (Mi cx) n0 n1 (l_Z57_0 (Mi cx) n0 n1) z2 z5 z6 z7 σ :=
  loop_at cx (seek (Mi cx) 18 [] [true, false, true] c_Z57.body (topK c_Z57 n0)) n1 (B := fun rec vs σ => b_Z57_0 (Mi cx) n0 n1 rec (vs.getD 0 .undef) (vs.getD 1 .undef) (vs.getD 2 .undef) (vs.getD 3 .undef) σ) (by kernel_rfl) (by kernel_rfl) _ _
theorem e_Z5k (a0 a1 : V) (σ : Objs) : E cx 5 [a0, a1] σ = s_Z5k (Mi cx) a0 a1 σ := (E_fn (F := c_Z5k) (by kernel_rfl) (by kernel_rfl) _ _).trans (k_Z5k ..)
theorem u_Z5k_0 (n0 : Nat) (n1 : Nat) (z0 z1 z5 : V) (σ : Objs) : l_Z5k_0 (Mi cx) n0 n1 [z0, z1, z5] σ = b_Z5k_0 (Mi cx) n0 n1 (l_Z5k_0 (Mi cx) n0 n1) z0 z1 z5 σ :=
  loop_at cx (seek (Mi cx) 26 [] [true, true, false, true] c_Z5k.body (topK c_Z5k n0)) n1 (B := fun rec vs σ => b_Z5k_0 (Mi cx) n0 n1 rec (vs.getD 0 .undef) (vs.getD 1 .undef) (vs.getD 2 .undef) σ) (by kernel_rfl) (by kernel_rfl) _ _
theorem e_Z4c (a0 a1 : V) (σ : Objs) : E cx 9 [a0, a1] σ = s_Z4c (Mi cx) a0 a1 σ := (E_fn (F := c_Z4c) (by kernel_rfl) (by kernel_rfl) _ _).trans (k_Z4c ..)
theorem u_Z4c_0 (n0 : Nat) (n1 : Nat) (z0 z1 z7 z8 : V) (σ : Objs) : l_Z4c_0 (Mi cx) n0 n1 [z0, z1, z7, z8] σ = b_Z4c_0 (Mi cx) n0 n1 (l_Z4c_0 (Mi cx) n0 n1) z0 z1 z7 z8 σ :=
  loop_at cx (seek (Mi cx) 19 [] [true, false, true] c_Z4c.body (topK c_Z4c n0)) n1 (B := fun rec vs σ => b_Z4c_0 (Mi cx) n0 n1 rec (vs.getD 0 .undef) (vs.getD 1 .undef) (vs.getD 2 .undef) (vs.getD 3 .undef) σ) (by kernel_rfl) (by kernel_rfl) _ _
end Go.Proofs.YtenicbbhihbkcaaGreatDoor
set_option linter.unusedSimpArgs false
set_option linter.unusedVariables false
namespace Go.Ev
def vW : List Int → V
  | [] => .nils
  | x :: r => .sl (ints (x :: r)) (.gr 1)
def sl0 : List Int → Sl Int
  | [] => .nil
  | x :: r => .row (x :: r)
@[reducible] def vIs (s : Sl Int) : V := vSl (V.int .i64) s
@[reducible] def vRs (s : Sl (Sl Int)) : V := vSl vIs s
theorem sl0_l : ∀ l : List Int, (sl0 l).l = l
  | [] => rfl
  | _ :: _ => rfl
theorem rb_vIs {n : Nat} {s : Sl Int} : V.rb n (vIs s) = true := rb_vSl fun _ _ => rfl
theorem rb_vRs {n : Nat} {s : Sl (Sl Int)} : V.rb n (vRs s) = true := rb_vSl fun _ _ => rb_vIs
theorem rb_vW {n : Nat} : ∀ {l : List Int}, V.rb n (vW l) = true
  | [] => rfl
  | x :: r => rbs_ints
theorem app_vW {σ : Objs} {x : Int} {c : Cap} : ∀ {l : List Int}, l.length < 1000000000 → appV false false 1 8 σ (vW l) (.sl [.int .i64 x] c) = some (vW (l ++ [x]))
  | [], _ => rfl
  | y :: r, h => app_int (l := y :: r) (.inr rfl) (by simp only [rowMax]; have := h; omega)
end Go.Ev
namespace Go.Proofs.YtenicbbhihbkcaaGreatDoor
open Go.Ev
set_option maxRecDepth 100000
set_option maxHeartbeats 4000000
def ixI : List Int → Nat → Int
  | [], _ => -1
  | x :: r, i => if 1 = x then i else ixI r (i + 1)
theorem d_ixloop (s : Sl Int) (hs : s.l.length ≤ 1000000000000000000) : ∀ (r q : List Int), s.l = q ++ r →
    l_Z4c_0 (Mi cx) 0 0 [vIs s, .int .i64 1, .int .i64 s.l.length, .int .i64 q.length] [] = some (.int .i64 (ixI r q.length), [])
  | [], q, hq => by
    have e1 : ¬ (q.length : Int) < s.l.length := by rw [hq]; simp
    rw [u_Z4c_0]
    show _ = some (V.int .i64 (-1), [])
    simp +contextual -implicitDefEqProofs (disch := first | assumption | omega | (simp -implicitDefEqProofs only [go_sem]; try omega)) only [↓reduceIte, go_sem, iP, iN, w64, w8, w32, b_Z4c_0, e1]
  | x :: r, q, hq => by
    have hlen : s.l.length = q.length + r.length + 1 := by rw [hq]; simp; omega
    have e1 : (q.length : Int) < s.l.length := by omega
    have i1 : eI 1 (.int .i64 q.length) (vIs s) = some (.eptr [.int .i64 x] 0) := iaddr_vSl (f := V.int .i64) hq rfl rfl
    have f1 : ∀ k σ, fz k σ fzD (vIs s) = some (vIs s) := fun k σ => fz_rb rb_vIs
    have ih := d_ixloop s hs r (q ++ [x]) (by rw [hq]; simp)
    rw [show ((q ++ [x]).length : Int) = q.length + 1 by simp] at ih
    rw [show (q ++ [x]).length = q.length + 1 by simp] at ih
    rw [u_Z4c_0]
    show _ = some (V.int .i64 (if 1 = x then (q.length : Int) else ixI r (q.length + 1)), [])
    by_cases c : 1 = x
    · subst c
      simp +contextual -implicitDefEqProofs (disch := first | assumption | omega | (simp -implicitDefEqProofs only [go_sem]; try omega)) only [↓reduceIte, go_sem, iP, iN, w64, w8, w32, b_Z4c_0, n_vSl, e1, i1, f1]
    · rw [if_neg c]
      simp +contextual -implicitDefEqProofs (disch := first | assumption | omega | (simp -implicitDefEqProofs only [go_sem]; try omega)) only [↓reduceIte, go_sem, iP, iN, w64, w8, w32, b_Z4c_0, n_vSl, e1, i1, f1, c, ih]
theorem d_Index (s : Sl Int) (hs : s.l.length ≤ 1000000000000000000) : E cx 9 [vIs s, .int .i64 1] [] = some (.int .i64 (ixI s.l 0), []) := by
  have h : l_Z4c_0 (Mi cx) 0 0 [vIs s, .int .i64 1, .int .i64 s.l.length, .int .i64 0] [] = some (.int .i64 (ixI s.l 0), []) := d_ixloop s hs s.l [] rfl
  have f1 : ∀ k σ, fz k σ fzD (vIs s) = some (vIs s) := fun k σ => fz_rb rb_vIs
  rw [e_Z4c]
  simp +contextual -implicitDefEqProofs (disch := first | assumption | omega | (simp -implicitDefEqProofs only [go_sem]; try omega)) only [↓reduceIte, go_sem, iP, iN, w64, w8, w32, s_Z4c, len_vSl, n_vSl, f1, h]
def ixs (l : List (Sl Int)) : List Int := l.map fun s => ixI s.l 0
theorem d_clloop (s : Sl (Sl Int)) (hs : s.l.length ≤ 60) (hr : ∀ x ∈ s.l, x.l.length ≤ 200) : ∀ (r q : List (Sl Int)), s.l = q ++ r →
    l_Z57_0 (Mi cx) 0 0 [vW (ixs q), vRs s, .int .i64 s.l.length, .int .i64 q.length] [] = some (vIs (sl0 (ixs s.l)), [])
  | [], q, hq => by
    have e1 : ¬ (q.length : Int) < s.l.length := by rw [hq]; simp
    have f1 : ∀ k σ, fz k σ fzD (vW (ixs q)) = some (vW (ixs q)) := fun k σ => fz_rb rb_vW
    have f2 : oK false (vW (ixs q)) = some (vIs (sl0 (ixs q))) := by cases ixs q <;> rfl
    have f3 : nK 0 [] (vIs (sl0 (ixs q))) = some (vIs (sl0 (ixs q)), []) := end_z rb_vIs
    have e2 : s.l = q := by rw [hq, List.append_nil]
    rw [u_Z57_0, e2] at *
    simp +contextual -implicitDefEqProofs (disch := first | assumption | omega | (simp -implicitDefEqProofs only [go_sem]; try omega)) only [↓reduceIte, go_sem, iP, iN, w64, w8, w32, b_Z57_0, e1, f1, f2, f3]
  | x :: r, q, hq => by
    have hlen : s.l.length = q.length + r.length + 1 := by rw [hq]; simp; omega
    have e1 : (q.length : Int) < s.l.length := by omega
    have i1 : eI 1 (.int .i64 q.length) (vRs s) = some (.eptr [vIs x] 0) := by
      have := iaddr_vSl (f := vIs) (sz := 1) (k := .i64) (i := q.length) hq rfl (by rw [cells_vSl]; rfl)
      rwa [cells_vSl] at this
    have f1 : ∀ k σ, fz k σ fzD (vRs s) = some (vRs s) := fun k σ => fz_rb rb_vRs
    have hx := hr x (by rw [hq]; simp)
    have c1 := d_Index x (by omega)
    have a1 : ∀ c, appV false false 1 8 [] (vW (ixs q)) (.sl [.int .i64 (ixI x.l 0)] c) = some (vW (ixs (q ++ [x]))) := fun c => by
      rw [app_vW (by simp [ixs]; omega)]; simp [ixs]
    have f2 : ∀ k σ, fz k σ fzD (vW (ixs (q ++ [x]))) = some (vW (ixs (q ++ [x]))) := fun k σ => fz_rb rb_vW
    have ih := d_clloop s hs hr r (q ++ [x]) (by rw [hq]; simp)
    rw [show ((q ++ [x]).length : Int) = q.length + 1 by simp] at ih
    rw [u_Z57_0]
    simp +contextual -implicitDefEqProofs (disch := first | assumption | omega | (simp -implicitDefEqProofs only [go_sem]; try omega)) only [↓reduceIte, go_sem, iP, iN, w64, w8, w32, b_Z57_0, n_vSl, e1, i1, f1, c1, a1, f2, ih]
theorem d_Classes (s : Sl (Sl Int)) (hs : s.l.length ≤ 60) (hr : ∀ x ∈ s.l, x.l.length ≤ 200) : E cx 6 [vRs s] [] = some (vIs (sl0 (ixs s.l)), []) := by
  have h : l_Z57_0 (Mi cx) 0 0 [.nils, vRs s, .int .i64 s.l.length, .int .i64 0] [] = some (vIs (sl0 (ixs s.l)), []) := d_clloop s hs hr s.l [] rfl
  have f1 : ∀ k σ, fz k σ fzD (vRs s) = some (vRs s) := fun k σ => fz_rb rb_vRs
  rw [e_Z57]
  simp +contextual -implicitDefEqProofs (disch := first | assumption | omega | (simp -implicitDefEqProofs only [go_sem]; try omega)) only [↓reduceIte, go_sem, iP, iN, w64, w8, w32, s_Z57, len_vSl, n_vSl, f1, h]
theorem d_smloop (s t : Sl Int) (he : t.l = s.l) (hs : s.l.length ≤ 1000) : ∀ (r q : List Int), s.l = q ++ r →
    l_Z5k_0 (Mi cx) 0 0 [vIs s, vIs t, .int .i64 q.length] [] = some (.bool true, [])
  | [], q, hq => by
    have e1 : ¬ (q.length : Int) < s.l.length := by rw [hq]; simp
    rw [u_Z5k_0]
    simp +contextual -implicitDefEqProofs (disch := first | assumption | omega | (simp -implicitDefEqProofs only [go_sem]; try omega)) only [↓reduceIte, go_sem, iP, iN, w64, w8, w32, b_Z5k_0, len_vSl, n_vSl, e1]
  | x :: r, q, hq => by
    have hlen : s.l.length = q.length + r.length + 1 := by rw [hq]; simp; omega
    have e1 : (q.length : Int) < s.l.length := by omega
    have i1 : eI 1 (.int .i64 q.length) (vIs s) = some (.eptr [.int .i64 x] 0) := iaddr_vSl (f := V.int .i64) hq rfl rfl
    have i2 : eI 1 (.int .i64 q.length) (vIs t) = some (.eptr [.int .i64 x] 0) := iaddr_vSl (f := V.int .i64) (he.trans hq) rfl rfl
    have f1 : ∀ k σ, fz k σ fzD (vIs s) = some (vIs s) := fun k σ => fz_rb rb_vIs
    have f2 : ∀ k σ, fz k σ fzD (vIs t) = some (vIs t) := fun k σ => fz_rb rb_vIs
    have ih := d_smloop s t he hs r (q ++ [x]) (by rw [hq]; simp)
    rw [show ((q ++ [x]).length : Int) = q.length + 1 by simp] at ih
    rw [u_Z5k_0]
    simp +contextual -implicitDefEqProofs (disch := first | assumption | omega | (simp -implicitDefEqProofs only [go_sem]; try omega)) only [↓reduceIte, go_sem, iP, iN, w64, w8, w32, b_Z5k_0, len_vSl, n_vSl, e1, i1, i2, f1, f2, ih]
theorem d_Same (s t : Sl Int) (he : t.l = s.l) (hs : s.l.length ≤ 1000) : E cx 5 [vIs s, vIs t] [] = some (.bool true, []) := by
  have h : l_Z5k_0 (Mi cx) 0 0 [vIs s, vIs t, .int .i64 0] [] = some (.bool true, []) := d_smloop s t he hs s.l [] rfl
  have l1 : evLen (vIs s) = some (.int .i64 s.l.length) := len_vSl
  have l2 : evLen (vIs t) = some (.int .i64 s.l.length) := by rw [← he]; exact len_vSl
  have f1 : ∀ k σ, fz k σ fzD (vIs s) = some (vIs s) := fun k σ => fz_rb rb_vIs
  have f2 : ∀ k σ, fz k σ fzD (vIs t) = some (vIs t) := fun k σ => fz_rb rb_vIs
  rw [e_Z5k]
  simp +contextual -implicitDefEqProofs (disch := first | assumption | omega | (simp -implicitDefEqProofs only [go_sem]; try omega)) only [↓reduceIte, go_sem, iP, iN, w64, w8, w32, s_Z5k, l1, l2, n_vSl, f1, f2, h]
theorem d_inloop (s : Sl Int) (hs : s.l.length ≤ 200) (want : V) (hw : ∀ n, V.rb n want = true) (Z : V) (hZ : ∀ n, V.rb n Z = true) (r1 : Rk) (n z : Int) (w' : V) (hw' : ∀ n, V.rb n w' = true) (hz : 0 ≤ z ∧ z ≤ 60) (ha : ∀ c, appV false false 1 8 [] want (.sl [.int .i64 (ixI s.l 0)] c) = some w') :
    ∀ (q r : List Int), s.l = q.reverse ++ r →
    l_Z5i_1 (Mi cx) 0 0 r1 0 [Z, want, vIs s, .int .i64 (ixI r q.length), .int .i64 ((q.length : Int) - 1), Z, .int .i64 n, .int .i64 z] [] = r1 [Z, w', Z, .int .i64 n, .int .i64 (z + 1)] []
  | [], r, hq => by
    have fZ : ∀ k σ, fz k σ fzD Z = some Z := fun k σ => fz_rb (hZ k)
    have fw : ∀ k σ, fz k σ fzD want = some want := fun k σ => fz_rb (hw k)
    have fw' : ∀ k σ, fz k σ fzD w' = some w' := fun k σ => fz_rb (hw' k)
    have e2 : s.l = r := hq
    rw [e2] at ha
    rw [u_Z5i_1]
    show b_Z5i_1 (Mi cx) 0 0 r1 0 _ Z want (vIs s) (.int .i64 (ixI r 0)) (.int .i64 (-1)) Z _ _ [] = _
    simp +contextual -implicitDefEqProofs (disch := first | assumption | omega | (simp -implicitDefEqProofs only [go_sem]; try omega)) only [↓reduceIte, go_sem, iP, iN, w64, w8, w32, b_Z5i_1, fZ, fw, fw', ha]
  | x :: q, r, hq => by
    have hq' : s.l = q.reverse ++ x :: r := by rw [hq]; simp
    have hlen : s.l.length = q.length + r.length + 1 := by rw [hq']; simp; omega
    have fZ : ∀ k σ, fz k σ fzD Z = some Z := fun k σ => fz_rb (hZ k)
    have fw : ∀ k σ, fz k σ fzD want = some want := fun k σ => fz_rb (hw k)
    have f1 : ∀ k σ, fz k σ fzD (vIs s) = some (vIs s) := fun k σ => fz_rb rb_vIs
    have i1 : eI 1 (.int .i64 q.length) (vIs s) = some (.eptr [.int .i64 x] 0) := iaddr_vSl (f := V.int .i64) (sz := 1) hq' (by simp) rfl
    have ih := d_inloop s hs want hw Z hZ r1 n z w' hw' hz ha q (x :: r) hq'
    have e1 : ((x :: q).length : Int) - 1 = q.length := by simp
    have e2 : (0 : Int) ≤ q.length := by omega
    rw [e1, List.length_cons]
    rw [u_Z5i_1]
    have ih' : l_Z5i_1 (Mi cx) 0 0 r1 0 [Z, want, vIs s, .int .i64 (if 1 = x then (q.length : Int) else ixI r (q.length + 1)), .int .i64 ((q.length : Int) - 1), Z, .int .i64 n, .int .i64 z] [] = r1 [Z, w', Z, .int .i64 n, .int .i64 (z + 1)] [] := ih
    by_cases c : x = 1
    · subst c
      rw [if_pos rfl] at ih'
      simp +contextual -implicitDefEqProofs (disch := first | assumption | omega | (simp -implicitDefEqProofs only [go_sem]; try omega)) only [↓reduceIte, go_sem, iP, iN, w64, w8, w32, b_Z5i_1, j_Z5i_0, n_vSl, e2, i1, f1, fZ, fw, ih']
    · rw [if_neg (fun h => c h.symm)] at ih'
      simp +contextual -implicitDefEqProofs (disch := first | assumption | omega | (simp -implicitDefEqProofs only [go_sem]; try omega)) only [↓reduceIte, go_sem, iP, iN, w64, w8, w32, b_Z5i_1, j_Z5i_0, n_vSl, e2, i1, f1, fZ, fw, c, ih']
def vWt : List Int → V
  | [] => .sl [] .fx
  | x :: r => .sl (ints (x :: r)) (.gr 1)
theorem n_vWt : ∀ {l : List Int}, (vWt l).ng = vIs (.row l)
  | [] => rfl
  | _ :: _ => rfl
theorem rb_vWt {n : Nat} : ∀ {l : List Int}, V.rb n (vWt l) = true
  | [] => rfl
  | x :: r => rbs_ints
theorem app_vWt {σ : Objs} {x : Int} {c : Cap} : ∀ {l : List Int}, l.length < 1000000000 → appV false false 1 8 σ (vWt l) (.sl [.int .i64 x] c) = some (vWt (l ++ [x]))
  | [], h => app_int (l := []) (.inl rfl) (by simp [rowMax])
  | y :: r, h => app_int (l := y :: r) (.inr rfl) (by simp only [rowMax]; have := h; omega)
theorem d_outloop (s : Sl (Sl Int)) (hs : s.l.length ≤ 60) : ∀ (r q : List (Sl Int)), s.l = q ++ r → (∀ x ∈ q, x.l.length ≤ 200) →
    l_Z5i_0 (Mi cx) 0 0 [vRs s, vWt (ixs q), vRs s, .int .i64 s.l.length, .int .i64 q.length] [] = some (.bool true, [])
  | [], q, hq, hx => by
    have e1 : ¬ (q.length : Int) < s.l.length := by rw [hq]; simp
    have e2 : s.l = q := by rw [hq, List.append_nil]
    have f1 : ∀ k σ, fz k σ fzD (vRs s) = some (vRs s) := fun k σ => fz_rb rb_vRs
    have f2 : ∀ k σ, fz k σ fzD (vWt (ixs q)) = some (vWt (ixs q)) := fun k σ => fz_rb rb_vWt
    have c1 := d_Classes s hs (by rw [e2]; exact hx)
    have c2 := d_Same (sl0 (ixs s.l)) (.row (ixs q)) (by rw [sl0_l, e2]; rfl) (by rw [sl0_l]; simp [ixs]; omega)
    have n1 : (vIs (sl0 (ixs s.l))).ng = vIs (sl0 (ixs s.l)) := n_vSl
    rw [u_Z5i_0]
    generalize vIs (sl0 (ixs s.l)) = A at *
    simp +contextual -implicitDefEqProofs (disch := first | assumption | omega | (simp -implicitDefEqProofs only [go_sem]; try omega)) only [↓reduceIte, go_sem, iP, iN, w64, w8, w32, b_Z5i_0, n_vSl, n_vWt, n1, e1, f1, f2, c1, c2]
  | x :: r, q, hq, hx => by
    have hlen : s.l.length = q.length + r.length + 1 := by rw [hq]; simp; omega
    have e1 : (q.length : Int) < s.l.length := by omega
    have i1 : eI 1 (.int .i64 q.length) (vRs s) = some (.eptr [vIs x] 0) := by
      have := iaddr_vSl (f := vIs) (sz := 1) (k := .i64) (i := q.length) hq rfl (by rw [cells_vSl]; rfl)
      rwa [cells_vSl] at this
    have f1 : ∀ k σ, fz k σ fzD (vRs s) = some (vRs s) := fun k σ => fz_rb rb_vRs
    have f2 : ∀ k σ, fz k σ fzD (vWt (ixs q)) = some (vWt (ixs q)) := fun k σ => fz_rb rb_vWt
    have f3 : ∀ k σ, fz k σ fzD (vIs x) = some (vIs x) := fun k σ => fz_rb rb_vIs
    rw [u_Z5i_0]
    by_cases c : 200 < (x.l.length : Int)
    · simp +contextual -implicitDefEqProofs (disch := first | assumption | omega | (simp -implicitDefEqProofs only [go_sem]; try omega)) only [↓reduceIte, go_sem, iP, iN, w64, w8, w32, b_Z5i_0, len_vSl, n_vSl, e1, i1, f1, f2, f3, c]
    · have ih := d_outloop s hs r (q ++ [x]) (by rw [hq]; simp) (fun y hy => by
        rcases List.mem_append.1 hy with h | h
        · exact hx y h
        · obtain rfl := List.mem_singleton.1 h; omega)
      rw [show ((q ++ [x]).length : Int) = q.length + 1 by simp] at ih
      have a1 : ∀ c, appV false false 1 8 [] (vWt (ixs q)) (.sl [.int .i64 (ixI x.l 0)] c) = some (vWt (ixs (q ++ [x]))) := fun c => by
        rw [app_vWt (by simp [ixs]; omega)]; simp [ixs]
      have h1 := fun r1 => d_inloop x (by omega) (vWt (ixs q)) (fun _ => rb_vWt) (vRs s) (fun _ => rb_vRs) r1 s.l.length q.length (vWt (ixs (q ++ [x]))) (fun _ => rb_vWt) (by omega) a1 x.l.reverse [] (by simp)
      rw [List.length_reverse] at h1
      have h2 : ∀ r1, l_Z5i_1 (Mi cx) 0 0 r1 0 [vRs s, vWt (ixs q), vIs x, .int .i64 (-1), .int .i64 ((x.l.length : Int) - 1), vRs s, .int .i64 s.l.length, .int .i64 q.length] [] = r1 [vRs s, vWt (ixs (q ++ [x])), vRs s, .int .i64 s.l.length, .int .i64 ((q.length : Int) + 1)] [] := h1
      simp +contextual -implicitDefEqProofs (disch := first | assumption | omega | (simp -implicitDefEqProofs only [go_sem]; try omega)) only [↓reduceIte, go_sem, iP, iN, w64, w8, w32, b_Z5i_0, len_vSl, n_vSl, e1, i1, f1, f2, f3, c, h2, ih]
theorem d_TidyClasses (s : Sl (Sl Int)) (hb : s.l.length ≤ 1000000000000000000) : E cx 3 [vRs s] [] = some (.bool true, []) := by
  have f1 : ∀ k σ, fz k σ fzD (vRs s) = some (vRs s) := fun k σ => fz_rb rb_vRs
  rw [e_Z5i]
  by_cases c : 60 < (s.l.length : Int)
  · simp +contextual -implicitDefEqProofs (disch := first | assumption | omega | (simp -implicitDefEqProofs only [go_sem]; try omega)) only [↓reduceIte, go_sem, iP, iN, w64, w8, w32, s_Z5i, d_speaks, len_vSl, n_vSl, f1, c]
  · have h : l_Z5i_0 (Mi cx) 0 0 [vRs s, .sl [] .fx, vRs s, .int .i64 s.l.length, .int .i64 0] [] = some (.bool true, []) := d_outloop s (by omega) s.l [] rfl (fun x hx => by cases hx)
    simp +contextual -implicitDefEqProofs (disch := first | assumption | omega | (simp -implicitDefEqProofs only [go_sem]; try omega)) only [↓reduceIte, go_sem, iP, iN, w64, w8, w32, s_Z5i, d_speaks, len_vSl, n_vSl, f1, c, h]
end Go.Proofs.YtenicbbhihbkcaaGreatDoor
set_option linter.unusedSimpArgs false
set_option linter.unusedVariables false
set_option maxRecDepth 100000
namespace Go.Proofs.YtenicbbhihbkcaaGreatDoor
open Go Go.Ev Go.ChangeShapes Go.WideShapes Go.RowKit
section
variable {H : Type} {enc : TypeId × Value → H} {w : World}
theorem dec_ints (n : Nat) : Dec enc Tryz.prog w (n + 1) 24 (fun s => [vIs s]) (fun s => s.l.length ≤ reachBytes ∧ ∀ x ∈ s.l, I64 x) :=
  dec_slice (sz := 1) Tryz.underlying24 (by kernel_rfl) (by decide) (of_decide_eq_true (by kernel_rfl)) (fun _ => rfl) (dec_int Tryz.underlying3)
theorem dec_rows (n : Nat) : Dec enc Tryz.prog w (n + 2) 22 (fun s => [vRs s]) (fun s => s.l.length ≤ reachBytes ∧ ∀ x ∈ s.l, x.l.length ≤ reachBytes ∧ ∀ y ∈ x.l, I64 y) :=
  dec_slice (sz := 1) Tryz.underlying22 (by kernel_rfl) (by decide) (of_decide_eq_true (by kernel_rfl)) (fun x => by rw [cells_vSl]; rfl) (fun f hf cs y h hv => by
    obtain ⟨x, hx⟩ := dec_ints n f hf cs y h hv
    exact ⟨x, by show Reps _ _ cs (vIs x).cells; rw [cells_vSl]; exact hx.1, hx.2⟩)
theorem open_rows {r : Reach} {b0 : Nat} {v : Value} {d : DataW H} {p : List MemPlace} (hv : Value.okWide Tryz.prog w r b0 22 v) (h : DataW.Trod enc Tryz.prog w 0 (fun _ => true) true 22 v d p) (hz : Hv Tryz.prog 22 d) :
    ∃ x : Sl (Sl Int), x.l.length ≤ reachBytes ∧ Rep (memOf w) noPlc v (vRs x) := by
  obtain ⟨a, len, cap, rfl⟩ := okWide_slice Tryz.underlying22 hv
  obtain ⟨fuel, hf⟩ := h
  obtain ⟨x, hx, hq⟩ := dec_rows fuel fuel (by omega) _ _ hf hz
  exact ⟨x, hq.1, hx.2 0 _ _ rfl rfl⟩
end
end Go.Proofs.YtenicbbhihbkcaaGreatDoor
set_option linter.unusedSimpArgs false
set_option linter.unusedVariables false
set_option maxRecDepth 100000
namespace Go.Proofs.YtenicbbhihbkcaaGreatDoor
open Go.RowKit Go.Ev
theorem ix_run (s : ByteArray) (c : Int) (w : World) : (callFunc 328 #[.string s, .int .u8 c]).run Tryz.prog w = .ok (.value (.int .i64 (Lib.indexByte s.data.toList c.toNat.toUInt8))) w := by
  rw [run_callFunc_extern Tryz.func328 (by kernel_rfl) (by kernel_rfl) (by rfl) (e := Extern.BytealgIndexByte.indexByte) (by rfl), Lib.run_indexByteString]
  rfl
theorem ixB_eq {c : Int} (hc : 0 ≤ c ∧ c ≤ 255) : ∀ (s : List UInt8) (i : Nat), ixB c s i = if Lib.indexByte s c.toNat.toUInt8 = -1 then -1 else (i : Int) + Lib.indexByte s c.toNat.toUInt8
  | [], i => rfl
  | b :: s, i => by
    have hb : (b == c.toNat.toUInt8) = decide ((b.toNat : Int) = c) := by
      rw [Bool.eq_iff_iff, decide_eq_true_eq, beq_iff_eq, ← UInt8.toNat_inj]
      have : c.toNat.toUInt8.toNat = c.toNat := by simp [Nat.toUInt8]; omega
      rw [this]; omega
    have hge := Lib.indexByte_ge s c.toNat.toUInt8
    unfold ixB Lib.indexByte
    rw [hb, ixB_eq hc s (i + 1)]
    by_cases h : (b.toNat : Int) = c
    · simp [h]
    · simp only [h, decide_false, if_false, Bool.false_eq_true]
      by_cases h1 : Lib.indexByte s c.toNat.toUInt8 = -1
      · simp [h1]
      · have h2 : (Lib.indexByte s c.toNat.toUInt8 == -1) = false := by simpa using h1
        rw [if_neg h1, h2]
        simp only [Bool.false_eq_true, if_false]
        rw [if_neg (by omega)]
        push_cast; omega
theorem ixP_sound (G : GV) : Sound Tryz.prog G 328 ixP := by
  intro args σ r σ' he M ι X κ w vs h hG
  unfold ixP at he
  split at he
  · rename_i s c
    split at he
    · rename_i hc
      simp only [Option.some.injEq, Prod.mk.injEq] at he
      obtain ⟨rfl, rfl⟩ := he
      obtain ⟨v0, v1, hv⟩ : ∃ v0 v1, vs.toList = [v0, v1] := by
        have hl := h.rep.1
        match hq : vs.toList, hl with
        | [a, b], _ => exact ⟨a, b, rfl⟩
      have hvs : vs = #[v0, v1] := by apply Array.ext'; simpa using hv
      have hr := h.rep
      rw [hv] at hr
      obtain ⟨s0, rfl, hs0⟩ := hr.head.inv_str
      have h1 := hr.tail.head.inv_int
      subst h1
      subst hvs
      refine .inr ⟨_, w, ix_run s0 c w, M, ι, ?_⟩
      rw [hs0]
      have e := ixB_eq hc s 0
      have e2 : ixB c s 0 = Lib.indexByte s c.toNat.toUInt8 := by rw [e]; split <;> simp_all
      rw [e2]
      obtain ⟨κ', hs⟩ := h.only (v := .int .i64 (Lib.indexByte s c.toNat.toUInt8)) (x := .int .i64 (Lib.indexByte s c.toNat.toUInt8)) (.int _ _) rfl
      exact ⟨κ', ⟨Ext.refl .., Kp.same _ _ fun o b hi => rfl⟩, hs⟩
    · cases he
  · cases he
end Go.Proofs.YtenicbbhihbkcaaGreatDoor
set_option linter.unusedSimpArgs false
set_option linter.unusedVariables false
set_option maxRecDepth 100000
set_option maxHeartbeats 4000000
namespace Go.Proofs.YtenicbbhihbkcaaGreatDoor
open Go.RowKit Go.Ev
attribute [local go_sem] Oper.semAt_some
structure SV where
  (i0 i1 : Int) (s2 s3 : ByteArray) (i4 : Int) (s5 : ByteArray) (b6 : Bool) (i7 i8 i9 : Int) (a : Option Addr) (len cap : Nat)
  h : Nat
@[reducible] def SV.of (x : SV) : Value := .slice x.a x.len x.cap
@[reducible] def SV.v (x : SV) : Value := .agg #[.int .i64 x.i0, .int .i64 x.i1, .string x.s2, .string x.s3, .int .i64 x.i4, .string x.s5, .bool x.b6, .int .i64 x.i7, .int .i64 x.i8, .int .i64 x.i9, .slice x.a x.len x.cap]
def SV.cs (x : SV) : List Value := [.int .i64 x.i0, .int .i64 x.i1, .string x.s2, .string x.s3, .int .i64 x.i4, .string x.s5, .bool x.b6, .int .i64 x.i7, .int .i64 x.i8, .int .i64 x.i9, .slice x.a x.len x.cap]
def R3 (n0 : Nat) (w : World) (v : Value) (ss : List SV) : Prop :=
  ∃ a cap, v = .slice a ss.length cap ∧ (ss.length : Int) ≤ 9223372036854775807 ∧ ∀ i (x : SV), ss[i]? = some x → ∃ (b off : Nat), a = some ⟨b, off, none⟩ ∧ b < n0 ∧ ∀ j u, x.cs[j]? = some u → w.cell? ⟨b, off + i * 11 + j, none⟩ = some u
def R2 (n0 : Nat) (w : World) (v : Value) (ps : List (List SV)) : Prop :=
  ∃ a cap, v = .slice a ps.length cap ∧ (ps.length : Int) ≤ 9223372036854775807 ∧ ∀ i ss, ps[i]? = some ss → ∃ (b off : Nat) (c : Int) (u : Value), a = some ⟨b, off, none⟩ ∧ b < n0 ∧ w.cell? ⟨b, off + i * 2, none⟩ = some (.int .i64 c) ∧ w.cell? ⟨b, off + i * 2 + 1, none⟩ = some u ∧ R3 n0 w u ss
def R1 (n0 : Nat) (w : World) (v : Value) (qs : List (List (List SV))) : Prop :=
  ∃ a cap, v = .slice a qs.length cap ∧ (qs.length : Int) ≤ 9223372036854775807 ∧ ∀ i ps, qs[i]? = some ps → ∃ (b off : Nat) (u : Value), a = some ⟨b, off, none⟩ ∧ b < n0 ∧ w.cell? ⟨b, off + i, none⟩ = some u ∧ R2 n0 w u ps
theorem R3.keep {n0 : Nat} {w w' : World} {v : Value} {ss : List SV} (h : R3 n0 w v ss) (hb : Below n0 w w') : R3 n0 w' v ss := by
  obtain ⟨a, cap, h1, h2, h3⟩ := h
  refine ⟨a, cap, h1, h2, fun i x hx => ?_⟩
  obtain ⟨b, off, g1, g4, g5⟩ := h3 i x hx
  exact ⟨b, off, g1, g4, fun j u hu => (hb.cell g4).trans (g5 j u hu)⟩
theorem R2.keep {n0 : Nat} {w w' : World} {v : Value} {ps : List (List SV)} (h : R2 n0 w v ps) (hb : Below n0 w w') : R2 n0 w' v ps := by
  obtain ⟨a, cap, h1, h2, h3⟩ := h
  refine ⟨a, cap, h1, h2, fun i x hx => ?_⟩
  obtain ⟨b, off, c, u, g1, g2, g3, g4, g6⟩ := h3 i x hx
  exact ⟨b, off, c, u, g1, g2, (hb.cell g2).trans g3, (hb.cell g2).trans g4, g6.keep hb⟩
theorem R1.keep {n0 : Nat} {w w' : World} {v : Value} {qs : List (List (List SV))} (h : R1 n0 w v qs) (hb : Below n0 w w') : R1 n0 w' v qs := by
  obtain ⟨a, cap, h1, h2, h3⟩ := h
  refine ⟨a, cap, h1, h2, fun i x hx => ?_⟩
  obtain ⟨b, off, u, g1, g2, g3, g4⟩ := h3 i x hx
  exact ⟨b, off, u, g1, g2, (hb.cell g2).trans g3, g4.keep hb⟩
theorem take_s {α : Type} {l : List α} {i : Nat} {x : α} (h : l[i]? = some x) : l.take (i + 1) = l.take i ++ [x] := by rw [List.take_add_one, h]; rfl
theorem flat_at {α : Type} {l : List (List α)} {i : Nat} {x : List α} (h : l[i]? = some x) : l.flatten = (l.take i).flatten ++ x ++ (l.drop (i + 1)).flatten := by
  have h1 : l = l.take i ++ x :: l.drop (i + 1) := by
    obtain ⟨hl, rfl⟩ := List.getElem?_eq_some_iff.1 h
    simp
  conv => lhs; rw [h1]
  rw [List.flatten_append, List.flatten_cons, List.append_assoc]
theorem pre_lt {α : Type} {qs : List (List (List α))} {ps : List (List α)} {ss : List α} {x : α} {i k m : Nat} (h1 : qs[i]? = some ps) (h2 : ps[k]? = some ss) (h3 : ss[m]? = some x) :
    ∃ r, qs.flatten.flatten = ((qs.take i).flatten.flatten ++ (ps.take k).flatten ++ ss.take m) ++ x :: r := by
  have e3 : ss = ss.take m ++ x :: ss.drop (m + 1) := by
    obtain ⟨hl, rfl⟩ := List.getElem?_eq_some_iff.1 h3
    simp
  refine ⟨ss.drop (m + 1) ++ (ps.drop (k + 1)).flatten ++ (qs.drop (i + 1)).flatten.flatten, ?_⟩
  rw [flat_at h1, List.flatten_append, List.flatten_append, flat_at h2]
  conv => lhs; rw [e3]
  simp
theorem iter_in {F : Fence} (h97 : F.fn 99) (hro : F.round = none) (n : Nat) (hn : 1 ≤ n) (l Bn n0 : Nat) (W : World) (v : Value) (qs : List (List (List SV))) (J Jx : List SV → World → Prop)
    (hab : AbidesFrom W.heap.size J) (hq : R1 n0 W v qs) (hn0 : n0 ≤ W.heap.size) (hBn : W.cell? ⟨Bn, 0, none⟩ = some v)
    (hY : ∀ pre (x : SV) W1, x ∈ qs.flatten.flatten → J pre W1 → pre.length < qs.flatten.flatten.length → YieldAt F (n - 1) Tryz.prog l #[x.v] W1 fun e W' => (e = .returned (.bool true) ∧ J (pre ++ [x]) W' ∧ Below n0 W1 W') ∨ (e = .returned (.bool false) ∧ Jx (pre ++ [x]) W'))
    (h0 : J [] W) :
    CallsIn F n Tryz.prog 99 #[.func (.yield l) #[] #[], .pointer (some ⟨Bn, 0, none⟩)] W fun e W' => (∃ v, e = .returned v) ∧ ((∃ ys, ys = qs.flatten.flatten ∧ J ys W') ∨ (∃ pre, pre <+: qs.flatten.flatten ∧ Jx pre W')) := by
  refine callsIn_of_wp Tryz.func99 rfl h97 ?_ hro
  obtain ⟨a, cap, rfl, hlen, hel⟩ := hq
  simp only [Tryz.ntmps99, List.size_toArray, List.length_cons, List.length_nil, Nat.reduceAdd, Nat.reduceSub, Array.replicate_succ, Array.replicate_zero, List.push_toArray, List.append_toArray, List.nil_append, List.cons_append]
  have keepJ : ∀ {pre A B}, J pre A → Below A.heap.size A B → J pre B := fun h hb => hab _ _ _ none h ⟨hb.os, hb.tape, hb.output, hb.size, fun k hk _ => hb.block k hk⟩ (fun r e => by cases e)
  gi_wp2
  gi_loopw [11] (fun p wr => ∃ (i : Nat), p = .int .i64 i ∧ i ≤ qs.length ∧ J (qs.take i).flatten.flatten wr ∧ Below n0 W wr)
    (fun p wr => qs.length - (match p with | .int _ i => i.toNat | _ => 0))
  case atStart =>
    exact ⟨0, rfl, by omega, h0, .refl _ _⟩
  case round =>
    obtain ⟨i, rfl, hi, hJ, hB⟩ := hrel
    by_cases hil : i < qs.length
    · obtain ⟨ps, hps⟩ : ∃ ps, qs[i]? = some ps := ⟨_, List.getElem?_eq_getElem hil⟩
      obtain ⟨b, off, u, rfl, hb, hu, hr2⟩ := hel i ps hps
      have hu' : wr.cell? ⟨b, off + i, none⟩ = some u := (hB.cell hb).trans hu
      obtain ⟨a2, cap2, rfl, hlen2, hel2⟩ := hr2
      gi_wp2
      gi_loopw [18] (fun p wr2 => ∃ (k : Nat), p = .int .i64 k ∧ k ≤ ps.length ∧ J ((qs.take i).flatten.flatten ++ (ps.take k).flatten) wr2 ∧ Below n0 W wr2)
        (fun p wr => ps.length - (match p with | .int _ i => i.toNat | _ => 0))
      case atStart =>
        refine ⟨0, rfl, by omega, ?_, ?_⟩
        · rw [List.take_zero, List.flatten_nil, List.append_nil]
          exact keepJ hJ ((Below.refl _ _).alloc (Nat.le_refl _) _)
        · have hsz := hB.size
          exact hB.trans ((Below.refl _ _).alloc (by omega) _)
      case round =>
        obtain ⟨k, rfl, hk, hJ2, hB2⟩ := hrel
        by_cases hkl : k < ps.length
        · obtain ⟨ss, hss⟩ : ∃ ss, ps[k]? = some ss := ⟨_, List.getElem?_eq_getElem hkl⟩
          obtain ⟨b2, off2, c2, u2, rfl, hb2, hc2, hu2, hr3⟩ := hel2 k ss hss
          have hc2' : wr.cell? ⟨b2, off2 + k * 2, none⟩ = some (.int .i64 c2) := (hB2.cell hb2).trans hc2
          have hu2' : wr.cell? ⟨b2, off2 + k * 2 + 1, none⟩ = some u2 := (hB2.cell hb2).trans hu2
          obtain ⟨a3, cap3, rfl, hlen3, hel3⟩ := hr3
          gi_wp2
          gi_loopw [25] (fun p wr2 => ∃ (m : Nat), p = .int .i64 m ∧ m ≤ ss.length ∧ J ((qs.take i).flatten.flatten ++ (ps.take k).flatten ++ ss.take m) wr2 ∧ Below n0 W wr2)
            (fun p wr => ss.length - (match p with | .int _ i => i.toNat | _ => 0))
          case atStart =>
            refine ⟨0, rfl, by omega, ?_, ?_⟩
            · rw [List.take_zero, List.append_nil]
              exact keepJ hJ2 ((Below.refl _ _).alloc (Nat.le_refl _) _)
            · have hsz := hB2.size
              exact hB2.trans ((Below.refl _ _).alloc (by omega) _)
          case round =>
            obtain ⟨m, rfl, hm, hJ3, hB3⟩ := hrel
            by_cases hml : m < ss.length
            · obtain ⟨x, hx⟩ : ∃ x, ss[m]? = some x := ⟨_, List.getElem?_eq_getElem hml⟩
              obtain ⟨b3, off3, rfl, hb3, hcs⟩ := hel3 m x hx
              obtain ⟨x0, x1, x2, x3, x4, x5, x6, x7, x8, x9, a10, l10, c10, xh⟩ := x
              have y0 : wr.cell? ⟨b3, off3 + m * 11, none⟩ = some (.int .i64 x0) := (hB3.cell hb3).trans (hcs 0 _ rfl)
              have y1 : wr.cell? ⟨b3, off3 + m * 11 + 1, none⟩ = some (.int .i64 x1) := (hB3.cell hb3).trans (hcs 1 _ rfl)
              have y2 : wr.cell? ⟨b3, off3 + m * 11 + 2, none⟩ = some (.string x2) := (hB3.cell hb3).trans (hcs 2 _ rfl)
              have y3 : wr.cell? ⟨b3, off3 + m * 11 + 3, none⟩ = some (.string x3) := (hB3.cell hb3).trans (hcs 3 _ rfl)
              have y4 : wr.cell? ⟨b3, off3 + m * 11 + 4, none⟩ = some (.int .i64 x4) := (hB3.cell hb3).trans (hcs 4 _ rfl)
              have y5 : wr.cell? ⟨b3, off3 + m * 11 + 5, none⟩ = some (.string x5) := (hB3.cell hb3).trans (hcs 5 _ rfl)
              have y6 : wr.cell? ⟨b3, off3 + m * 11 + 6, none⟩ = some (.bool x6) := (hB3.cell hb3).trans (hcs 6 _ rfl)
              have y7 : wr.cell? ⟨b3, off3 + m * 11 + 7, none⟩ = some (.int .i64 x7) := (hB3.cell hb3).trans (hcs 7 _ rfl)
              have y8 : wr.cell? ⟨b3, off3 + m * 11 + 8, none⟩ = some (.int .i64 x8) := (hB3.cell hb3).trans (hcs 8 _ rfl)
              have y9 : wr.cell? ⟨b3, off3 + m * 11 + 9, none⟩ = some (.int .i64 x9) := (hB3.cell hb3).trans (hcs 9 _ rfl)
              have y10 : wr.cell? ⟨b3, off3 + m * 11 + 10, none⟩ = some (.slice a10 l10 c10) := (hB3.cell hb3).trans (hcs 10 _ rfl)
              have hsz := hB3.size
              have hBn3 : Below n0 wr (wr.alloc (.cells #[.int .i64 x0, .int .i64 x1, .string x2, .string x3, .int .i64 x4, .string x5, .bool x6, .int .i64 x7, .int .i64 x8, .int .i64 x9, .slice a10 l10 c10] 137)) := (Below.refl _ _).alloc (by omega) _
              obtain ⟨rr, hrr⟩ := pre_lt hps hss hx
              have hJ4 := keepJ hJ3 ((Below.refl _ wr).alloc (Nat.le_refl _) (.cells #[.int .i64 x0, .int .i64 x1, .string x2, .string x3, .int .i64 x4, .string x5, .bool x6, .int .i64 x7, .int .i64 x8, .int .i64 x9, .slice a10 l10 c10] 137))
              obtain ⟨fn, tmps, assign, body, hy, hR⟩ := hY _ ⟨x0, x1, x2, x3, x4, x5, x6, x7, x8, x9, a10, l10, c10, xh⟩ _ (by rw [hrr]; simp) hJ4 (by rw [hrr]; simp)
              dsimp only [SV.v] at hy
              gi_wp2
              refine hR.mono ?_
              rintro e W3 (⟨rfl, hJ5, hk5⟩ | ⟨rfl, hJx5⟩)
              · gi_wp2
                go_roundw
                case rel =>
                  refine ⟨m + 1, rfl, by omega, ?_, (hB3.trans hBn3).trans hk5⟩
                  rw [take_s hx, ← List.append_assoc]
                  exact hJ5
                case measure => simp; omega
              · gi_wp2
                refine bodyPost_ret (results_none rfl _ _ _) rfl ?_
                exact ⟨⟨_, rfl⟩, .inr ⟨_, ⟨rr, by rw [hrr]; simp⟩, hJx5⟩⟩
            · have e : m = ss.length := by omega
              subst e
              gi_wp2
              go_roundw
              case rel =>
                refine ⟨k + 1, rfl, by omega, ?_, hB3⟩
                rw [take_s hss, List.flatten_append, ← List.append_assoc]
                rw [List.take_length] at hJ3
                simpa using hJ3
              case measure => simp; omega
        · have e : k = ps.length := by omega
          subst e
          gi_wp2
          go_roundw
          case rel =>
            refine ⟨i + 1, rfl, by omega, ?_, hB2⟩
            rw [take_s hps, List.flatten_append, List.flatten_append]
            rw [List.take_length] at hJ2
            simpa using hJ2
          case measure => simp; omega
    · have e : i = qs.length := by omega
      subst e
      gi_wp2
      go_end0
      rw [List.take_length] at hJ
      exact ⟨⟨_, rfl⟩, .inl ⟨_, rfl, hJ⟩⟩
end Go.Proofs.YtenicbbhihbkcaaGreatDoor
set_option linter.unusedSimpArgs false
set_option linter.unusedVariables false
set_option maxRecDepth 100000
set_option maxHeartbeats 4000000
namespace Go.Proofs.YtenicbbhihbkcaaGreatDoor
open Go.RowKit Go.Ev Go.Shelf
attribute [local go_sem] Oper.semAt_some
theorem simples_in (F : Fence) (n : Nat) (h : F.fn 72) (hro : F.round = none) (va : Option Addr) (vl vc : Nat) (w : World) :
    CallsIn F n Tryz.prog 72 #[.slice va vl vc] w fun e w' => e = .returned (.func (.func 99) #[] #[.pointer (some ⟨w.heap.size, 0, none⟩)]) ∧ w' = w.alloc (.cells #[.slice va vl vc] 28) := by
  refine callsIn_of_wp Tryz.func72 rfl h ?_ hro
  simp only [Tryz.ntmps72, List.size_toArray, List.length_cons, List.length_nil, Nat.reduceAdd, Nat.reduceSub, Array.replicate_succ, Array.replicate_zero, List.push_toArray, List.append_toArray, List.nil_append, List.cons_append]
  gi_wp2
  go_ret
  exact ⟨rfl, rfl⟩
def mxN (g : SV → Nat) (xs : List SV) : Nat := xs.foldl (fun m x => if 0 < x.len then max m (g x) else m) 0
theorem mxN_snoc (g : SV → Nat) (xs : List SV) (x : SV) : mxN g (xs ++ [x]) = if 0 < x.len then max (mxN g xs) (g x) else mxN g xs := by simp [mxN]
inductive Dp (n0 : Nat) (w : World) : Value → Nat → Prop
  | mk (v : Value) (qs : List (List (List SV))) (g : SV → Nat) (h : R1 n0 w v qs) (hg : ∀ x ∈ qs.flatten.flatten, 0 < x.len → Dp n0 w x.of (g x)) : Dp n0 w v (mxN g qs.flatten.flatten + 1)
theorem mx_le (g : SV → Nat) : ∀ (xs ys : List SV), mxN g xs ≤ mxN g (xs ++ ys)
  | xs, [] => by simp
  | xs, y :: ys => by
    rw [show xs ++ y :: ys = (xs ++ [y]) ++ ys by simp]
    refine Nat.le_trans ?_ (mx_le g _ _)
    rw [mxN_snoc]
    split
    · exact Nat.le_max_left ..
    · exact Nat.le_refl _
theorem mx_mem (g : SV → Nat) {xs : List SV} {x : SV} (hx : x ∈ xs) (hl : 0 < x.len) : g x ≤ mxN g xs := by
  obtain ⟨p, r, rfl⟩ := List.append_of_mem hx
  refine Nat.le_trans ?_ (by rw [show p ++ x :: r = (p ++ [x]) ++ r by simp]; exact mx_le g _ _)
  rw [mxN_snoc, if_pos hl]
  exact Nat.le_max_right ..
theorem below_grown {A B : World} (h : Below A.heap.size A B) : A.grownBy B none := ⟨h.os, h.tape, h.output, h.size, fun k hk _ => h.block k hk⟩
theorem deep_calls {n0 : Nat} {w : World} {v : Value} {d : Nat} (h : Dp n0 w v d) : d ≤ 1000000 → ∀ w', Below n0 w w' → n0 ≤ w'.heap.size →
    Calls Tryz.prog 44 #[v] w' fun e w'' => e = .returned (.int .i64 d) ∧ Below w'.heap.size w' w'' := by
  induction h with
  | mk v qs g hq hg ih =>
    intro hd w' hb hn
    refine (callsIn_wide (n := 10)).1 ?_
    obtain ⟨F, hFw⟩ : ∃ F, F = Fence.wide := ⟨_, rfl⟩
    have hro : F.round = none := by rw [hFw]; rfl
    have h53 : F.fn 44 := by rw [hFw]; trivial
    have h73 : F.fn 72 := by rw [hFw]; trivial
    have h97 : F.fn 99 := by rw [hFw]; trivial
    have hcw : ∀ (n f : Nat) (args : Array Value) (w : World) (R : Ending → World → Prop), Calls Tryz.prog f args w R → CallsIn F n Tryz.prog f args w R := fun n f args w R h => by rw [hFw]; exact callsIn_wide.2 h
    rw [← hFw]
    clear hFw
    refine callsIn_of_wp_marks Tryz.func44 rfl h53 ?_ hro
    have hv : ∃ a l c, v = .slice a l c := by obtain ⟨a, cap, rfl, _⟩ := hq; exact ⟨_, _, _, rfl⟩
    obtain ⟨va, vl, vc, rfl⟩ := hv
    simp only [Tryz.ntmps44, List.size_toArray, List.length_cons, List.length_nil, Nat.reduceAdd, Nat.reduceSub, Array.replicate_succ, Array.replicate_zero, List.push_toArray, List.append_toArray, List.nil_append, List.cons_append]
    gi_wp2_with (gi_at_call 72; refine (simples_in _ _ h73 hro _ _ _ _).mono ?_; rintro e w' ⟨rfl, rfl⟩)
    refine wpIn_rangeFunc_ownH hro (by omega) (gf := 99) (lb := #[.pointer (some ⟨w'.heap.size + 1, 0, none⟩)]) rfl h97 (enters_of Tryz.func99 (by kernel_rfl) rfl)
      (w0 := (w'.alloc (.cells #[.int .i64 0] 3)).alloc (.cells #[.slice va vl vc] 28)) (Kp := Below n0) (encs := fun x : {x : SV // x ∈ qs.flatten.flatten} => #[x.1.v]) (S := fun ys => ys.map Subtype.val = qs.flatten.flatten) (Sp := fun pre => pre.map Subtype.val <+: qs.flatten.flatten) (N := qs.flatten.flatten.length)
      ?seq belowK_t (belowK_b (by simp; omega)) (Below.refl _ _) (fun _ => rfl)
      (fun pre W => W.cell? ⟨w'.heap.size, 0, none⟩ = some (.int .i64 (mxN g (pre.map Subtype.val))) ∧ W.frozen? ⟨w'.heap.size, 0, none⟩ = false ∧ Below w'.heap.size w' W)
      (fun _ _ _ => False) ?hI (fun _ _ _ _ _ hs _ _ => hs) ?h0
      (fun x a' W => ∃ bb, a' = { tmps := #[.slice va vl vc, undef, .pointer (some ⟨w'.heap.size, 0, none⟩), .pointer (some ⟨bb, 0, none⟩), .slice va vl vc, .func (.func 99) #[] #[.pointer (some ⟨w'.heap.size + 1, 0, none⟩)], x.1.v, undef, undef, undef, undef, undef, undef, undef, undef, undef, undef, undef], defers := [] } ∧ W.cell? ⟨bb, 10, none⟩ = some x.1.of)
      ?hAx ?assign ?body ?done ?stop
    case seq =>
      intro l J Jx W hW hab habx hY h0
      have hq' : R1 n0 W (.slice va vl vc) qs := hq.keep (hb.trans ((((Below.refl _ w').alloc (by omega) _).alloc (by simp; omega) _).trans (hW.mono (by simp; omega))))
      have hsz := hW.size
      have hc : W.cell? ⟨w'.heap.size + 1, 0, none⟩ = some (.slice va vl vc) := by
        rw [hW.cell (p := ⟨w'.heap.size + 1, 0, none⟩) (by simp)]
        have := World.alloc_heap_new (w'.alloc (.cells #[.int .i64 0] 3)) (.cells #[.slice va vl vc] 28)
        rw [World.size_alloc] at this
        unfold World.cell?
        simp only
        rw [this]
        rfl
      refine (iter_in (F := F) h97 hro _ (by omega) l (w'.heap.size + 1) n0 W (.slice va vl vc) qs (fun pre W => ∃ pre' : List {x : SV // x ∈ qs.flatten.flatten}, pre'.map Subtype.val = pre ∧ J pre' W) (fun pre W => ∃ pre' : List {x : SV // x ∈ qs.flatten.flatten}, pre'.map Subtype.val = pre ∧ Jx pre' W) ?_ hq' (by simp at hsz; omega) hc ?_ ⟨[], rfl, h0⟩).mono ?_
      · rintro s A B row ⟨p', e, hs⟩ hg' hr
        exact ⟨p', e, hab p' A B row hs hg' hr⟩
      · rintro pre x W1 hx ⟨p', rfl, hJ⟩ hlen
        obtain ⟨fn, tmps, assign, body, hy, hR⟩ := hY p' ⟨x, hx⟩ W1 hJ (by simpa using hlen)
        refine ⟨fn, tmps, assign, body, hy, hR.mono ?_⟩
        rintro e W' (⟨he, hJ', hk⟩ | ⟨he, hJ'⟩)
        · exact .inl ⟨he, ⟨p' ++ [⟨x, hx⟩], by simp, hJ'⟩, hk⟩
        · exact .inr ⟨he, p' ++ [⟨x, hx⟩], by simp, hJ'⟩
      · rintro e W' ⟨he, ⟨ys, rfl, p', hp, hJ⟩ | ⟨pre, hpre, p', hp, hJ⟩⟩
        · exact ⟨he, .inl ⟨p', hp, hJ⟩⟩
        · exact ⟨he, .inr ⟨p', by show List.map Subtype.val p' <+: _; rw [hp]; exact hpre, hJ⟩⟩
    case hI =>
      rintro s A B row ⟨h1, h2, h3⟩ hgr hrow
      have hr2 : ∀ r, row = some r → ∃ o : Obj, A.heap[r]? = some o ∧ o.isCells = false := fun r e => (hrow r e).2
      refine ⟨cell_kept h1 hgr hr2, (frozen_kept h1 hgr hr2).trans h2, h3.grown hgr h3.size fun k e => ?_⟩
      have := (hrow k e).1
      simp at this
      omega
    case h0 =>
      have e1 := World.alloc_heap_new w' (.cells #[.int .i64 0] 3)
      have e2 : ((w'.alloc (.cells #[.int .i64 0] 3)).alloc (.cells #[.slice va vl vc] 28)).heap[w'.heap.size]? = some (.cells #[.int .i64 0] 3) := (Below.heap_alloc _ _ _ (by simp)).trans e1
      refine ⟨?_, ?_, ((Below.refl _ w').alloc (Nat.le_refl _) _).alloc (by simp) _⟩
      · unfold World.cell?
        simp only
        rw [e2]
        rfl
      · unfold World.frozen?
        simp only
        rw [e2]
        rfl
    case hAx =>
      rintro x a' _ A B row ⟨bb, rfl, h4⟩ hgr hrow
      exact ⟨bb, rfl, cell_kept h4 hgr fun r e => (hrow r e).2⟩
    case assign =>
      rintro l pre ⟨x, hx⟩ W K ⟨h1, h2, h3⟩ hK
      obtain ⟨x0, x1, x2, x3, x4, x5, x6, x7, x8, x9, a10, l10, c10, xh⟩ := x
      have hsz := h3.size
      gi_wp2
      refine hK _ _ ((KeepsOthers.alloc _ _).from _) ((Below.refl _ _).alloc (by omega) _) ⟨?_, ?_, h3.alloc hsz _⟩ ⟨W.heap.size, rfl, ?_⟩
      · exact cell_kept h1 (World.grownBy_alloc W _ none) (fun r e => by cases e)
      · exact (frozen_kept h1 (World.grownBy_alloc W _ none) (fun r e => by cases e)).trans h2
      · have e := World.alloc_heap_new W (.cells #[.int .i64 x0, .int .i64 x1, .string x2, .string x3, .int .i64 x4, .string x5, .bool x6, .int .i64 x7, .int .i64 x8, .int .i64 x9, .slice a10 l10 c10] 137)
        unfold World.cell?
        simp only
        rw [e]
        rfl
    case body =>
      rintro l pre ⟨x, hx⟩ a' W hl hr ⟨h1, h2, h3⟩ ⟨bb, rfl, h4⟩ hlen
      have hd : 1 ≤ 10 - 1 - 1 := by omega
      have hmx : Tryz.prog.follows .mixedOrders = true := by kernel_rfl
      have hsz := h3.size
      simp only at h4
      gi_wp2
      · have hxl : 0 < x.len := by assumption
        have hgx := mx_mem g hx hxl
        have IH := Lib.hid (fun W' (hB : Below n0 w W') hW => hcw 7 _ _ _ _ (ih x hx hxl (by omega) W' hB hW))
        have HB := Lib.hid (hb.trans (h3.mono hn))
        have hlt : w'.heap.size < W.heap.size := by
          rcases Nat.lt_or_ge w'.heap.size W.heap.size with h | h
          · exact h
          · simp [World.cell?, Array.getElem?_eq_none h] at h1
        have H1 := Lib.hid h1
        have H2 := Lib.hid h2
        have H3 := Lib.hid (⟨hsz, hn, hlt⟩ : _ ∧ _ ∧ _)
        have eN : mxN g ((pre ++ [(⟨x, hx⟩ : {x : SV // x ∈ qs.flatten.flatten})]).unattach) = max (mxN g pre.unattach) (g x) := by
          show mxN g ((pre ++ [(⟨x, hx⟩ : {x : SV // x ∈ qs.flatten.flatten})]).map Subtype.val) = _
          rw [List.map_append, List.map_cons, List.map_nil, mxN_snoc, if_pos hxl]
          rfl
        have HE := Lib.hid (⟨fun h => by rw [eN]; omega, fun h => by rw [eN]; omega⟩ : (mxN g pre.unattach < g x → g x = mxN g ((pre ++ [(⟨x, hx⟩ : {x : SV // x ∈ qs.flatten.flatten})]).unattach)) ∧ (¬ mxN g pre.unattach < g x → mxN g pre.unattach = mxN g ((pre ++ [(⟨x, hx⟩ : {x : SV // x ∈ qs.flatten.flatten})]).unattach)))
        clear ih hq hg eN
        gi_region_with_o (gi_at_call 44; go_loud (refine (CallsIn.inRound l (IH.out _ (by exact HB.out.drew) (by show n0 ≤ W.heap.size; have := H3.out; omega))).mono ?_; rintro e w2 ⟨rfl, hb2⟩; have c1 : w2.cell? ⟨w'.heap.size, 0, none⟩ = some (.int .i64 (mxN g (pre.map Subtype.val))) := (hb2.cell (p := ⟨w'.heap.size, 0, none⟩) H3.out.2.2).trans H1.out; have c2 : w2.frozen? ⟨w'.heap.size, 0, none⟩ = false := (hb2.frozen (p := ⟨w'.heap.size, 0, none⟩) H3.out.2.2).trans H2.out))
        all_goals gi_wp2
        all_goals exact ⟨(⟨hb2.size, fun k o _ hk _ => (hb2.block k (Array.getElem?_eq_some_iff.1 hk).1).trans hk⟩ : KeepsFrom _ W w2).trans ((KeepsOthers.setCell _ _ _).from _), (((Below.refl n0 W).drew).trans (hb2.mono (by show n0 ≤ W.heap.size; omega))).setCell (by show n0 ≤ w'.heap.size; omega) _, (World.cell?_setCell_same' _ _ _ (by rw [c1]; rfl)).trans (by first | rw [HE.out.1 (by assumption)]; done | rw [HE.out.2 (by assumption)]; done | (rw [← HE.out.1 (by assumption)]; done) | (rw [← HE.out.2 (by assumption)]; done)), by rw [World.frozen?_setCell]; exact c2, ((h3.drew).trans (hb2.mono (by show w'.heap.size ≤ W.heap.size; omega))).setCell (Nat.le_refl _) _⟩
      · have e : mxN g ((pre ++ [(⟨x, hx⟩ : {x : SV // x ∈ qs.flatten.flatten})]).map Subtype.val) = mxN g (pre.map Subtype.val) := by
          rw [List.map_append, List.map_cons, List.map_nil, mxN_snoc, if_neg (by assumption)]
        exact ⟨KeepsFrom.refl _ _, Below.refl _ _, by rw [e]; exact h1, h2, h3⟩
    case done =>
      rintro D ys W hD hys ⟨h1, h2, h3⟩ hK
      rw [show ys.map Subtype.val = _ from hys] at h1
      have hlt : w'.heap.size < W.heap.size := by
        rcases Nat.lt_or_ge w'.heap.size W.heap.size with h | h
        · exact h
        · simp [World.cell?, Array.getElem?_eq_none h] at h1
      have hD' : w'.heap.size + 2 ≤ D := by simpa using hD
      have hw64 : wrap64 ((mxN g qs.flatten.flatten : Nat) + 1) = ((mxN g qs.flatten.flatten + 1 : Nat) : Int) := by simp only [wrap64]; omega
      clear ih hg hq hcw hys
      gi_wp2
      have hK' := (KeepsOthers.setCell W ⟨w'.heap.size, 0, none⟩ (.int .i64 (((mxN g qs.flatten.flatten : Nat) : Int) + 1))).same D _ hK rfl
      refine ⟨by simp, .inl ⟨_, _, rfl, run_takeDeferred hK', ?_⟩⟩
      have hc5 := cell_kept (World.cell?_setCell_same' W ⟨w'.heap.size, 0, none⟩ (.int .i64 (((mxN g qs.flatten.flatten : Nat) : Int) + 1)) (by rw [h1]; rfl)) (grownBy_putObj' _ D (.deferred none)) (fun r e => by cases e; exact ⟨_, hK', rfl⟩)
      refine ⟨.int .i64 (((mxN g qs.flatten.flatten : Nat) : Int) + 1), ?_, ?_, ?_⟩
      · simp [results, Tryz.f44, go_sem, hc5]
      · rw [show ((mxN g qs.flatten.flatten + 1 : Nat) : Int) = ((mxN g qs.flatten.flatten : Nat) : Int) + 1 by omega]
      · exact (h3.setCell (p := ⟨w'.heap.size, 0, none⟩) (Nat.le_refl _) _).grown (grownBy_putObj' _ D (.deferred none)) (by simp [World.setCell]; omega) (fun k e => by cases e; omega)
    case stop =>
      rintro D c pre W _ _ h _
      exact h.elim
end Go.Proofs.YtenicbbhihbkcaaGreatDoor
