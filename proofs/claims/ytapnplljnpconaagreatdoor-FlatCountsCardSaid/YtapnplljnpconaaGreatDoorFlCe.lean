/- Part of a proof: the small language, and functions of the program on it. -/
import Derived.Test.YtapnplljnpconaaGreatDoorFlCd
set_option linter.unusedSimpArgs false
set_option linter.unusedVariables false
set_option linter.unusedSectionVars false
namespace Go.Ev
section
variable {α : Type} {f : α → V} {s : Sl α} {sz : Nat}
theorem Qd8 {k : IntKind} {i : Int} {x : α} (h : s.l[i.toNat]? = some x) (hi : 0 ≤ i) (hf : (f x).cells.length = sz) : eI sz (.int k i) (vSl f s) = some (.eptr (f x).cells 0) := by
 obtain ⟨hl, e⟩ := List.getElem?_eq_some_iff.1 h
 have h2 : s.l = s.l.take i.toNat ++ x :: s.l.drop (i.toNat + 1) := by rw [← e]; simp
 refine Qav h2 ?_ hf
 rw [List.length_take]; omega
end
abbrev Qcb : Sl (List UInt8) → V := vSl V.str
theorem Qg6 {n : Nat} {s : Sl (List UInt8)} : V.rb n (Qcb s) = true := Qoh fun _ _ => rfl
attribute [go_sem] Qg6
end Go.Ev
namespace Go.Proofs.YtapnplljnpconaaGreatDoor
open Go.Ev
set_option maxRecDepth 100000
set_option maxHeartbeats 4000000
def errN (k : Int) : V := .ifc 98 (.eptr [.int .i64 k, .int .i64 0, .nili] 0)
theorem Qxb (k a : Int) (σ : Objs) (hσ : Wf σ) : E cx 52 [.int .i64 k, .int .i64 a] σ = some (.ifc 98 (.eptr [.int .i64 k, .int .i64 a, .nili] 0), σ) := by
 rw [e_Zw]
 simp +contextual -implicitDefEqProofs (disch := first | assumption | omega | (simp -implicitDefEqProofs only [go_sem]; try omega)) only [↓reduceIte, go_sem, iP, iN, w64, w8, w32, s_Zw]
theorem Qgd (s : List UInt8) (hs : s.length ≤ 1000000000) (σ : Objs) (hσ : Wf σ) : E cx 50 [.str s] σ = some (.bool (Qd1 s), σ) := by
 have h := fun σ hσ => Qtt s hs σ hσ
 rw [e_Z1g]
 simp +contextual -implicitDefEqProofs (disch := first | assumption | omega | (simp -implicitDefEqProofs only [go_sem]; try omega)) only [↓reduceIte, go_sem, iP, iN, w64, w8, w32, s_Z1g, h]
def Qhy (s : List UInt8) : Bool := decide (¬ s = []) && Qd1 s
theorem Qoq (s : List UInt8) (hs : s.length ≤ 1000000000) (σ : Objs) (hσ : Wf σ) : E cx 51 [.str s] σ = some (.bool (Qhy s), σ) := by
 have h := fun σ hσ => Qgd s hs σ hσ
 rw [e_Z1b]
 unfold Qhy
 by_cases c : s = []
 ·simp +contextual -implicitDefEqProofs (disch := first | assumption | omega | (simp -implicitDefEqProofs only [go_sem]; try omega)) only [↓reduceIte, go_sem, iP, iN, w64, w8, w32, s_Z1b, h, c]
 ·simp +contextual -implicitDefEqProofs (disch := first | assumption | omega | (simp -implicitDefEqProofs only [go_sem]; try omega)) only [↓reduceIte, go_sem, iP, iN, w64, w8, w32, s_Z1b, h, c]
theorem Qge (s : List UInt8) (hs : s.length ≤ 1000000000) (σ : Objs) (hσ : Wf σ) : E cx 37 [.str s] σ = some (.bool (Qd1 s), σ) := by
 have h := fun σ hσ => Whv s hs σ hσ
 rw [e_Z33]
 simp +contextual -implicitDefEqProofs (disch := first | assumption | omega | (simp -implicitDefEqProofs only [go_sem]; try omega)) only [↓reduceIte, go_sem, iP, iN, w64, w8, w32, s_Z33, h]
theorem Qor (s : List UInt8) (hs : s.length ≤ 1000000000) (σ : Objs) (hσ : Wf σ) : E cx 38 [.str s] σ = some (.bool (Qhy s), σ) := by
 have h := fun σ hσ => Qge s hs σ hσ
 rw [e_Z31]
 unfold Qhy
 cases s with
 | nil => simp +contextual -implicitDefEqProofs (disch := first | assumption | omega | (simp -implicitDefEqProofs only [go_sem]; try omega)) only [↓reduceIte, go_sem, iP, iN, w64, w8, w32, s_Z31, h]
 | cons x s =>
  have c : (0 : Int) < ((x :: s).length : Nat) := by rw [List.length_cons]; omega
  simp +contextual -implicitDefEqProofs (disch := first | assumption | omega | (simp -implicitDefEqProofs only [go_sem]; try omega)) only [↓reduceIte, go_sem, iP, iN, w64, w8, w32, s_Z31, h, c]
def idxF (l : List (List UInt8)) (t : List UInt8) : Nat → Nat → Int
 | 0, i => -1
 | f + 1, i => if i < l.length then (if t = l.getD i [] then (i : Int) else idxF l t f (i + 1)) else -1
def idxS (l : List (List UInt8)) (t : List UInt8) : Int := idxF l t (l.length + 1) 0
def hasS (l : List (List UInt8)) (t : List UInt8) : Bool := l.any fun x => decide (t = x)
theorem Qin {α : Type} {l : List α} {i : Nat} (h : i < l.length) (d : α) : l[i]? = some (l.getD i d) := by
 rw [List.getElem?_eq_getElem h, List.getD_eq_getElem?_getD, List.getElem?_eq_getElem h]; rfl
theorem Qos (s : Sl (List UInt8)) (t : List UInt8) (hs : s.l.length ≤ 1000000000) : ∀ (f i : Nat), s.l.length < f + i → i ≤ s.l.length →
  l_Z1j_0 (Mi cx) 0 0 [Qcb s, .str t, .int .i64 s.l.length, .int .i64 i] [] = some (.int .i64 (idxF s.l t f i), [])
 | 0, i, hf, hi => by omega
 | f + 1, i, hf, hi => by
  rw [u_Z1j_0]
  unfold idxF
  by_cases c1 : (i : Int) < s.l.length
  ·have hx := Qd8 (f := V.str) (s := s) (k := .i64) (i := (i : Int)) (Qin (by omega) []) (by omega) (sz := 1) rfl
   rw [Int.toNat_natCast] at hx
   have c1' : i < s.l.length := by omega
   by_cases c2 : t = s.l.getD i []
   ·simp +contextual -implicitDefEqProofs (disch := first | assumption | omega | (simp -implicitDefEqProofs only [go_sem]; try omega)) only [↓reduceIte, go_sem, iP, iN, w64, w8, w32, b_Z1j_0, c1, c1', c2, hx]
   ·have ih := Qos s t hs f (i + 1) (by omega) (by omega)
    rw [Int.natCast_succ] at ih
    simp +contextual -implicitDefEqProofs (disch := first | assumption | omega | (simp -implicitDefEqProofs only [go_sem]; try omega)) only [↓reduceIte, go_sem, iP, iN, w64, w8, w32, b_Z1j_0, c1, c1', c2, hx, ih]
  ·have c1' : ¬ i < s.l.length := by omega
   simp +contextual -implicitDefEqProofs (disch := first | assumption | omega | (simp -implicitDefEqProofs only [go_sem]; try omega)) only [↓reduceIte, go_sem, iP, iN, w64, w8, w32, b_Z1j_0, c1, c1']
theorem Qxc (s : Sl (List UInt8)) (t : List UInt8) (hs : s.l.length ≤ 1000000000) (σ : Objs) (hσ : Wf σ) : E cx 67 [Qcb s, .str t] σ = some (.int .i64 (idxS s.l t), σ) := by
 refine Qbv Qbm ?_ (by rw [Qaf, Qg6]; rfl) rfl σ hσ
 have h : l_Z1j_0 (Mi cx) 0 0 [Qcb s, .str t, .int .i64 s.l.length, .int .i64 0] [] = some (.int .i64 (idxS s.l t), []) := Qos s t hs (s.l.length + 1) 0 (by omega) (by omega)
 rw [e_Z1j]
 simp +contextual -implicitDefEqProofs (disch := first | assumption | omega | (simp -implicitDefEqProofs only [go_sem]; try omega)) only [↓reduceIte, go_sem, iP, iN, w64, w8, w32, s_Z1j, h]
theorem Qsc (l : List (List UInt8)) (t : List UInt8) : ∀ (f i : Nat), l.length < f + i → i ≤ l.length → (decide (0 ≤ idxF l t f i) = hasS (l.drop i) t)
 | 0, i, hf, hi => by omega
 | f + 1, i, hf, hi => by
  unfold idxF
  split
  ·rename_i c1
   have e : l.drop i = l.getD i [] :: l.drop (i + 1) := by
    rw [List.drop_eq_getElem_cons c1, List.getD_eq_getElem?_getD, List.getElem?_eq_getElem c1]; rfl
   rw [e]
   show _ = (decide (t = l.getD i []) || hasS (l.drop (i + 1)) t)
   split
   ·rename_i c2
    rw [← c2]
    simp
   ·rename_i c2
    rw [Qsc l t f (i + 1) (by omega) (by omega), decide_eq_false c2, Bool.false_or]
  ·have e : l.drop i = [] := List.drop_eq_nil_of_le (by omega)
   rw [e]; rfl
theorem Wes (l : List (List UInt8)) (t : List UInt8) : decide (0 ≤ idxS l t) = hasS l t := Qsc l t _ 0 (by omega) (by omega)
theorem Qgf (s : Sl (List UInt8)) (t : List UInt8) (hs : s.l.length ≤ 1000000000) (σ : Objs) (hσ : Wf σ) : E cx 46 [Qcb s, .str t] σ = some (.bool (hasS s.l t), σ) := by
 have h := fun σ hσ => Qxc s t hs σ hσ
 rw [e_Z1h, ← Wes]
 simp +contextual -implicitDefEqProofs (disch := first | assumption | omega | (simp -implicitDefEqProofs only [go_sem]; try omega)) only [↓reduceIte, go_sem, iP, iN, w64, w8, w32, s_Z1h, h]
def okAt (n : Nms) (i : Nat) : Bool := Qhy (n.pres.l.getD i []) && !hasS (n.pres.l.take i) (n.pres.l.getD i []) && Qd1 (n.spaces.l.getD i [])
def okF (n : Nms) : Nat → Nat → Bool
 | 0, i => true
 | f + 1, i => if i < n.pres.l.length then okAt n i && okF n f (i + 1) else true
def okN0 (n : Nms) : Bool := decide (n.pres.l.length = n.spaces.l.length) && Qd1 n.dflt
def okN (n : Nms) : Bool := okN0 n && okF n (n.pres.l.length + 1) 0
def NmB (n : Nms) : Prop := n.dflt.length ≤ 100 ∧ n.pres.l.length ≤ 30 ∧ n.spaces.l.length ≤ 30 ∧ (∀ x ∈ n.pres.l, x.length ≤ 100) ∧ ∀ x ∈ n.spaces.l, x.length ≤ 100
theorem Qm2 {l : List (List UInt8)} (h : ∀ x ∈ l, x.length ≤ 100) (i : Nat) : (l.getD i []).length ≤ 1000000000 := by
 rw [List.getD_eq_getElem?_getD]
 cases hx : l[i]? with
 | none => simp
 | some x =>
  have := h x (List.mem_of_getElem? hx)
  simp only [Option.getD_some]; omega
def Qaa (n : Nms) : List V := [.bool n.has, .str n.dflt, Qcb n.pres, Qcb n.spaces]
theorem Qai {n : Nms} {k : Nat} : V.rbs k (Qaa n) = true := by simp only [Qaa, Qaf, Qj7, Qj8, Qg6, Qb4, Bool.and_true]
section
variable {n : Nms} (hn : NmB n)
include hn
theorem Qjj : ∀ (f i : Nat) (ok : Bool), n.pres.l.length < f + i → i ≤ n.pres.l.length → (ok = true → n.pres.l.length = n.spaces.l.length) →
  l_Z14_0 (Mi cx) 0 1 [.ptr 0 0, .bool ok, Qcb n.pres, .int .i64 n.pres.l.length, .int .i64 i] [.cells (Qaa n)] = some (if (ok && okF n f i) = true then .nili else errN 11, [])
 | 0, i, ok, hf, hi, hl => by omega
 | f + 1, i, ok, hf, hi, hl => by
  obtain ⟨b1, b2, b3, b4, b5⟩ := hn
  rw [u_Z14_0]
  unfold okF
  by_cases c1 : (i : Int) < n.pres.l.length
  ·have c1' : i < n.pres.l.length := by omega
   have hx := Qd8 (f := V.str) (s := n.pres) (k := .i64) (i := (i : Int)) (Qin (by omega) []) (by omega) (sz := 1) rfl
   rw [Int.toNat_natCast] at hx
   rw [if_pos c1']
   have h1 := fun σ hσ => Qoq (n.pres.l.getD i []) (Qm2 b4 i) σ hσ
   have h2 := fun σ hσ => Qgf (n.pres.take i) (n.pres.l.getD i []) (by rw [Sl.take_l, List.length_take]; omega) σ hσ
   rw [Sl.take_l] at h2
   have h3 := fun σ hσ => Qgd (n.spaces.l.getD i []) (Qm2 b5 i) σ hσ
   have hc := Qll (f := V.str) (s := n.pres) (sz := 1) (fun _ => rfl) (k := .i64) (b := (i : Int)) (by omega)
   rw [Int.toNat_natCast] at hc
   cases ok with
   | false =>
    have ih := Qjj f (i + 1) false (by omega) (by omega) (by simp)
    rw [Int.natCast_succ] at ih
    unfold Qaa at ih
    simp +contextual -implicitDefEqProofs (disch := first | assumption | omega | (simp -implicitDefEqProofs only [go_sem]; try omega)) only [↓reduceIte, go_sem, iP, iN, w64, w8, w32, b_Z14_0, Qaa, c1, hx, ih]
   | true =>
    have hlen := hl rfl
    have hy := Qd8 (f := V.str) (s := n.spaces) (k := .i64) (i := (i : Int)) (Qin (by omega) []) (by omega) (sz := 1) rfl
    rw [Int.toNat_natCast] at hy
    have iht := Qjj f (i + 1) true (by omega) (by omega) (fun _ => hlen)
    rw [Int.natCast_succ] at iht
    unfold Qaa at iht
    have ihf := Qjj f (i + 1) false (by omega) (by omega) (by simp)
    rw [Int.natCast_succ] at ihf
    unfold Qaa at ihf
    unfold okAt
    cases g1 : Qhy (n.pres.l.getD i []) with
    | false => simp +contextual -implicitDefEqProofs (disch := first | assumption | omega | (simp -implicitDefEqProofs only [go_sem]; try omega)) only [↓reduceIte, go_sem, iP, iN, w64, w8, w32, b_Z14_0, Qaa, c1, hx, h1, g1, ihf]
    | true =>
     cases g2 : hasS (n.pres.l.take i) (n.pres.l.getD i []) with
     | true => simp +contextual -implicitDefEqProofs (disch := first | assumption | omega | (simp -implicitDefEqProofs only [go_sem]; try omega)) only [↓reduceIte, go_sem, iP, iN, w64, w8, w32, b_Z14_0, Qaa, c1, hx, h1, h2, hc, g1, g2, ihf]
     | false =>
      cases g3 : Qd1 (n.spaces.l.getD i []) with
      | false => simp +contextual -implicitDefEqProofs (disch := first | assumption | omega | (simp -implicitDefEqProofs only [go_sem]; try omega)) only [↓reduceIte, go_sem, iP, iN, w64, w8, w32, b_Z14_0, Qaa, c1, hx, hy, h1, h2, h3, hc, g1, g2, g3, ihf]
      | true => simp +contextual -implicitDefEqProofs (disch := first | assumption | omega | (simp -implicitDefEqProofs only [go_sem]; try omega)) only [↓reduceIte, go_sem, iP, iN, w64, w8, w32, b_Z14_0, Qaa, c1, hx, hy, h1, h2, h3, hc, g1, g2, g3, iht]
  ·have c1' : ¬ i < n.pres.l.length := by omega
   rw [if_neg c1']
   have h4 := fun σ hσ => Qxb 11 0 σ hσ
   cases ok with
   | false => simp +contextual -implicitDefEqProofs (disch := first | assumption | omega | (simp -implicitDefEqProofs only [go_sem]; try omega)) only [↓reduceIte, go_sem, iP, iN, w64, w8, w32, b_Z14_0, Qaa, c1, h4, errN]
   | true => simp +contextual -implicitDefEqProofs (disch := first | assumption | omega | (simp -implicitDefEqProofs only [go_sem]; try omega)) only [↓reduceIte, go_sem, iP, iN, w64, w8, w32, b_Z14_0, Qaa, c1, h4, errN]
theorem Qi3 (σ : Objs) (hσ : Wf σ) : E cx 29 [vNms n] σ = some (if okN n = true then .nili else errN 11, σ) := by
 refine Qbv Qbm ?_ (by rw [Qaf, Qa3, show V.rbs 0 [.bool n.has, .str n.dflt, vSl V.str n.pres, vSl V.str n.spaces] = true from Qai]; rfl) (by split <;> rfl) σ hσ
 have h1 := fun σ hσ => Qgd n.dflt (by have := hn.1; omega) σ hσ
 have key := fun ok h => Qjj hn (n.pres.l.length + 1) 0 ok (by omega) (by omega) h
 rw [e_Z14]
 unfold okN okN0
 by_cases c : (n.pres.l.length : Int) = n.spaces.l.length
 ·have c' : n.pres.l.length = n.spaces.l.length := by omega
  have k1 := key (Qd1 n.dflt) (fun _ => c')
  unfold Qaa at k1
  rw [c, show ((0 : Nat) : Int) = 0 from rfl] at k1
  have e : (decide (n.pres.l.length = n.spaces.l.length) && Qd1 n.dflt) = Qd1 n.dflt := by rw [decide_eq_true c', Bool.true_and]
  rw [e]
  simp +contextual -implicitDefEqProofs (disch := first | assumption | omega | (simp -implicitDefEqProofs only [go_sem]; try omega)) only [↓reduceIte, go_sem, iP, iN, w64, w8, w32, s_Z14, h1, c, k1]
 ·have c' : ¬ n.pres.l.length = n.spaces.l.length := by omega
  have k1 := key false (by simp)
  unfold Qaa at k1
  rw [show ((0 : Nat) : Int) = 0 from rfl] at k1
  have e : (decide (n.pres.l.length = n.spaces.l.length) && Qd1 n.dflt) = false := by rw [decide_eq_false c', Bool.false_and]
  rw [e]
  simp +contextual -implicitDefEqProofs (disch := first | assumption | omega | (simp -implicitDefEqProofs only [go_sem]; try omega)) only [↓reduceIte, go_sem, iP, iN, w64, w8, w32, s_Z14, h1, c, k1]
end
end Go.Proofs.YtapnplljnpconaaGreatDoor
namespace Go.Ev
section
variable {a b c d : List V} {τ : Objs} {r : V}
theorem Qfq : Wf [.cells a, .cells b] = (V.rbs 2 a = true ∧ V.rbs 2 b = true) := by simp [Wf, O.rb]
theorem Qjk : Wf [.cells a, .cells b, .cells c] = (V.rbs 3 a = true ∧ V.rbs 3 b = true ∧ V.rbs 3 c = true) := by simp [Wf, O.rb]
theorem Wet : Wf [.cells a, .cells b, .cells c, .cells d] = (V.rbs 4 a = true ∧ V.rbs 4 b = true ∧ V.rbs 4 c = true ∧ V.rbs 4 d = true) := by simp [Wf, O.rb]
theorem Qqg (h1 : V.rbs 2 a = true) (h2 : V.rbs 2 b = true) : cuO 2 [.cells a, .cells b] = some [.cells a, .cells b] := Qiz (σ := [.cells a, .cells b]) (by rw [Qfq]; exact ⟨h1, h2⟩)
theorem Qhz (h1 : V.rbs 2 a = true) (h2 : V.rbs 2 b = true) : cuO 2 (.cells a :: .cells b :: τ) = some [.cells a, .cells b] := Qfl (σ := [.cells a, .cells b]) (τ := τ) (by rw [Qfq]; exact ⟨h1, h2⟩)
theorem Qxd (h1 : V.rbs 3 a = true) (h2 : V.rbs 3 b = true) (h3 : V.rbs 3 c = true) : cuO 3 (.cells a :: .cells b :: .cells c :: τ) = some [.cells a, .cells b, .cells c] := Qfl (σ := [.cells a, .cells b, .cells c]) (τ := τ) (by rw [Qjk]; exact ⟨h1, h2, h3⟩)
theorem Qfr (h1 : V.rbs 2 a = true) (h2 : V.rbs 2 b = true) (hr : r.rb 2 = true) : nK 2 (.cells a :: .cells b :: τ) r = some (r, [.cells a, .cells b]) := Qpu (σ := [.cells a, .cells b]) (τ := τ) (by rw [Qfq]; exact ⟨h1, h2⟩) hr
theorem get2 {O1 O2 : O} {cs : List V} {τ : Objs} : Objs.get (O1 :: O2 :: .cells cs :: τ) 2 = some cs := rfl
theorem Wag {M : Mach} {σ : Objs} {g : FuncId} {x : V} : Qhl M σ (.fn g [] []) [x] = M.call g [x.ng] σ := rfl
end
attribute [go_sem] Qfq Qjk Wet Qqg Qhz Qxd Qfr get2 Wag
end Go.Ev
namespace Go.Proofs.YtapnplljnpconaaGreatDoor
open Go.Ev
set_option maxRecDepth 100000
set_option maxHeartbeats 4000000
section
variable {α : Type} {v : α → V} (hv : ∀ n x, V.rb n (v x) = true)
def smC (v : α → V) (s : Sm α) : List V := [.int .i64 s.kind, .int .i64 s.ns, .str s.pre, .str s.name, .int .i64 s.op, .str s.text, .bool s.fold, .int .i64 s.mark, .int .i64 s.a, .int .i64 s.b, vSl v s.of]
include hv
theorem Qba {s : Sm α} {n : Nat} : V.rbs n (smC v s) = true := by
 simp only [smC, Qaf, Qdl, Qj8, Qj7, Qb4, Qam hv, Bool.and_true]
def Qcn (s : Sm α) : Bool := decide (s.ns = 0) && decide (s.pre = []) && decide (s.name = []) && (decide (s.op = 0) && decide (s.text = []) && decide (s.fold = false)) && decide (s.mark = 0) && (decide (s.a = 0) && decide (s.b = 0)) && decide ((s.of.l.length : Int) = 0)
omit hv in
theorem Qfs {op : Int} {t : List UInt8} {f : Bool} : eB .eql (.agg [.i, .s, .b]) (.agg [.int .i64 op, .str t, .bool f]) (.agg [.int .i64 0, .str [], .bool false]) = some (.bool (decide (op = 0) && decide (t = []) && decide (f = false))) := by
 by_cases h1 : op = 0 <;> by_cases h2 : t = [] <;> cases f <;> simp [eB, eqV, Qa8, Qdp, h1, h2]
omit hv in
theorem Qot {a b : Int} : eB .eql (.agg [.i, .i]) (.agg [.int .i64 a, .int .i64 b]) (.agg [.int .i64 0, .int .i64 0]) = some (.bool (decide (a = 0) && decide (b = 0))) := by
 by_cases h1 : a = 0 <;> by_cases h2 : b = 0 <;> simp [eB, eqV, Qa8, Qdp, h1, h2]
omit hv in
theorem Qft {s : Sm α} : Qal (smC v s) = true := by simp only [smC, Qcg, Qdk, Qde, Qhn, Qhm, Qc4, Bool.and_true]
omit hv in
theorem Qcy {s : Sm α} : (smC v s).map V.ng = smC v s := by simp only [smC, List.map_cons, List.map_nil, Qs4, Qyy, Qre, Qah]
omit hv in
omit hv in
theorem Qep : ∀ (z xs : List V), z.length = xs.length → Qcd z 0 xs = xs
 | [], [], _ => rfl
 | [], _ :: _, h => by simp at h
 | _ :: _, [], h => by simp at h
 | c :: cs, x :: xs, h => by
  show x :: Qcd cs 0 xs = _
  rw [Qep cs xs (by simpa using h)]
omit hv in
theorem Qi4 {σ : Objs} {o n : Nat} {z ds : List V} (h : Objs.get σ o = some z) (hz : z.length = n) (hd : ds.length = n) (hok : Qal ds = true) (hn : ds.map V.ng = ds) : stV σ n (.ptr o 0) (.agg ds) (.agg ds) = some (.undef, σ.set o (.cells ds)) := by
 unfold stV
 simp only [h, Option.bind_eq_bind, Option.bind_some, Qb5, hd, hz, Nat.zero_add, Nat.le_refl, hok, and_self, if_true, hn]
 rw [Qep z ds (by rw [hz, hd])]
omit hv in
theorem Qbx {σ : Objs} {o n : Nat} {ds : List V} (h : Objs.get σ o = some ds) (hd : ds.length = n) (hn : ds.map V.ng = ds) : eL σ true n (.ptr o 0) = some (.agg ds) := by
 show (Objs.get σ o).bind _ = _
 rw [h, Option.bind_some]
 unfold Ev.part
 rw [if_pos rfl, if_pos (by omega), List.drop_zero, List.take_of_length_le (by omega), hn]
omit hv in
theorem Qa0 {σ : Objs} {ds : List V} (hok : Qal ds = true) (hn : ds.map V.ng = ds) : boxV σ (.agg ds) = some (.ptr σ.length 0, σ ++ [.cells ds]) := by
 rw [Wa8, Qb5, if_pos hok, hn]
theorem Qkj (s r : Sm α) (g : FuncId) (hg : E cx g [.ptr 1 0] [.cells (smC v s), .cells (smC v s)] = some (.tup [], [.cells (smC v s), .cells (smC v r)])) (σ : Objs) (hσ : Wf σ) :
  E cx 133 [.agg (smC v s), .fn g [] []] σ = some (.bool (Qcn r), σ) := by
 refine Qbv Qbm ?_ (by simp only [Qaf, Qa3, Qba hv]; rfl) rfl σ hσ
 have h2' : stV [.cells (smC v s), .cells [.int .i64 0, .int .i64 0, .str [], .str [], .int .i64 0, .str [], .bool false, .int .i64 0, .int .i64 0, .int .i64 0, .nils]] 11 (.ptr 1 0) (.agg (smC v s)) (.agg (smC v s)) = some (.undef, [.cells (smC v s), .cells (smC v s)]) := Qi4 rfl rfl rfl Qft Qcy
 have h3 : eL [.cells (smC v s)] true 11 (.ptr 0 0) = some (.agg (smC v s)) := Qbx rfl rfl Qcy
 have h4 : boxV [] (.agg (smC v s)) = some (.ptr 0 0, [.cells (smC v s)]) := Qa0 Qft Qcy
 rw [e_Z1e]
 unfold Qcn
 unfold smC at h2' h3 h4 hg ⊢
 by_cases c1 : r.ns = 0
 case neg => simp +contextual -implicitDefEqProofs (disch := first | assumption | omega | (simp -implicitDefEqProofs only [go_sem]; try omega)) only [↓reduceIte, go_sem, iP, iN, w64, w8, w32, s_Z1e, h2', h3, h4, hg, c1, Qfs, Qot]
 by_cases c2 : r.pre = []
 case neg => simp +contextual -implicitDefEqProofs (disch := first | assumption | omega | (simp -implicitDefEqProofs only [go_sem]; try omega)) only [↓reduceIte, go_sem, iP, iN, w64, w8, w32, s_Z1e, h2', h3, h4, hg, c1, c2, Qfs, Qot]
 by_cases c3 : r.name = []
 case neg => simp +contextual -implicitDefEqProofs (disch := first | assumption | omega | (simp -implicitDefEqProofs only [go_sem]; try omega)) only [↓reduceIte, go_sem, iP, iN, w64, w8, w32, s_Z1e, h2', h3, h4, hg, c1, c2, c3, Qfs, Qot]
 by_cases c4 : (decide (r.op = 0) && decide (r.text = []) && decide (r.fold = false)) = true
 case neg => simp +contextual -implicitDefEqProofs (disch := first | assumption | omega | (simp -implicitDefEqProofs only [go_sem]; try omega)) only [↓reduceIte, go_sem, iP, iN, w64, w8, w32, s_Z1e, h2', h3, h4, hg, c1, c2, c3, c4, Qfs, Qot]
 by_cases c5 : r.mark = 0
 case neg => simp +contextual -implicitDefEqProofs (disch := first | assumption | omega | (simp -implicitDefEqProofs only [go_sem]; try omega)) only [↓reduceIte, go_sem, iP, iN, w64, w8, w32, s_Z1e, h2', h3, h4, hg, c1, c2, c3, c4, c5, Qfs, Qot]
 by_cases c6 : (decide (r.a = 0) && decide (r.b = 0)) = true
 case neg => simp +contextual -implicitDefEqProofs (disch := first | assumption | omega | (simp -implicitDefEqProofs only [go_sem]; try omega)) only [↓reduceIte, go_sem, iP, iN, w64, w8, w32, s_Z1e, h2', h3, h4, hg, c1, c2, c3, c4, c5, c6, Qfs, Qot]
 by_cases c7 : (r.of.l.length : Int) = 0
 case neg => simp +contextual -implicitDefEqProofs (disch := first | assumption | omega | (simp -implicitDefEqProofs only [go_sem]; try omega)) only [↓reduceIte, go_sem, iP, iN, w64, w8, w32, s_Z1e, h2', h3, h4, hg, c1, c2, c3, c4, c5, c6, c7, Qfs, Qot]
 simp +contextual -implicitDefEqProofs (disch := first | assumption | omega | (simp -implicitDefEqProofs only [go_sem]; try omega)) only [↓reduceIte, go_sem, iP, iN, w64, w8, w32, s_Z1e, h2', h3, h4, hg, c1, c2, c3, c4, c5, c6, c7, Qfs, Qot]
@[reducible] def Qdx (s : Sm α) : Sm α := { s with ns := 0, pre := [] }
@[reducible] def Qeq (s : Sm α) : Sm α := { s with name := [] }
@[reducible] def Qgq (s : Sm α) : Sm α := { s with of := .nil }
@[reducible] def rOne (s : Sm α) : Sm α := { s with ns := 0, pre := [], name := [] }
@[reducible] def rTwo (s : Sm α) : Sm α := { s with ns := 0, pre := [], name := [], op := 0, text := [], fold := false, mark := 0 }
@[reducible] def Qm3 (s : Sm α) : Sm α := { s with of := .nil, a := 0, b := 0 }
theorem Qm4 (A : List V) (hA : V.rbs 2 A = true) (s : Sm α) : E cx 135 [.ptr 1 0] [.cells A, .cells (smC v s)] = some (.tup [], [.cells A, .cells (smC v (Qdx s))]) := by
 have t1 : stV [.cells A, .cells (smC v s)] 1 (.ptr 1 1) (.int .i64 0) (.int .i64 0) = some (.undef, [.cells A, .cells (smC v { s with ns := 0 })]) := rfl
 have t2 : stV [.cells A, .cells (smC v { s with ns := 0 })] 1 (.ptr 1 2) (.str []) (.str []) = some (.undef, [.cells A, .cells (smC v (Qdx s))]) := rfl
 have t3 := Qfr (τ := []) (r := .tup []) hA (Qba hv (s := Qdx s) (n := 2)) rfl
 rw [e_Z1f]
 simp +contextual -implicitDefEqProofs (disch := first | assumption | omega | (simp -implicitDefEqProofs only [go_sem]; try omega)) only [↓reduceIte, go_sem, iP, iN, w64, w8, w32, s_Z1f, t1, t2, t3]
theorem Qqh (A : List V) (hA : V.rbs 2 A = true) (s : Sm α) : E cx 136 [.ptr 1 0] [.cells A, .cells (smC v s)] = some (.tup [], [.cells A, .cells (smC v (Qeq s))]) := by
 have t1 : stV [.cells A, .cells (smC v s)] 1 (.ptr 1 3) (.str []) (.str []) = some (.undef, [.cells A, .cells (smC v (Qeq s))]) := rfl
 have t3 := Qfr (τ := []) (r := .tup []) hA (Qba hv (s := Qeq s) (n := 2)) rfl
 rw [e_Z1c]
 simp +contextual -implicitDefEqProofs (disch := first | assumption | omega | (simp -implicitDefEqProofs only [go_sem]; try omega)) only [↓reduceIte, go_sem, iP, iN, w64, w8, w32, s_Z1c, t1, t3]
theorem Qxe (A : List V) (hA : V.rbs 2 A = true) (s : Sm α) : E cx 144 [.ptr 1 0] [.cells A, .cells (smC v s)] = some (.tup [], [.cells A, .cells (smC v (Qgq s))]) := by
 have t1 : stV [.cells A, .cells (smC v s)] 1 (.ptr 1 10) .nils .nils = some (.undef, [.cells A, .cells (smC v (Qgq s))]) := rfl
 have t3 := Qfr (τ := []) (r := .tup []) hA (Qba hv (s := Qgq s) (n := 2)) rfl
 rw [e_Z1a]
 simp +contextual -implicitDefEqProofs (disch := first | assumption | omega | (simp -implicitDefEqProofs only [go_sem]; try omega)) only [↓reduceIte, go_sem, iP, iN, w64, w8, w32, s_Z1a, t1, t3]
theorem d_s1 (A : List V) (hA : V.rbs 2 A = true) (s : Sm α) : E cx 134 [.ptr 1 0] [.cells A, .cells (smC v s)] = some (.tup [], [.cells A, .cells (smC v (rOne s))]) := by
 have t1 := Qm4 hv A hA s
 have t2 := Qqh hv A hA (Qdx s)
 have t3 := Qfr (τ := []) (r := .tup []) hA (Qba hv (s := rOne s) (n := 2)) rfl
 rw [e_Zq_1]
 simp +contextual -implicitDefEqProofs (disch := first | assumption | omega | (simp -implicitDefEqProofs only [go_sem]; try omega)) only [↓reduceIte, go_sem, iP, iN, w64, w8, w32, s_Zq_1, t1, t2, t3]
theorem d_s2 (A : List V) (hA : V.rbs 2 A = true) (s : Sm α) : E cx 140 [.ptr 1 0] [.cells A, .cells (smC v s)] = some (.tup [], [.cells A, .cells (smC v (rTwo s))]) := by
 have t1 := Qm4 hv A hA s
 have t2 := Qqh hv A hA (Qdx s)
 have t4 : stV [.cells A, .cells (smC v (rOne s))] 3 (.ptr 1 4) (.agg [.int .i64 0, .str [], .bool false]) (.agg [.int .i64 0, .str [], .bool false]) = some (.undef, [.cells A, .cells (smC v { rOne s with op := 0, text := [], fold := false })]) := rfl
 have t5 : stV [.cells A, .cells (smC v { rOne s with op := 0, text := [], fold := false })] 1 (.ptr 1 7) (.int .i64 0) (.int .i64 0) = some (.undef, [.cells A, .cells (smC v (rTwo s))]) := rfl
 have t3 := Qfr (τ := []) (r := .tup []) hA (Qba hv (s := rTwo s) (n := 2)) rfl
 rw [e_Zq_2]
 simp +contextual -implicitDefEqProofs (disch := first | assumption | omega | (simp -implicitDefEqProofs only [go_sem]; try omega)) only [↓reduceIte, go_sem, iP, iN, w64, w8, w32, s_Zq_2, t1, t2, t4, t5, t3]
theorem d_s3 (A : List V) (hA : V.rbs 2 A = true) (s : Sm α) : E cx 141 [.ptr 1 0] [.cells A, .cells (smC v s)] = some (.tup [], [.cells A, .cells (smC v s)]) := by
 have t3 := Qfr (τ := []) (r := .tup []) hA (Qba hv (s := s) (n := 2)) rfl
 rw [e_Zq_3]
 simp +contextual -implicitDefEqProofs (disch := first | assumption | omega | (simp -implicitDefEqProofs only [go_sem]; try omega)) only [↓reduceIte, go_sem, iP, iN, w64, w8, w32, s_Zq_3, t3]
theorem d_s4 (A : List V) (hA : V.rbs 2 A = true) (s : Sm α) : E cx 143 [.ptr 1 0] [.cells A, .cells (smC v s)] = some (.tup [], [.cells A, .cells (smC v (Qm3 s))]) := by
 have t1 := Qxe hv A hA s
 have t4 : stV [.cells A, .cells (smC v (Qgq s))] 2 (.ptr 1 8) (.agg [.int .i64 0, .int .i64 0]) (.agg [.int .i64 0, .int .i64 0]) = some (.undef, [.cells A, .cells (smC v (Qm3 s))]) := rfl
 have t3 := Qfr (τ := []) (r := .tup []) hA (Qba hv (s := Qm3 s) (n := 2)) rfl
 rw [e_Zq_4]
 simp +contextual -implicitDefEqProofs (disch := first | assumption | omega | (simp -implicitDefEqProofs only [go_sem]; try omega)) only [↓reduceIte, go_sem, iP, iN, w64, w8, w32, s_Zq_4, t1, t4, t3]
end
end Go.Proofs.YtapnplljnpconaaGreatDoor
namespace Go.Proofs.YtapnplljnpconaaGreatDoor
open Go.Ev
set_option maxRecDepth 100000
set_option maxHeartbeats 4000000
theorem Qsd {n : Nat} {xs : List (List UInt8)} (h : xs.length = n) : Qe0 n 1 false (.eptr (xs.map V.str) 0) none none = some (.sl (xs.map V.str) .no) := by
 have hc : ∀ (k off : Nat), off + k ≤ xs.length → chunks false 1 (xs.map V.str) k off = some (((xs.drop off).take k).map V.str) := by
  intro k
  induction k with
  | zero => intro off _; simp [chunks]
  | succ k ih =>
   intro off ho
   have ho' : off < xs.length := by omega
   have e : Ev.part false 1 (xs.map V.str) off = some (V.str xs[off]) := by
    unfold Ev.part
    rw [if_neg (by decide), if_pos rfl, List.getElem?_map, List.getElem?_eq_getElem ho']
    rfl
   unfold chunks
   rw [e, ih (off + 1) (by omega)]
   rw [List.drop_eq_getElem_cons ho']
   rfl
 have hk : Qal (xs.map V.str) = true := by unfold Qal; rw [List.all_map]; exact List.all_eq_true.2 fun x _ => rfl
 have hb : bounds n none none none = some (0, n, none) := by simp [bounds]
 unfold Qe0
 simp only [hb, Option.bind_eq_bind, Option.bind_some, Nat.sub_zero, Nat.zero_mul, Nat.zero_add]
 rw [hc n 0 (by omega)]
 simp only [Option.bind_some, hk, if_true, List.drop_zero]
 rw [← h, List.take_length]
theorem Wah : (Mi cx).G.g 3 = .eptr (Qb7.map V.str) 0 := rfl
theorem Qtv : (Mi cx).G.g 4 = .eptr (Qbg.map V.str) 0 := rfl
def Qgr (t : List UInt8) : Bool := hasS Qb7 t
def Qm5 (t : List UInt8) : Bool := hasS Qbg t
theorem Weu (t : List UInt8) (σ : Objs) (hσ : Wf σ) : E cx 137 [.str t] σ = some (.bool (Qgr t), σ) := by
 have h1 : Qe0 10 1 false (.eptr (Qb7.map V.str) 0) none none = some (Qcb (.row Qb7)) := Qsd rfl
 have h2 := fun σ hσ => Qgf (.row Qb7) t (by decide) σ hσ
 have h3 : (V.eptr (Qb7.map V.str) 0).ng = .eptr (Qb7.map V.str) 0 := rfl
 rw [e_Z18]
 unfold Qgr
 generalize hL : (Sl.row Qb7) = L at h1 h2
 have h2' : ∀ σ, Wf σ → E cx 46 [Qcb L, .str t] σ = some (.bool (hasS Qb7 t), σ) := by rw [← hL] at h2 ⊢; exact h2
 simp +contextual -implicitDefEqProofs (disch := first | assumption | omega | (simp -implicitDefEqProofs only [go_sem]; try omega)) only [↓reduceIte, go_sem, iP, iN, w64, w8, w32, s_Z18, Wah, h1, h2', h3]
theorem Qxf (t : List UInt8) (σ : Objs) (hσ : Wf σ) : E cx 138 [.str t] σ = some (.bool (Qm5 t), σ) := by
 have h1 : Qe0 8 1 false (.eptr (Qbg.map V.str) 0) none none = some (Qcb (.row Qbg)) := Qsd rfl
 have h2 := fun σ hσ => Qgf (.row Qbg) t (by decide) σ hσ
 have h3 : (V.eptr (Qbg.map V.str) 0).ng = .eptr (Qbg.map V.str) 0 := rfl
 rw [e_Z15]
 unfold Qm5
 generalize hL : (Sl.row Qbg) = L at h1 h2
 have h2' : ∀ σ, Wf σ → E cx 46 [Qcb L, .str t] σ = some (.bool (hasS Qbg t), σ) := by rw [← hL] at h2 ⊢; exact h2
 simp +contextual -implicitDefEqProofs (disch := first | assumption | omega | (simp -implicitDefEqProofs only [go_sem]; try omega)) only [↓reduceIte, go_sem, iP, iN, w64, w8, w32, s_Z15, Qtv, h1, h2', h3]
section
variable {α : Type} {v : α → V} (hv : ∀ n x, V.rb n (v x) = true) {n : Nms} (hn : NmB n)
def SmB (s : Sm α) : Prop := s.pre.length ≤ 100 ∧ s.name.length ≤ 100 ∧ s.text.length ≤ 100
theorem ok_n {n : Nms} : Qal (Qaa n) = true := by simp only [Qaa, Qcg, Qdk, Qhn, Qhm, Qc4, Bool.and_true]
theorem no_n {n : Nms} : (Qaa n).map V.ng = Qaa n := by simp only [Qaa, List.map_cons, List.map_nil, Qyy, Qre, Qah]
def Qfu (n : Nms) (s : Sm α) : Bool := if s.ns = 3 then hasS n.pres.l s.pre else decide (0 ≤ s.ns) && decide (s.ns < 3) && decide (s.pre = [])
include hn hv
theorem Wev (s : Sm α) (σ : Objs) (hσ : Wf σ) : E cx 132 [.agg (Qaa n), .agg (smC v s)] σ = some (.bool (Qfu n s), σ) := by
 refine Qbv Qbm ?_ (by simp only [Qaf, Qa3, Qba hv, Qai]; rfl) rfl σ hσ
 have h1 : boxV [] (.agg (Qaa n)) = some (.ptr 0 0, [.cells (Qaa n)]) := Qa0 ok_n no_n
 have h2 : boxV [.cells (Qaa n)] (.agg (smC v s)) = some (.ptr 1 0, [.cells (Qaa n), .cells (smC v s)]) := Qa0 Qft Qcy
 have hw : Wf [.cells (Qaa n), .cells (smC v s)] := by rw [Qfq]; exact ⟨Qai, Qba hv⟩
 have h3 := fun σ hσ => Qgf n.pres s.pre (by have := hn.2.1; omega) σ hσ
 rw [e_Zv]
 unfold Qfu
 unfold smC Qaa at h1 h2 hw ⊢
 obtain ⟨kind, ns, pre, name, op, text, fold, mark, a, b, of⟩ := s
 simp only at h1 h2 h3 hw ⊢
 by_cases c1 : ns = 3
 case pos =>
  subst c1
  simp +contextual -implicitDefEqProofs (disch := first | assumption | omega | (simp -implicitDefEqProofs only [go_sem]; try omega)) only [↓reduceIte, go_sem, iP, iN, w64, w8, w32, s_Zv, h1, h2, h3]
 by_cases c2 : 0 ≤ ns
 case neg => simp +contextual -implicitDefEqProofs (disch := first | assumption | omega | (simp -implicitDefEqProofs only [go_sem]; try omega)) only [↓reduceIte, go_sem, iP, iN, w64, w8, w32, s_Zv, h1, h2, c1, c2]
 by_cases c3 : ns < 3
 case neg => simp +contextual -implicitDefEqProofs (disch := first | assumption | omega | (simp -implicitDefEqProofs only [go_sem]; try omega)) only [↓reduceIte, go_sem, iP, iN, w64, w8, w32, s_Zv, h1, h2, c1, c2, c3]
 simp +contextual -implicitDefEqProofs (disch := first | assumption | omega | (simp -implicitDefEqProofs only [go_sem]; try omega)) only [↓reduceIte, go_sem, iP, iN, w64, w8, w32, s_Zv, h1, h2, c1, c2, c3]
omit hn in
def Qm6 (s : Sm α) : Bool :=
 if s.op < 1 ∨ 7 < s.op ∨ Qd1 s.text = false ∨ s.mark < 0 ∨ 2 < s.mark then false
 else if s.op = 1 ∧ (¬ s.text = [] ∨ ¬ s.mark = 0) then false
 else decide (s.fold = decide (s.mark = 1))
omit hn in
theorem Wh5 (s : Sm α) (hs : SmB s) (σ : Objs) (hσ : Wf σ) : E cx 139 [.agg (smC v s)] σ = some (.bool (Qm6 s), σ) := by
 refine Qbv Qbm ?_ (by simp only [Qaf, Qa3, Qba hv]; rfl) rfl σ hσ
 have h1 : boxV [] (.agg (smC v s)) = some (.ptr 0 0, [.cells (smC v s)]) := Qa0 Qft Qcy
 have h2 : eL [.cells (smC v s)] true 3 (.ptr 0 4) = some (.agg [.int .i64 s.op, .str s.text, .bool s.fold]) := rfl
 have h3 : stV [.cells (smC v s), .cells [.int .i64 0, .str [], .bool false]] 3 (.ptr 1 0) (.agg [.int .i64 s.op, .str s.text, .bool s.fold]) (.agg [.int .i64 s.op, .str s.text, .bool s.fold]) = some (.undef, [.cells (smC v s), .cells [.int .i64 s.op, .str s.text, .bool s.fold]]) := rfl
 have hw : Wf [.cells (smC v s), .cells [.int .i64 s.op, .str s.text, .bool s.fold]] := by rw [Qfq]; exact ⟨Qba hv, rfl⟩
 have h4 := fun σ hσ => Qgd s.text (by have := hs.2.2; omega) σ hσ
 obtain ⟨kind, ns, pre, name, op, text, fold, mark, a, b, of⟩ := s
 rw [e_Z19]
 unfold Qm6
 simp only [smC] at h1 h2 h3 h4 hw ⊢
 by_cases c1 : op < 1
 case pos => simp +contextual -implicitDefEqProofs (disch := first | assumption | omega | (simp -implicitDefEqProofs only [go_sem]; try omega)) only [↓reduceIte, go_sem, iP, iN, w64, w8, w32, s_Z19, h1, h2, h3, c1, true_or]
 by_cases c2 : 7 < op
 case pos => simp +contextual -implicitDefEqProofs (disch := first | assumption | omega | (simp -implicitDefEqProofs only [go_sem]; try omega)) only [↓reduceIte, go_sem, iP, iN, w64, w8, w32, s_Z19, h1, h2, h3, c1, c2, true_or, or_true]
 cases c3 : Qd1 text with
 | false => simp +contextual -implicitDefEqProofs (disch := first | assumption | omega | (simp -implicitDefEqProofs only [go_sem]; try omega)) only [↓reduceIte, go_sem, iP, iN, w64, w8, w32, s_Z19, h1, h2, h3, h4, c1, c2, c3, true_or, or_true]
 | true =>
  by_cases c4 : mark < 0
  case pos => simp +contextual -implicitDefEqProofs (disch := first | assumption | omega | (simp -implicitDefEqProofs only [go_sem]; try omega)) only [↓reduceIte, go_sem, iP, iN, w64, w8, w32, s_Z19, h1, h2, h3, h4, c1, c2, c3, c4, true_or, or_true]
  by_cases c5 : 2 < mark
  case pos => simp +contextual -implicitDefEqProofs (disch := first | assumption | omega | (simp -implicitDefEqProofs only [go_sem]; try omega)) only [↓reduceIte, go_sem, iP, iN, w64, w8, w32, s_Z19, h1, h2, h3, h4, c1, c2, c3, c4, c5, true_or, or_true]
  by_cases c6 : op = 1
  case neg => simp +contextual -implicitDefEqProofs (disch := first | assumption | omega | (simp -implicitDefEqProofs only [go_sem]; try omega)) only [↓reduceIte, go_sem, iP, iN, w64, w8, w32, s_Z19, h1, h2, h3, h4, c1, c2, c3, c4, c5, c6]
  subst c6
  by_cases c7 : text = []
  case neg => simp +contextual -implicitDefEqProofs (disch := first | assumption | omega | (simp -implicitDefEqProofs only [go_sem]; try omega)) only [↓reduceIte, go_sem, iP, iN, w64, w8, w32, s_Z19, h1, h2, h3, h4, c1, c2, c3, c4, c5, c7]
  subst c7
  by_cases c8 : mark = 0
  case neg => simp +contextual -implicitDefEqProofs (disch := first | assumption | omega | (simp -implicitDefEqProofs only [go_sem]; try omega)) only [↓reduceIte, go_sem, iP, iN, w64, w8, w32, s_Z19, h1, h2, h3, h4, c1, c2, c3, c4, c5, c8]
  subst c8
  simp +contextual -implicitDefEqProofs (disch := first | assumption | omega | (simp -implicitDefEqProofs only [go_sem]; try omega)) only [↓reduceIte, go_sem, iP, iN, w64, w8, w32, s_Z19, h1, h2, h3, h4, c1, c2, c3, c4, c5]
omit hn hv in
def nthS (a b : Int) : Bool := decide (a ≤ 1000000) && decide (b ≤ 1000000) && (decide (-1000000 ≤ a) && decide (-1000000 ≤ b))
omit hn hv in
theorem Wkt (a b : Int) (σ : Objs) (hσ : Wf σ) : E cx 142 [.agg [.int .i64 a, .int .i64 b]] σ = some (.bool (nthS a b), σ) := by
 refine Qbv Qbm ?_ rfl rfl σ hσ
 have h1 : mmV true [.int .i64 a, .int .i64 b] = some (.int .i64 (if b > a then b else a)) := rfl
 have h2 : mmV false [.int .i64 a, .int .i64 b] = some (.int .i64 (if b < a then b else a)) := rfl
 rw [e_Z1d]
 unfold nthS
 have k1 : decide ((if b > a then b else a) ≤ 1000000) = (decide (a ≤ 1000000) && decide (b ≤ 1000000)) := by
  split <;> (by_cases q1 : a ≤ 1000000 <;> by_cases q2 : b ≤ 1000000 <;> simp [q1, q2] <;> omega)
 have k2 : decide (-1000000 ≤ (if b < a then b else a)) = (decide (-1000000 ≤ a) && decide (-1000000 ≤ b)) := by
  split <;> (by_cases q1 : -1000000 ≤ a <;> by_cases q2 : -1000000 ≤ b <;> simp [q1, q2] <;> omega)
 rw [← k1, ← k2]
 generalize (if b > a then b else a) = x at h1
 generalize (if b < a then b else a) = y at h2
 by_cases c1 : x ≤ 1000000
 case neg => simp +contextual -implicitDefEqProofs (disch := first | assumption | omega | (simp -implicitDefEqProofs only [go_sem]; try omega)) only [↓reduceIte, go_sem, iP, iN, w64, w8, w32, s_Z1d, h1, h2, c1]
 simp +contextual -implicitDefEqProofs (disch := first | assumption | omega | (simp -implicitDefEqProofs only [go_sem]; try omega)) only [↓reduceIte, go_sem, iP, iN, w64, w8, w32, s_Z1d, h1, h2, c1]
end
end Go.Proofs.YtapnplljnpconaaGreatDoor
namespace Go.Proofs.YtapnplljnpconaaGreatDoor
open Go.Ev
set_option maxRecDepth 100000
set_option maxHeartbeats 4000000
section
variable {α : Type} {v : α → V} (hv : ∀ n x, V.rb n (v x) = true) {n : Nms} (hn : NmB n)
def Qdy (n : Nms) (okl : Bool) (s : Sm α) : Bool :=
 if s.kind = 1 then Qfu n s && Qhy s.name && Qcn (rOne s)
 else if s.kind = 2 then Qfu n s && Qcn (Qdx s)
 else if s.kind = 3 ∨ s.kind = 4 then Qhy s.name && Qcn (Qeq s)
 else if s.kind = 11 then Qgr s.name && Qcn (Qeq s)
 else if s.kind = 13 then Qm5 s.name && Qcn (Qeq s)
 else if s.kind = 5 then Qfu n s && Qhy s.name && Qm6 s && Qcn (rTwo s)
 else if s.kind = 6 ∨ s.kind = 12 then Qcn s
 else if s.kind = 7 then nthS s.a s.b && (decide ((s.of.l.length : Int) = 0) || okl) && Qcn (Qm3 s)
 else if s.kind = 8 ∨ s.kind = 9 ∨ s.kind = 10 then okl && Qcn (Qgq s)
 else false
include hv hn
theorem Wai (s : Sm α) (hs : SmB s) (okl : Bool) (hL : ∀ σ, Wf σ → E cx 54 [.agg (Qaa n), vSl v s.of, .bool false] σ = some (.bool okl, σ)) (σ : Objs) (hσ : Wf σ) :
  E cx 98 [.agg (Qaa n), .agg (smC v s)] σ = some (.bool (Qdy n okl s), σ) := by
 refine Qbv Qbm ?_ (by simp only [Qaf, Qa3, Qba hv, Qai]; rfl) rfl σ hσ
 have h1 : boxV [] (.agg (Qaa n)) = some (.ptr 0 0, [.cells (Qaa n)]) := Qa0 ok_n no_n
 have h2 : boxV [.cells (Qaa n)] (.agg (smC v s)) = some (.ptr 1 0, [.cells (Qaa n), .cells (smC v s)]) := Qa0 Qft Qcy
 have h3 : eL [.cells (Qaa n), .cells (smC v s)] true 4 (.ptr 0 0) = some (.agg (Qaa n)) := Qbx rfl rfl no_n
 have h4 : eL [.cells (Qaa n), .cells (smC v s)] true 11 (.ptr 1 0) = some (.agg (smC v s)) := Qbx rfl rfl Qcy
 have h5 : eL [.cells (Qaa n), .cells (smC v s)] true 2 (.ptr 1 8) = some (.agg [.int .i64 s.a, .int .i64 s.b]) := rfl
 have hw : Wf [.cells (Qaa n), .cells (smC v s)] := by rw [Qfq]; exact ⟨Qai, Qba hv⟩
 have hA : V.rbs 2 (smC v s) = true := Qba hv
 have k1 := Wev hv hn s _ hw
 have k2 := Qoq s.name (by have := hs.2.1; omega) _ hw
 have k3 := Weu s.name _ hw
 have k4 := Qxf s.name _ hw
 have k5 := Wh5 hv s hs _ hw
 have k6 := Wkt s.a s.b _ hw
 have k7 := hL _ hw
 have o1 := Qkj hv s (rOne s) _ (d_s1 hv _ hA s) _ hw
 have o2 := Qkj hv s (Qdx s) _ (Qm4 hv _ hA s) _ hw
 have o3 := Qkj hv s (Qeq s) _ (Qqh hv _ hA s) _ hw
 have o4 := Qkj hv s (rTwo s) _ (d_s2 hv _ hA s) _ hw
 have o5 := Qkj hv s s _ (d_s3 hv _ hA s) _ hw
 have o6 := Qkj hv s (Qm3 s) _ (d_s4 hv _ hA s) _ hw
 have o7 := Qkj hv s (Qgq s) _ (Qxe hv _ hA s) _ hw
 clear hL hA
 obtain ⟨kind, ns, pre, name, op, text, fold, mark, a, b, of⟩ := s
 simp only at k1 k2 k3 k4 k5 k6 k7 h5
 rw [e_Zq]
 unfold Qdy
 generalize Qfu n _ = q1 at k1 ⊢
 generalize Qhy _ = q2 at k2 ⊢
 generalize Qgr _ = q3 at k3 ⊢
 generalize Qm5 _ = q4 at k4 ⊢
 generalize Qm6 _ = q5 at k5 ⊢
 generalize nthS _ _ = q6 at k6 ⊢
 generalize Qcn (rOne _) = p1 at o1 ⊢
 generalize Qcn (Qdx _) = p2 at o2 ⊢
 generalize Qcn (Qeq _) = p3 at o3 ⊢
 generalize Qcn (rTwo _) = p4 at o4 ⊢
 generalize Qcn (Qm3 _) = p6 at o6 ⊢
 generalize Qcn (Qgq _) = p7 at o7 ⊢
 generalize Qcn _ = p5 at o5 ⊢
 unfold smC at h1 h2 h3 h4 h5 hw k1 k2 k3 k4 k5 k6 k7 o1 o2 o3 o4 o5 o6 o7 ⊢
 simp only at h1 h2 h3 h4 h5 hw k1 k2 k3 k4 k5 k6 k7 o1 o2 o3 o4 o5 o6 o7 ⊢
 by_cases c1 : kind = 1
 case pos => subst c1; cases q1 <;> cases q2 <;> simp +contextual -implicitDefEqProofs (disch := first | assumption | omega | (simp -implicitDefEqProofs only [go_sem]; try omega)) only [↓reduceIte, go_sem, iP, iN, w64, w8, w32, s_Zq, h1, h2, h3, h4, k1, k2, o1]
 by_cases c2 : kind = 2
 case pos => subst c2; cases q1 <;> simp +contextual -implicitDefEqProofs (disch := first | assumption | omega | (simp -implicitDefEqProofs only [go_sem]; try omega)) only [↓reduceIte, go_sem, iP, iN, w64, w8, w32, s_Zq, h1, h2, h3, h4, k1, o2]
 by_cases c3 : kind = 3
 case pos => subst c3; cases q2 <;> simp +contextual -implicitDefEqProofs (disch := first | assumption | omega | (simp -implicitDefEqProofs only [go_sem]; try omega)) only [↓reduceIte, go_sem, iP, iN, w64, w8, w32, s_Zq, j_Zq_0, h1, h2, h3, h4, k2, o3]
 by_cases c4 : kind = 4
 case pos => subst c4; cases q2 <;> simp +contextual -implicitDefEqProofs (disch := first | assumption | omega | (simp -implicitDefEqProofs only [go_sem]; try omega)) only [↓reduceIte, go_sem, iP, iN, w64, w8, w32, s_Zq, j_Zq_0, h1, h2, h3, h4, k2, o3]
 by_cases c5 : kind = 11
 case pos => subst c5; cases q3 <;> simp +contextual -implicitDefEqProofs (disch := first | assumption | omega | (simp -implicitDefEqProofs only [go_sem]; try omega)) only [↓reduceIte, go_sem, iP, iN, w64, w8, w32, s_Zq, j_Zq_0, h1, h2, h3, h4, k3, o3]
 by_cases c6 : kind = 13
 case pos => subst c6; cases q4 <;> simp +contextual -implicitDefEqProofs (disch := first | assumption | omega | (simp -implicitDefEqProofs only [go_sem]; try omega)) only [↓reduceIte, go_sem, iP, iN, w64, w8, w32, s_Zq, j_Zq_0, h1, h2, h3, h4, k4, o3]
 by_cases c7 : kind = 5
 case pos => subst c7; cases q1 <;> cases q2 <;> cases q5 <;> simp +contextual -implicitDefEqProofs (disch := first | assumption | omega | (simp -implicitDefEqProofs only [go_sem]; try omega)) only [↓reduceIte, go_sem, iP, iN, w64, w8, w32, s_Zq, j_Zq_0, h1, h2, h3, h4, k1, k2, k5, o4]
 by_cases c8 : kind = 6
 case pos => subst c8; simp +contextual -implicitDefEqProofs (disch := first | assumption | omega | (simp -implicitDefEqProofs only [go_sem]; try omega)) only [↓reduceIte, go_sem, iP, iN, w64, w8, w32, s_Zq, j_Zq_0, j_Zq_1, h1, h2, h3, h4, o5]
 by_cases c9 : kind = 12
 case pos => subst c9; simp +contextual -implicitDefEqProofs (disch := first | assumption | omega | (simp -implicitDefEqProofs only [go_sem]; try omega)) only [↓reduceIte, go_sem, iP, iN, w64, w8, w32, s_Zq, j_Zq_0, j_Zq_1, h1, h2, h3, h4, o5]
 by_cases c10 : kind = 7
 case pos =>
  subst c10
  cases q6 with
  | false => simp +contextual -implicitDefEqProofs (disch := first | assumption | omega | (simp -implicitDefEqProofs only [go_sem]; try omega)) only [↓reduceIte, go_sem, iP, iN, w64, w8, w32, s_Zq, j_Zq_0, j_Zq_1, h1, h2, h3, h4, h5, k6]
  | true =>
   by_cases c11 : (of.l.length : Int) = 0
   ·simp +contextual -implicitDefEqProofs (disch := first | assumption | omega | (simp -implicitDefEqProofs only [go_sem]; try omega)) only [↓reduceIte, go_sem, iP, iN, w64, w8, w32, s_Zq, j_Zq_0, j_Zq_1, h1, h2, h3, h4, h5, k6, c11, o6]
   ·cases okl <;> simp +contextual -implicitDefEqProofs (disch := first | assumption | omega | (simp -implicitDefEqProofs only [go_sem]; try omega)) only [↓reduceIte, go_sem, iP, iN, w64, w8, w32, s_Zq, j_Zq_0, j_Zq_1, h1, h2, h3, h4, h5, k6, k7, c11, o6]
 by_cases c12 : kind = 8
 case pos => subst c12; cases okl <;> simp +contextual -implicitDefEqProofs (disch := first | assumption | omega | (simp -implicitDefEqProofs only [go_sem]; try omega)) only [↓reduceIte, go_sem, iP, iN, w64, w8, w32, s_Zq, j_Zq_0, j_Zq_1, j_Zq_2, h1, h2, h3, h4, k7, o7]
 by_cases c13 : kind = 9
 case pos => subst c13; cases okl <;> simp +contextual -implicitDefEqProofs (disch := first | assumption | omega | (simp -implicitDefEqProofs only [go_sem]; try omega)) only [↓reduceIte, go_sem, iP, iN, w64, w8, w32, s_Zq, j_Zq_0, j_Zq_1, j_Zq_2, h1, h2, h3, h4, k7, o7]
 by_cases c14 : kind = 10
 case pos => subst c14; cases okl <;> simp +contextual -implicitDefEqProofs (disch := first | assumption | omega | (simp -implicitDefEqProofs only [go_sem]; try omega)) only [↓reduceIte, go_sem, iP, iN, w64, w8, w32, s_Zq, j_Zq_0, j_Zq_1, j_Zq_2, h1, h2, h3, h4, k7, o7]
 simp +contextual -implicitDefEqProofs (disch := first | assumption | omega | (simp -implicitDefEqProofs only [go_sem]; try omega)) only [↓reduceIte, go_sem, iP, iN, w64, w8, w32, s_Zq, j_Zq_0, j_Zq_1, j_Zq_2, h1, h2, h3, h4, c1, c2, c3, c4, c5, c6, c7, c8, c9, c10, c12, c13, c14]
end
end Go.Proofs.YtapnplljnpconaaGreatDoor
namespace Go.Proofs.YtapnplljnpconaaGreatDoor
open Go.Ev
set_option maxRecDepth 100000
set_option maxHeartbeats 4000000
section
variable {α : Type} {v : α → V} (hv : ∀ n x, V.rb n (v x) = true) {n : Nms} (hn : NmB n)
def cmpR (n : Nms) (okl : Sl α → Bool) (pseudo : Bool) (len : Nat) : Nat → List (Sm α) → Bool
 | i, [] => decide (0 < (len : Int))
 | i, s :: r =>
  if Qdy n (okl s.of) s = false then false
  else if 0 < (i : Int) ∧ (s.kind = 1 ∨ s.kind = 2) then false
  else if s.kind = 13 ∧ (pseudo = false ∨ (i : Int) < len - 1) then false
  else cmpR n okl pseudo len (i + 1) r
def Qm7 (n : Nms) (okl : Sl α → Bool) (pseudo : Bool) (c : Cp α) : Bool := cmpR n okl pseudo c.list.l.length 0 c.list.l
def cpC (v : α → V) (c : Cp α) : List V := [.int .i64 c.comb, vSl (vSm v) c.list]
def SmG (v : α → V) (n : Nms) (okl : Sl α → Bool) (s : Sm α) : Prop := SmB s ∧ ∀ σ, Wf σ → E cx 54 [.agg (Qaa n), vSl v s.of, .bool false] σ = some (.bool (okl s.of), σ)
include hv
theorem Qfv {c : Cp α} {k : Nat} : V.rbs k (cpC v c) = true := by simp only [cpC, Qaf, Qdl, Qam (Qgp hv), Qb4, Bool.and_true]
omit hv in
theorem Waj {c : Cp α} : Qal (cpC v c) = true := by simp only [cpC, Qcg, Qdk, Qde, Qc4, Bool.and_true]
omit hv in
theorem Qou {c : Cp α} : (cpC v c).map V.ng = cpC v c := by simp only [cpC, List.map_cons, List.map_nil, Qs4, Qah]
omit hv in
theorem Qdz {σ : Objs} {k : Nat} {ds : List V} (hd : ds.length = k) (hn : ds.map V.ng = ds) : eL σ true k (.eptr ds 0) = some (.agg ds) := by
 show Ev.part true k ds 0 = _
 unfold Ev.part
 rw [if_pos rfl, if_pos (by omega), List.drop_zero, List.take_of_length_le (by omega), hn]
include hn
theorem Qov (okl : Sl α → Bool) (pseudo : Bool) (c : Cp α) (hc : c.list.l.length ≤ 1000) (hl : ∀ s ∈ c.list.l, SmG v n okl s) : ∀ (r p : List (Sm α)), c.list.l = p ++ r →
  l_Zo_0 (Mi cx) 0 2 [.bool pseudo, .ptr 0 0, .ptr 1 0, vSl (vSm v) c.list, .int .i64 c.list.l.length, .int .i64 p.length] [.cells (Qaa n), .cells (cpC v c)] = some (.bool (cmpR n okl pseudo c.list.l.length p.length r), [])
 | [], p, hp => by
  have hlen : c.list.l.length = p.length := by rw [hp]; simp
  have hN : V.rbs 2 (Qaa n) = true := Qai
  have hC : V.rbs 2 (cpC v c) = true := Qfv hv
  have hw : Wf [.cells (Qaa n), .cells (cpC v c)] := by rw [Qfq]; exact ⟨hN, hC⟩
  have hct := Qqg hN hC
  have e1 : ¬ (p.length : Int) < c.list.l.length := by omega
  have e2 : eL [.cells (Qaa n), .cells (cpC v c)] false 1 (.ptr 1 1) = some (vSl (vSm v) c.list) := by
   show Option.map V.ng (some (vSl (vSm v) c.list)) = _
   rw [Qak, Qah]
  rw [u_Zo_0]
  unfold cmpR
  simp +contextual -implicitDefEqProofs (disch := first | assumption | omega | (simp -implicitDefEqProofs only [go_sem]; try omega)) only [↓reduceIte, go_sem, iP, iN, w64, w8, w32, b_Zo_0, e1, e2, hct]
 | s :: r, p, hp => by
  have hlen : c.list.l.length = p.length + r.length + 1 := by rw [hp]; simp; omega
  obtain ⟨hs, hL⟩ := hl s (by rw [hp]; simp)
  have hN : V.rbs 2 (Qaa n) = true := Qai
  have hC : V.rbs 2 (cpC v c) = true := Qfv hv
  have hct : ∀ τ : Objs, cuO 2 (.cells (Qaa n) :: .cells (cpC v c) :: τ) = some [.cells (Qaa n), .cells (cpC v c)] := fun τ => Qhz hN hC
  have hw : Wf [.cells (Qaa n), .cells (cpC v c), .cells (smC v s)] := by rw [Qjk]; exact ⟨Qai, Qfv hv, Qba hv⟩
  have e1 : (p.length : Int) < c.list.l.length := by omega
  have i1 : eI 11 (.int .i64 p.length) (vSl (vSm v) c.list) = some (.eptr (smC v s) 0) := Qav (f := vSm v) hp rfl rfl
  have i2 : ∀ σ, eL σ true 11 (.eptr (smC v s) 0) = some (.agg (smC v s)) := fun σ => Qdz rfl Qcy
  have i3 : stV [.cells (Qaa n), .cells (cpC v c), .cells [.int .i64 0, .int .i64 0, .str [], .str [], .int .i64 0, .str [], .bool false, .int .i64 0, .int .i64 0, .int .i64 0, .nils]] 11 (.ptr 2 0) (.agg (smC v s)) (.agg (smC v s)) = some (.undef, [.cells (Qaa n), .cells (cpC v c), .cells (smC v s)]) := Qi4 rfl rfl rfl Qft Qcy
  have i4 : eL [.cells (Qaa n), .cells (cpC v c), .cells (smC v s)] true 4 (.ptr 0 0) = some (.agg (Qaa n)) := Qbx rfl rfl no_n
  have i5 : eL [.cells (Qaa n), .cells (cpC v c), .cells (smC v s)] true 11 (.ptr 2 0) = some (.agg (smC v s)) := Qbx rfl rfl Qcy
  have i6 : eL [.cells (Qaa n), .cells (cpC v c), .cells (smC v s)] false 1 (.ptr 2 0) = some (.int .i64 s.kind) := rfl
  have i7 : eL [.cells (Qaa n), .cells (cpC v c), .cells (smC v s)] false 1 (.ptr 1 1) = some (vSl (vSm v) c.list) := by
   show Option.map V.ng (some (vSl (vSm v) c.list)) = _
   rw [Qak, Qah]
  have k1 := Wai hv hn s hs (okl s.of) hL _ hw
  have e3 : ∀ σ, fz 2 σ fzD (vSl (vSm v) c.list) = some (vSl (vSm v) c.list) := fun σ => Qax (Qam (Qgp hv))
  have ih := Qov okl pseudo c hc hl r (p ++ [s]) (by rw [hp]; simp)
  rw [show ((p ++ [s]).length : Int) = p.length + 1 by simp, show (p ++ [s]).length = p.length + 1 by simp] at ih
  rw [u_Zo_0]
  unfold cmpR
  generalize Qdy n (okl s.of) s = q at k1 ⊢
  generalize Qaa n = N at *
  generalize cpC v c = C at *
  generalize smC v s = S at *
  clear hl hL
  generalize s.kind = kind at i6 ⊢
  cases q with
  | false => simp +contextual -implicitDefEqProofs (disch := first | assumption | omega | (simp -implicitDefEqProofs only [go_sem]; try omega)) only [↓reduceIte, go_sem, iP, iN, w64, w8, w32, b_Zo_0, j_Zo_0, e1, i1, i2, i3, i4, i5, hct, k1]
  | true =>
   by_cases c1 : 0 < (p.length : Int) ∧ (kind = 1 ∨ kind = 2)
   ·obtain ⟨c2, c3⟩ := c1
    rcases c3 with rfl | rfl <;> simp +contextual -implicitDefEqProofs (disch := first | assumption | omega | (simp -implicitDefEqProofs only [go_sem]; try omega)) only [↓reduceIte, go_sem, iP, iN, w64, w8, w32, b_Zo_0, j_Zo_0, e1, i1, i2, i3, i4, i5, i6, hct, k1, c2]
   ·by_cases c2 : 0 < (p.length : Int)
    ·have c3 : ¬ kind = 1 := fun h => c1 ⟨c2, .inl h⟩
     have c4 : ¬ kind = 2 := fun h => c1 ⟨c2, .inr h⟩
     clear c1
     by_cases c5 : kind = 13
     ·subst c5
      cases pseudo with
      | false => simp +contextual -implicitDefEqProofs (disch := first | assumption | omega | (simp -implicitDefEqProofs only [go_sem]; try omega)) only [↓reduceIte, go_sem, iP, iN, w64, w8, w32, b_Zo_0, j_Zo_0, e1, i1, i2, i3, i4, i5, i6, i7, hct, k1, Qae, e3, c2]
      | true =>
       by_cases c6 : (p.length : Int) < c.list.l.length - 1
       ·simp +contextual -implicitDefEqProofs (disch := first | assumption | omega | (simp -implicitDefEqProofs only [go_sem]; try omega)) only [↓reduceIte, go_sem, iP, iN, w64, w8, w32, b_Zo_0, j_Zo_0, e1, i1, i2, i3, i4, i5, i6, i7, hct, k1, Qae, e3, c2, c6]
       ·simp +contextual -implicitDefEqProofs (disch := first | assumption | omega | (simp -implicitDefEqProofs only [go_sem]; try omega)) only [↓reduceIte, go_sem, iP, iN, w64, w8, w32, b_Zo_0, j_Zo_0, e1, i1, i2, i3, i4, i5, i6, i7, hct, k1, Qae, e3, c2, c6, ih]
     ·simp +contextual -implicitDefEqProofs (disch := first | assumption | omega | (simp -implicitDefEqProofs only [go_sem]; try omega)) only [↓reduceIte, go_sem, iP, iN, w64, w8, w32, b_Zo_0, j_Zo_0, e1, i1, i2, i3, i4, i5, i6, i7, hct, k1, Qae, e3, c2, c3, c4, c5, ih]
    ·clear c1
     by_cases c5 : kind = 13
     ·subst c5
      cases pseudo with
      | false => simp +contextual -implicitDefEqProofs (disch := first | assumption | omega | (simp -implicitDefEqProofs only [go_sem]; try omega)) only [↓reduceIte, go_sem, iP, iN, w64, w8, w32, b_Zo_0, j_Zo_0, e1, i1, i2, i3, i4, i5, i6, i7, hct, k1, Qae, e3, c2]
      | true =>
       by_cases c6 : (p.length : Int) < c.list.l.length - 1
       ·simp +contextual -implicitDefEqProofs (disch := first | assumption | omega | (simp -implicitDefEqProofs only [go_sem]; try omega)) only [↓reduceIte, go_sem, iP, iN, w64, w8, w32, b_Zo_0, j_Zo_0, e1, i1, i2, i3, i4, i5, i6, i7, hct, k1, Qae, e3, c2, c6]
       ·simp +contextual -implicitDefEqProofs (disch := first | assumption | omega | (simp -implicitDefEqProofs only [go_sem]; try omega)) only [↓reduceIte, go_sem, iP, iN, w64, w8, w32, b_Zo_0, j_Zo_0, e1, i1, i2, i3, i4, i5, i6, i7, hct, k1, Qae, e3, c2, c6, ih]
     ·simp +contextual -implicitDefEqProofs (disch := first | assumption | omega | (simp -implicitDefEqProofs only [go_sem]; try omega)) only [↓reduceIte, go_sem, iP, iN, w64, w8, w32, b_Zo_0, j_Zo_0, e1, i1, i2, i3, i4, i5, i6, i7, hct, k1, Qae, e3, c2, c5, ih]
theorem Qtw (okl : Sl α → Bool) (pseudo : Bool) (c : Cp α) (hc : c.list.l.length ≤ 1000) (hl : ∀ s ∈ c.list.l, SmG v n okl s) (σ : Objs) (hσ : Wf σ) :
  E cx 74 [.agg (Qaa n), .agg (cpC v c), .bool pseudo] σ = some (.bool (Qm7 n okl pseudo c), σ) := by
 refine Qbv Qbm ?_ (by simp only [Qaf, Qa3, Qfv hv, Qai]; rfl) rfl σ hσ
 have h1 : boxV [] (.agg (Qaa n)) = some (.ptr 0 0, [.cells (Qaa n)]) := Qa0 ok_n no_n
 have h2 : boxV [.cells (Qaa n)] (.agg (cpC v c)) = some (.ptr 1 0, [.cells (Qaa n), .cells (cpC v c)]) := Qa0 Waj Qou
 have e2 : eL [.cells (Qaa n), .cells (cpC v c)] false 1 (.ptr 1 1) = some (vSl (vSm v) c.list) := by
  show Option.map V.ng (some (vSl (vSm v) c.list)) = _
  rw [Qak, Qah]
 have e3 : ∀ σ, fz 2 σ fzD (vSl (vSm v) c.list) = some (vSl (vSm v) c.list) := fun σ => Qax (Qam (Qgp hv))
 have hl' := Qov hv hn okl pseudo c hc hl c.list.l [] rfl
 have hl'' : l_Zo_0 (Mi cx) 0 2 [.bool pseudo, .ptr 0 0, .ptr 1 0, vSl (vSm v) c.list, .int .i64 c.list.l.length, .int .i64 0] [.cells (Qaa n), .cells (cpC v c)] = some (.bool (Qm7 n okl pseudo c), []) := hl'
 rw [e_Zo]
 simp +contextual -implicitDefEqProofs (disch := first | assumption | omega | (simp -implicitDefEqProofs only [go_sem]; try omega)) only [↓reduceIte, go_sem, iP, iN, w64, w8, w32, s_Zo, h1, h2, e2, e3, Qae, hl'']
omit hv hn in
def innR (n : Nms) (okl : Sl α → Bool) (outer : Bool) (len : Nat) : Nat → List (Cp α) → Bool
 | k, [] => true
 | k, x :: r =>
  if x.comb < 0 ∨ 4 < x.comb then false
  else if ¬ (decide (x.comb = 0) = decide ((k : Int) = 0)) then false
  else if Qm7 n okl (outer && decide ((k : Int) = len - 1)) x = false then false
  else innR n okl outer len (k + 1) r
omit hv hn in
def lstR (n : Nms) (okl : Sl α → Bool) (outer : Bool) (tot : Nat) : List (Co α) → Bool
 | [] => decide (0 < (tot : Int))
 | c :: r => if (c.list.l.length : Int) = 0 then false else if innR n okl outer c.list.l.length 0 c.list.l = true then lstR n okl outer tot r else false
omit hv hn in
def coC (v : α → V) (c : Co α) : List V := [vSl (vCp v) c.list]
omit hn in
theorem Qc8 {c : Co α} {k : Nat} : V.rbs k (coC v c) = true := by simp only [coC, Qaf, Qam (Qdg hv), Qb4, Bool.and_true]
omit hv hn in
theorem Qxg {c : Co α} : Qal (coC v c) = true := by simp only [coC, Qcg, Qdk, Qc4, Bool.and_true]
omit hv hn in
theorem Qk2 {c : Co α} : (coC v c).map V.ng = coC v c := by simp only [coC, List.map_cons, List.map_nil, Qah]
omit hv hn in
def CpG (v : α → V) (n : Nms) (okl : Sl α → Bool) (x : Cp α) : Prop := x.list.l.length ≤ 1000 ∧ ∀ s ∈ x.list.l, SmG v n okl s
omit hv hn in
def CoG (v : α → V) (n : Nms) (okl : Sl α → Bool) (c : Co α) : Prop := c.list.l.length ≤ 1000 ∧ ∀ x ∈ c.list.l, CpG v n okl x
theorem Qow (okl : Sl α → Bool) (outer : Bool) (c : Co α) (hc : CoG v n okl c) (LV : V) (hLV : ∀ k, V.rb k LV = true) (hLn : LV.ng = LV) (L i : Int) (hi : 0 ≤ i ∧ i ≤ 100000) (r1 : Rk) : ∀ (r p : List (Cp α)), c.list.l = p ++ r →
  l_Zp_1 (Mi cx) 0 1 r1 2 [LV, .bool outer, .ptr 0 0, .ptr 1 0, LV, .int .i64 L, .int .i64 i, vSl (vCp v) c.list, .int .i64 c.list.l.length, .int .i64 p.length] [.cells (Qaa n), .cells (coC v c)] =
   if innR n okl outer c.list.l.length p.length r = true then r1 [LV, .bool outer, .ptr 0 0, LV, .int .i64 L, .int .i64 (i + 1)] [.cells (Qaa n)] else some (.bool false, [])
 | [], p, hp => by
  have hlen : c.list.l.length = p.length := by rw [hp]; simp
  have e1 : ¬ (p.length : Int) < c.list.l.length := by omega
  have hN : V.rbs 2 (Qaa n) = true := Qai
  have hN1 : V.rbs 1 (Qaa n) = true := Qai
  have hC : V.rbs 2 (coC v c) = true := Qc8 hv
  have c2 : cuO 2 [.cells (Qaa n), .cells (coC v c)] = some [.cells (Qaa n), .cells (coC v c)] := Qqg hN hC
  have c1 : cuO 1 [.cells (Qaa n), .cells (coC v c)] = some [.cells (Qaa n)] := Qc2 hN1
  have f1 : ∀ k σ, fz k σ fzD LV = some LV := fun k σ => Qax (hLV k)
  rw [u_Zp_1]
  unfold innR
  simp +contextual -implicitDefEqProofs (disch := first | assumption | omega | (simp -implicitDefEqProofs only [go_sem]; try omega)) only [↓reduceIte, go_sem, iP, iN, w64, w8, w32, b_Zp_1, e1, c1, c2, f1]
 | x :: r, p, hp => by
  have hlen : c.list.l.length = p.length + r.length + 1 := by rw [hp]; simp; omega
  have hcl := hc.1
  obtain ⟨hx1, hx2⟩ := hc.2 x (by rw [hp]; simp)
  have e1 : (p.length : Int) < c.list.l.length := by omega
  have hN : V.rbs 2 (Qaa n) = true := Qai
  have hN1 : V.rbs 1 (Qaa n) = true := Qai
  have hC : V.rbs 2 (coC v c) = true := Qc8 hv
  have c2 : ∀ τ : Objs, cuO 2 (.cells (Qaa n) :: .cells (coC v c) :: τ) = some [.cells (Qaa n), .cells (coC v c)] := fun τ => Qhz hN hC
  have c1 : ∀ τ : Objs, cuO 1 (.cells (Qaa n) :: τ) = some [.cells (Qaa n)] := fun τ => Qc2 hN1
  have f1 : ∀ k σ, fz k σ fzD LV = some LV := fun k σ => Qax (hLV k)
  have f2 : ∀ k σ, fz k σ fzD (vSl (vCp v) c.list) = some (vSl (vCp v) c.list) := fun k σ => Qax (Qam (Qdg hv))
  have hw : Wf [.cells (Qaa n), .cells (coC v c), .cells (cpC v x)] := by rw [Qjk]; exact ⟨Qai, Qc8 hv, Qfv hv⟩
  have i1 : eI 2 (.int .i64 p.length) (vSl (vCp v) c.list) = some (.eptr (cpC v x) 0) := Qav (f := vCp v) hp rfl rfl
  have i2 : ∀ σ, eL σ true 2 (.eptr (cpC v x) 0) = some (.agg (cpC v x)) := fun σ => Qdz rfl Qou
  have i3 : stV [.cells (Qaa n), .cells (coC v c), .cells [.int .i64 0, .nils]] 2 (.ptr 2 0) (.agg (cpC v x)) (.agg (cpC v x)) = some (.undef, [.cells (Qaa n), .cells (coC v c), .cells (cpC v x)]) := Qi4 rfl rfl rfl Waj Qou
  have i4 : eL [.cells (Qaa n), .cells (coC v c), .cells (cpC v x)] true 4 (.ptr 0 0) = some (.agg (Qaa n)) := Qbx rfl rfl no_n
  have i5 : eL [.cells (Qaa n), .cells (coC v c), .cells (cpC v x)] true 2 (.ptr 2 0) = some (.agg (cpC v x)) := Qbx rfl rfl Qou
  have i6 : eL [.cells (Qaa n), .cells (coC v c), .cells (cpC v x)] false 1 (.ptr 2 0) = some (.int .i64 x.comb) := rfl
  have i7 : eL [.cells (Qaa n), .cells (coC v c), .cells (cpC v x)] false 1 (.ptr 1 0) = some (vSl (vCp v) c.list) := by
   show Option.map V.ng (some (vSl (vCp v) c.list)) = _
   rw [Qak, Qah]
  have k1 := fun pseudo => Qtw hv hn okl pseudo x hx1 hx2 _ hw
  have ih := Qow okl outer c hc LV hLV hLn L i hi r1 r (p ++ [x]) (by rw [hp]; simp)
  rw [show ((p ++ [x]).length : Int) = p.length + 1 by simp, show (p ++ [x]).length = p.length + 1 by simp] at ih
  rw [u_Zp_1]
  unfold innR
  have q1 := k1 (outer && decide ((p.length : Int) = c.list.l.length - 1))
  generalize Qm7 n okl (outer && decide ((p.length : Int) = c.list.l.length - 1)) x = q at q1 ⊢
  clear k1 hc hx2
  generalize Qaa n = N at *
  generalize coC v c = C at *
  generalize cpC v x = X at *
  generalize x.comb = comb at i6 ⊢
  have hK1 : 0 ≤ (p.length : Int) := Int.natCast_nonneg _
  generalize (p.length : Int) = KI at e1 i1 ih q1 hK1 ⊢
  by_cases d1 : comb < 0
  case pos => simp +contextual -implicitDefEqProofs (disch := first | assumption | omega | (simp -implicitDefEqProofs only [go_sem]; try omega)) only [↓reduceIte, go_sem, iP, iN, w64, w8, w32, b_Zp_1, j_Zp_0, e1, i1, i2, i3, i4, i5, i6, c1, c2, f1, f2, d1, true_or]
  by_cases d2 : 4 < comb
  case pos => simp +contextual -implicitDefEqProofs (disch := first | assumption | omega | (simp -implicitDefEqProofs only [go_sem]; try omega)) only [↓reduceIte, go_sem, iP, iN, w64, w8, w32, b_Zp_1, j_Zp_0, e1, i1, i2, i3, i4, i5, i6, c1, c2, f1, f2, d1, d2, or_true]
  by_cases d3 : comb = 0
  ·subst d3
   by_cases d4 : KI = 0
   case neg => simp +contextual -implicitDefEqProofs (disch := first | assumption | omega | (simp -implicitDefEqProofs only [go_sem]; try omega)) only [↓reduceIte, go_sem, iP, iN, w64, w8, w32, b_Zp_1, j_Zp_0, e1, i1, i2, i3, i4, i5, i6, i7, c1, c2, f1, f2, Qae, d1, d2, d4]
   subst d4
   rw [Int.zero_add] at ih
   cases outer with
   | false =>
    rw [Bool.false_and] at q1
    cases q with
    | false => simp +contextual -implicitDefEqProofs (disch := first | assumption | omega | (simp -implicitDefEqProofs only [go_sem]; try omega)) only [↓reduceIte, go_sem, iP, iN, w64, w8, w32, b_Zp_1, j_Zp_0, e1, i1, i2, i3, i4, i5, i6, i7, c1, c2, f1, f2, Qae, d1, d2, q1]
    | true => simp +contextual -implicitDefEqProofs (disch := first | assumption | omega | (simp -implicitDefEqProofs only [go_sem]; try omega)) only [↓reduceIte, go_sem, iP, iN, w64, w8, w32, b_Zp_1, j_Zp_0, e1, i1, i2, i3, i4, i5, i6, i7, c1, c2, f1, f2, Qae, d1, d2, q1, ih]
   | true =>
    rw [Bool.true_and] at q1
    cases d5 : decide ((0 : Int) = (c.list.l.length : Int) - 1) with
    | true =>
     rw [d5] at q1
     cases q with
     | false => simp +contextual -implicitDefEqProofs (disch := first | assumption | omega | (simp -implicitDefEqProofs only [go_sem]; try omega)) only [↓reduceIte, go_sem, iP, iN, w64, w8, w32, b_Zp_1, j_Zp_0, e1, i1, i2, i3, i4, i5, i6, i7, c1, c2, f1, f2, Qae, d1, d2, q1, d5]
     | true => simp +contextual -implicitDefEqProofs (disch := first | assumption | omega | (simp -implicitDefEqProofs only [go_sem]; try omega)) only [↓reduceIte, go_sem, iP, iN, w64, w8, w32, b_Zp_1, j_Zp_0, e1, i1, i2, i3, i4, i5, i6, i7, c1, c2, f1, f2, Qae, d1, d2, q1, ih, d5]
    | false =>
     rw [d5] at q1
     cases q with
     | false => simp +contextual -implicitDefEqProofs (disch := first | assumption | omega | (simp -implicitDefEqProofs only [go_sem]; try omega)) only [↓reduceIte, go_sem, iP, iN, w64, w8, w32, b_Zp_1, j_Zp_0, e1, i1, i2, i3, i4, i5, i6, i7, c1, c2, f1, f2, Qae, d1, d2, q1, d5]
     | true => simp +contextual -implicitDefEqProofs (disch := first | assumption | omega | (simp -implicitDefEqProofs only [go_sem]; try omega)) only [↓reduceIte, go_sem, iP, iN, w64, w8, w32, b_Zp_1, j_Zp_0, e1, i1, i2, i3, i4, i5, i6, i7, c1, c2, f1, f2, Qae, d1, d2, q1, ih, d5]
  ·by_cases d4 : KI = 0
   case pos =>
    subst d4
    simp +contextual -implicitDefEqProofs (disch := first | assumption | omega | (simp -implicitDefEqProofs only [go_sem]; try omega)) only [↓reduceIte, go_sem, iP, iN, w64, w8, w32, b_Zp_1, j_Zp_0, e1, i1, i2, i3, i4, i5, i6, i7, c1, c2, f1, f2, Qae, d1, d2, d3]
   cases outer with
   | false =>
    rw [Bool.false_and] at q1
    cases q with
    | false => simp +contextual -implicitDefEqProofs (disch := first | assumption | omega | (simp -implicitDefEqProofs only [go_sem]; try omega)) only [↓reduceIte, go_sem, iP, iN, w64, w8, w32, b_Zp_1, j_Zp_0, e1, i1, i2, i3, i4, i5, i6, i7, c1, c2, f1, f2, Qae, d1, d2, q1, d3, d4]
    | true => simp +contextual -implicitDefEqProofs (disch := first | assumption | omega | (simp -implicitDefEqProofs only [go_sem]; try omega)) only [↓reduceIte, go_sem, iP, iN, w64, w8, w32, b_Zp_1, j_Zp_0, e1, i1, i2, i3, i4, i5, i6, i7, c1, c2, f1, f2, Qae, d1, d2, q1, ih, d3, d4]
   | true =>
    rw [Bool.true_and] at q1
    cases d5 : decide (KI = (c.list.l.length : Int) - 1) with
    | true =>
     rw [d5] at q1
     cases q with
     | false => simp +contextual -implicitDefEqProofs (disch := first | assumption | omega | (simp -implicitDefEqProofs only [go_sem]; try omega)) only [↓reduceIte, go_sem, iP, iN, w64, w8, w32, b_Zp_1, j_Zp_0, e1, i1, i2, i3, i4, i5, i6, i7, c1, c2, f1, f2, Qae, d1, d2, q1, d5, d3, d4]
     | true => simp +contextual -implicitDefEqProofs (disch := first | assumption | omega | (simp -implicitDefEqProofs only [go_sem]; try omega)) only [↓reduceIte, go_sem, iP, iN, w64, w8, w32, b_Zp_1, j_Zp_0, e1, i1, i2, i3, i4, i5, i6, i7, c1, c2, f1, f2, Qae, d1, d2, q1, ih, d5, d3, d4]
    | false =>
     rw [d5] at q1
     cases q with
     | false => simp +contextual -implicitDefEqProofs (disch := first | assumption | omega | (simp -implicitDefEqProofs only [go_sem]; try omega)) only [↓reduceIte, go_sem, iP, iN, w64, w8, w32, b_Zp_1, j_Zp_0, e1, i1, i2, i3, i4, i5, i6, i7, c1, c2, f1, f2, Qae, d1, d2, q1, d5, d3, d4]
     | true => simp +contextual -implicitDefEqProofs (disch := first | assumption | omega | (simp -implicitDefEqProofs only [go_sem]; try omega)) only [↓reduceIte, go_sem, iP, iN, w64, w8, w32, b_Zp_1, j_Zp_0, e1, i1, i2, i3, i4, i5, i6, i7, c1, c2, f1, f2, Qae, d1, d2, q1, ih, d5, d3, d4]
theorem Qox (okl : Sl α → Bool) (outer : Bool) (s : Sl (Co α)) (hl : s.l.length ≤ 1000) (hs : ∀ c ∈ s.l, CoG v n okl c) : ∀ (r p : List (Co α)), s.l = p ++ r →
  l_Zp_0 (Mi cx) 0 1 [vSl (vCo v) s, .bool outer, .ptr 0 0, vSl (vCo v) s, .int .i64 s.l.length, .int .i64 p.length] [.cells (Qaa n)] = some (.bool (lstR n okl outer s.l.length r), [])
 | [], p, hp => by
  have hlen : s.l.length = p.length := by rw [hp]; simp
  have e1 : ¬ (p.length : Int) < s.l.length := by omega
  have hN1 : V.rbs 1 (Qaa n) = true := Qai
  have c1 : cuO 1 [.cells (Qaa n)] = some [.cells (Qaa n)] := Qc2 (τ := []) hN1
  have f1 : ∀ k σ, fz k σ fzD (vSl (vCo v) s) = some (vSl (vCo v) s) := fun k σ => Qax (Qam (Qco hv))
  rw [u_Zp_0]
  unfold lstR
  simp +contextual -implicitDefEqProofs (disch := first | assumption | omega | (simp -implicitDefEqProofs only [go_sem]; try omega)) only [↓reduceIte, go_sem, iP, iN, w64, w8, w32, b_Zp_0, e1, c1, f1, Qae]
 | c :: r, p, hp => by
  have hlen : s.l.length = p.length + r.length + 1 := by rw [hp]; simp; omega
  have hc := hs c (by rw [hp]; simp)
  have e1 : (p.length : Int) < s.l.length := by omega
  have hN1 : V.rbs 1 (Qaa n) = true := Qai
  have hN : V.rbs 2 (Qaa n) = true := Qai
  have hC : V.rbs 2 (coC v c) = true := Qc8 hv
  have c1 : ∀ τ : Objs, cuO 1 (.cells (Qaa n) :: τ) = some [.cells (Qaa n)] := fun τ => Qc2 hN1
  have f1 : ∀ k σ, fz k σ fzD (vSl (vCo v) s) = some (vSl (vCo v) s) := fun k σ => Qax (Qam (Qco hv))
  have f2 : ∀ k σ, fz k σ fzD (vSl (vCp v) c.list) = some (vSl (vCp v) c.list) := fun k σ => Qax (Qam (Qdg hv))
  have i1 : eI 1 (.int .i64 p.length) (vSl (vCo v) s) = some (.eptr (coC v c) 0) := Qav (f := vCo v) hp rfl rfl
  have i2 : ∀ σ, eL σ true 1 (.eptr (coC v c) 0) = some (.agg (coC v c)) := fun σ => Qdz rfl Qk2
  have i3 : stV [.cells (Qaa n), .cells [.nils]] 1 (.ptr 1 0) (.agg (coC v c)) (.agg (coC v c)) = some (.undef, [.cells (Qaa n), .cells (coC v c)]) := Qi4 rfl rfl rfl Qxg Qk2
  have i7 : eL [.cells (Qaa n), .cells (coC v c)] false 1 (.ptr 1 0) = some (vSl (vCp v) c.list) := by
   show Option.map V.ng (some (vSl (vCp v) c.list)) = _
   rw [Qak, Qah]
  have hin := Qow hv hn okl outer c hc (vSl (vCo v) s) (fun k => Qam (Qco hv)) Qah s.l.length p.length (by omega) (l_Zp_0 (Mi cx) 0 1) c.list.l [] rfl
  have ih := Qox okl outer s hl hs r (p ++ [c]) (by rw [hp]; simp)
  rw [show ((p ++ [c]).length : Int) = p.length + 1 by simp] at ih
  rw [ih] at hin
  clear hs
  have hin' : l_Zp_1 (Mi cx) 0 1 (l_Zp_0 (Mi cx) 0 1) 2 [vSl (vCo v) s, .bool outer, .ptr 0 0, .ptr 1 0, vSl (vCo v) s, .int .i64 s.l.length, .int .i64 p.length, vSl (vCp v) c.list, .int .i64 c.list.l.length, .int .i64 0] [.cells (Qaa n), .cells (coC v c)] =
   if innR n okl outer c.list.l.length 0 c.list.l = true then some (.bool (lstR n okl outer s.l.length r), []) else some (.bool false, []) := hin
  rw [u_Zp_0]
  unfold lstR
  by_cases d1 : (c.list.l.length : Int) = 0
  case pos => simp +contextual -implicitDefEqProofs (disch := first | assumption | omega | (simp -implicitDefEqProofs only [go_sem]; try omega)) only [↓reduceIte, go_sem, iP, iN, w64, w8, w32, b_Zp_0, j_Zp_0, e1, i1, i2, i3, i7, c1, f1, f2, Qae, d1]
  cases d2 : innR n okl outer c.list.l.length 0 c.list.l with
  | true =>
   rw [d2, if_pos rfl] at hin'
   simp +contextual -implicitDefEqProofs (disch := first | assumption | omega | (simp -implicitDefEqProofs only [go_sem]; try omega)) only [↓reduceIte, go_sem, iP, iN, w64, w8, w32, b_Zp_0, j_Zp_0, e1, i1, i2, i3, i7, c1, f1, f2, Qae, d1, hin']
  | false =>
   rw [d2, if_neg (by decide)] at hin'
   simp +contextual -implicitDefEqProofs (disch := first | assumption | omega | (simp -implicitDefEqProofs only [go_sem]; try omega)) only [↓reduceIte, go_sem, iP, iN, w64, w8, w32, b_Zp_0, j_Zp_0, e1, i1, i2, i3, i7, c1, f1, f2, Qae, d1, hin']
def lstS (n : Nms) (okl : Sl α → Bool) (outer : Bool) (s : Sl (Co α)) : Bool := lstR n okl outer s.l.length s.l
theorem Qxh (okl : Sl α → Bool) (outer : Bool) (s : Sl (Co α)) (hl : s.l.length ≤ 1000) (hs : ∀ c ∈ s.l, CoG v n okl c) (σ : Objs) (hσ : Wf σ) :
  E cx 54 [.agg (Qaa n), vSl (vCo v) s, .bool outer] σ = some (.bool (lstS n okl outer s), σ) := by
 refine Qbv Qbm ?_ (by simp only [Qaf, Qa3, Qai, Qam (Qco hv)]; rfl) rfl σ hσ
 have h1 : boxV [] (.agg (Qaa n)) = some (.ptr 0 0, [.cells (Qaa n)]) := Qa0 ok_n no_n
 have f1 : ∀ k σ, fz k σ fzD (vSl (vCo v) s) = some (vSl (vCo v) s) := fun k σ => Qax (Qam (Qco hv))
 have hl' := Qox hv hn okl outer s hl hs s.l [] rfl
 have hl'' : l_Zp_0 (Mi cx) 0 1 [vSl (vCo v) s, .bool outer, .ptr 0 0, vSl (vCo v) s, .int .i64 s.l.length, .int .i64 0] [.cells (Qaa n)] = some (.bool (lstS n okl outer s), []) := hl'
 rw [e_Zp]
 simp +contextual -implicitDefEqProofs (disch := first | assumption | omega | (simp -implicitDefEqProofs only [go_sem]; try omega)) only [↓reduceIte, go_sem, iP, iN, w64, w8, w32, s_Zp, h1, f1, Qae, Qah, hl'']
end
def okC (n : Nms) : (k : Nat) → Bool → Sl (Cx k) → Bool
 | 0, _, _ => false
 | k + 1, outer, s => lstS n (okC n k false) outer s
theorem Wbp {n : Nms} (hn : NmB n) : ∀ (k d : Nat) (s : Sl (Cx k)), Bd d k s → ∀ (outer : Bool) (σ : Objs), Wf σ →
  E cx 54 [.agg (Qaa n), vSl (vCx k) s, .bool outer] σ = some (.bool (okC n k outer s), σ)
 | 0, d, s, hb, outer, σ, hσ => by
  have e := sl0 (α := Cx 0) (fun x => Empty.elim x) s
  have ht : ∃ t : Sl (Co Empty), vSl (vCx 0) s = vSl (vCo (fun x : Empty => x.elim)) t ∧ t.l = [] := by
   cases s with
   | nil => exact ⟨.nil, rfl, rfl⟩
   | row xs => have : xs = [] := e; subst this; exact ⟨.row [], rfl, rfl⟩
  obtain ⟨t, h1, h2⟩ := ht
  rw [h1, Qxh (α := Empty) (v := fun x => x.elim) (fun n x => x.elim) hn (fun _ => false) outer t (by rw [h2]; simp) (by rw [h2]; simp) σ hσ]
  unfold lstS okC
  rw [h2]
  rfl
 | k + 1, d, s, hb, outer, σ, hσ => by
  refine Qxh (α := Cx k) (v := vCx k) (Qdv k · ·) hn (okC n k false) outer s hb.1 (fun c hc => ⟨(hb.2 c hc).1, fun x hx => ⟨((hb.2 c hc).2 x hx).1, fun y hy => ?_⟩⟩) σ hσ
  have h := ((hb.2 c hc).2 x hx).2 y hy
  exact ⟨⟨h.1, h.2.1, h.2.2.1⟩, fun σ hσ => Wbp hn k (d - 1) y.of h.2.2.2.2 false σ hσ⟩
end Go.Proofs.YtapnplljnpconaaGreatDoor
namespace Go.Proofs.YtapnplljnpconaaGreatDoor
open Go.Ev
set_option maxRecDepth 100000
set_option maxHeartbeats 4000000
def dpS {k : Nat} (s : Sl (Cx k)) : Int := dpI (vSl (vCx k) s)
theorem Wh6 {k d : Nat} (s : Sl (Cx k)) (hd : d ≤ 1000) (hb : Bd d k s) (σ : Objs) : E cx 53 [vSl (vCx k) s] σ = some (.int .i64 (dpS s), σ) := by
 have hp : cx.prim 53 = some Qqa := rfl
 have h1 := Qw2 k d s hb
 have h2 := Qw3 k d s hb
 rw [Wa4 hp]
 show (Qp9 [vSl (vCx k) s]).map _ = _
 have h3 : Qp9 [vSl (vCx k) s] = some (.int .i64 (dpS s)) := by
  show (if (V.shp 0 (vSl (vCx k) s) && decide (V.hh (vSl (vCx k) s) ≤ 1000000)) = true then _ else _) = _
  rw [h1, decide_eq_true (show V.hh (vSl (vCx k) s) ≤ 1000000 by omega)]
  rfl
 rw [h3]
 rfl
def chkS (n : Nms) {k : Nat} (s : Sl (Cx k)) : Int := if okN n = false then 11 else if 32 < dpS s then 12 else if okC n k true s = false then 10 else 0
def errZ (k : Int) : V := if k = 0 then .nili else errN k
theorem Qc5 {k n : Nat} {s : Sl (Cx k)} : V.rb n (vSl (vCx k) s) = true := Qam (Qdv k)
theorem Qtx {n : Nms} (hn : NmB n) {k d : Nat} (s : Sl (Cx k)) (hd : d ≤ 1000) (hb : Bd d k s) (σ : Objs) (hσ : Wf σ) :
  E cx 30 [vSl (vCx k) s, .agg (Qaa n)] σ = some (errZ (chkS n s), σ) := by
 refine Qbv Qbm ?_ (by simp only [Qaf, Qa3, Qai, Qc5]; rfl) (by unfold errZ; split <;> rfl) σ hσ
 have h1 : boxV [] (.agg (Qaa n)) = some (.ptr 0 0, [.cells (Qaa n)]) := Qa0 ok_n no_n
 have hw : Wf [.cells (Qaa n)] := by rw [Qd5]; exact Qai
 have h2 : eL [.cells (Qaa n)] true 4 (.ptr 0 0) = some (.agg (Qaa n)) := Qbx rfl rfl no_n
 have h3 := Qi3 hn _ hw
 have h3' : E cx 29 [.agg (Qaa n)] [.cells (Qaa n)] = some (if okN n = true then .nili else errN 11, [.cells (Qaa n)]) := h3
 have h4 := Wh6 s hd hb [.cells (Qaa n)]
 have h5 := Wbp hn k d s hb true _ hw
 have h6 := Qxb 12 0 _ hw
 have h7 := Qxb 10 0 _ hw
 have h8 : Qa4 [.bool false, .str [], .nils, .nils] [(0, 4, .agg (Qaa n))] = some (.agg (Qaa n)) := by
  rw [Qmg, Qmh (by rfl) (by decide) (by rw [Qb5]; exact ok_n), Qpx, Qb5, no_n]
  rfl
 clear h3
 rw [e_Z13]
 unfold chkS errZ
 generalize Qaa n = N at *
 cases c1 : okN n with
 | false =>
  rw [c1, if_neg (by decide)] at h3'
  simp +contextual -implicitDefEqProofs (disch := first | assumption | omega | (simp -implicitDefEqProofs only [go_sem]; try omega)) only [↓reduceIte, go_sem, iP, iN, w64, w8, w32, s_Z13, h1, h2, h3', errN]
 | true =>
  rw [c1, if_pos rfl] at h3'
  by_cases c2 : 32 < dpS s
  ·simp +contextual -implicitDefEqProofs (disch := first | assumption | omega | (simp -implicitDefEqProofs only [go_sem]; try omega)) only [↓reduceIte, go_sem, iP, iN, w64, w8, w32, s_Z13, h1, h2, h3', h4, h6, c2, errN, Qah]
  ·cases c3 : okC n k true s with
   | false =>
    rw [c3] at h5
    simp +contextual -implicitDefEqProofs (disch := first | assumption | omega | (simp -implicitDefEqProofs only [go_sem]; try omega)) only [↓reduceIte, go_sem, iP, iN, w64, w8, w32, s_Z13, h1, h2, h3', h4, h5, h7, h8, c2, errN, Qah]
   | true =>
    rw [c3] at h5
    simp +contextual -implicitDefEqProofs (disch := first | assumption | omega | (simp -implicitDefEqProofs only [go_sem]; try omega)) only [↓reduceIte, go_sem, iP, iN, w64, w8, w32, s_Z13, h1, h2, h3', h4, h5, h8, c2, errN, Qah]
end Go.Proofs.YtapnplljnpconaaGreatDoor
namespace Go.Proofs.YtapnplljnpconaaGreatDoor
open Go.Ev
set_option maxRecDepth 100000
set_option maxHeartbeats 4000000
section
variable {α : Type} {v : α → V} (hv : ∀ n x, V.rb n (v x) = true) (t0 : Sl α → Nat) (b0 : Sl α → Prop) (dp : Int)
def tX (t0 : Sl α → Nat) : List (Sm α) → Nat
 | [] => 0
 | y :: r => 1 + t0 y.of + tX t0 r
def tC (t0 : Sl α → Nat) : List (Cp α) → Nat
 | [] => 0
 | x :: r => tX t0 x.list.l + tC t0 r
def tS (t0 : Sl α → Nat) : List (Co α) → Nat
 | [] => 0
 | c :: r => c.list.l.length + tC t0 c.list.l + tS t0 r
def gY (b0 : Sl α → Prop) (dp : Int) (y : Sm α) : Prop := y.pre.length ≤ 100 ∧ y.name.length ≤ 100 ∧ y.text.length ≤ 100 ∧ dp ≤ 40 ∧ b0 y.of
def gX (b0 : Sl α → Prop) (dp : Int) (x : Cp α) : Prop := ∀ y ∈ x.list.l, gY b0 dp y
def gC (b0 : Sl α → Prop) (dp : Int) (c : Co α) : Prop := ∀ x ∈ c.list.l, gX b0 dp x
def RY (y : Sm α) : Prop := y.pre.length ≤ 140737488351232 ∧ y.name.length ≤ 140737488351232 ∧ y.text.length ≤ 140737488351232
def RX (x : Cp α) : Prop := x.list.l.length ≤ 140737488351232 ∧ ∀ y ∈ x.list.l, RY y
def RC (c : Co α) : Prop := c.list.l.length ≤ 140737488351232 ∧ ∀ x ∈ c.list.l, RX x
def bnd (dp : Int) : Int := 140737488351232 + 102 * (43 - dp)
def Wew (t0 : Sl α → Nat) (b0 : Sl α → Prop) (v : α → V) (dp : Int) (o : Sl α) : Prop := ∃ r : Int, E cx 49 [vSl v o, .int .i64 100, .int .i64 (dp + 1)] [] = some (.int .i64 r, []) ∧ 0 ≤ r ∧ r ≤ bnd (dp + 1) ∧ (r ≤ 100 → b0 o ∧ r = t0 o)
include hv
theorem Wbq (hdp : 0 ≤ dp ∧ dp ≤ 41) (s : Sl (Co α)) (x : Cp α) (hx : RX x) (i k : Int) (r1 r2 : Rk) (Post : Int → Prop) (hP : Post 101) (hE : dp ≤ 40 → ∀ y ∈ x.list.l, Wew t0 b0 v dp y.of) : ∀ (r p : List (Sm α)) (n : Int), x.list.l = p ++ r → 0 ≤ n → n ≤ bnd dp →
  (∀ n', 0 ≤ n' → n' ≤ bnd dp → (n' ≤ 100 → (∀ y ∈ r, gY b0 dp y) ∧ n' = n + tX t0 r) → ∃ q, r2 [vSl (vCo v) s, .int .i64 100, .int .i64 dp, .int .i64 n', .int .i64 i, .int .i64 (k + 1)] [] = some (.int .i64 q, []) ∧ Post q) → 0 ≤ k ∧ k ≤ 140737488351232 →
  ∃ q, l_Z30_2 (Mi cx) 0 0 r1 0 r2 0 [vSl (vCo v) s, .int .i64 100, .int .i64 dp, .int .i64 n, .int .i64 i, .int .i64 k, vSl (vSm v) x.list, .int .i64 p.length] [] = some (.int .i64 q, []) ∧ Post q
 | [], p, n, hp, hn, hn2, hc, hk => by
  have hlen : x.list.l.length = p.length := by rw [hp]; simp
  have e1 : ¬ (p.length : Int) < x.list.l.length := by omega
  have f1 : ∀ σ, fz 0 σ fzD (vSl (vCo v) s) = some (vSl (vCo v) s) := fun σ => Qax (Qam (Qco hv))
  obtain ⟨q, h1, h2⟩ := hc n hn hn2 (fun _ => ⟨fun y hy => (by cases hy), by show n = n + ((0 : Nat) : Int); omega⟩)
  refine ⟨q, ?_, h2⟩
  rw [u_Z30_2]
  simp +contextual -implicitDefEqProofs (disch := first | assumption | omega | (simp -implicitDefEqProofs only [go_sem]; try omega)) only [↓reduceIte, go_sem, iP, iN, w64, w8, w32, b_Z30_2, e1, f1, Qae, Qah, h1]
 | y :: r, p, n, hp, hn, hn2, hc, hk => by
  have hlen : x.list.l.length = p.length + r.length + 1 := by rw [hp]; simp; omega
  have e1 : (p.length : Int) < x.list.l.length := by omega
  have hxl := hx.1
  have hy := hx.2 y (by rw [hp]; simp)
  have f1 : ∀ σ, fz 0 σ fzD (vSl (vCo v) s) = some (vSl (vCo v) s) := fun σ => Qax (Qam (Qco hv))
  have f2 : ∀ σ, fz 0 σ fzD (vSl (vSm v) x.list) = some (vSl (vSm v) x.list) := fun σ => Qax (Qam (Qgp hv))
  have hb : bnd dp = 140737488351232 + 102 * (43 - dp) := rfl
  by_cases c1 : n ≤ 100
  ·have i1 : eI 11 (.int .i64 p.length) (vSl (vSm v) x.list) = some (.eptr (smC v y) 0) := Qav (f := vSm v) hp rfl rfl
   have l3 : eL [] false 1 (.eptr (smC v y) 3) = some (.str y.name) := rfl
   have l2 : eL [] false 1 (.eptr (smC v y) 2) = some (.str y.pre) := rfl
   have l5 : eL [] false 1 (.eptr (smC v y) 5) = some (.str y.text) := rfl
   have l10 : eL [] false 1 (.eptr (smC v y) 10) = some (vSl v y.of) := by
    show Option.map V.ng (some (vSl v y.of)) = _
    rw [Qak, Qah]
   generalize smC v y = C at i1 l3 l2 l5 l10
   by_cases g1 : 100 < (y.name.length : Int)
   ·refine ⟨101, ?_, hP⟩
    rw [u_Z30_2]
    clear hE hc
    simp +contextual -implicitDefEqProofs (disch := first | assumption | omega | (simp -implicitDefEqProofs only [go_sem]; try omega)) only [↓reduceIte, go_sem, iP, iN, w64, w8, w32, b_Z30_2, e1, f1, f2, Qae, Qah, c1, i1, l3, l2, l5, l10, g1]
   by_cases g2 : 100 < (y.pre.length : Int)
   ·refine ⟨101, ?_, hP⟩
    rw [u_Z30_2]
    clear hE hc
    simp +contextual -implicitDefEqProofs (disch := first | assumption | omega | (simp -implicitDefEqProofs only [go_sem]; try omega)) only [↓reduceIte, go_sem, iP, iN, w64, w8, w32, b_Z30_2, e1, f1, f2, Qae, Qah, c1, i1, l3, l2, l5, l10, g1, g2]
   by_cases g3 : 100 < (y.text.length : Int)
   ·refine ⟨101, ?_, hP⟩
    rw [u_Z30_2]
    clear hE hc
    simp +contextual -implicitDefEqProofs (disch := first | assumption | omega | (simp -implicitDefEqProofs only [go_sem]; try omega)) only [↓reduceIte, go_sem, iP, iN, w64, w8, w32, b_Z30_2, e1, f1, f2, Qae, Qah, c1, i1, l3, l2, l5, l10, g1, g2, g3]
   by_cases g4 : 40 < dp
   ·refine ⟨101, ?_, hP⟩
    rw [u_Z30_2]
    clear hE hc
    simp +contextual -implicitDefEqProofs (disch := first | assumption | omega | (simp -implicitDefEqProofs only [go_sem]; try omega)) only [↓reduceIte, go_sem, iP, iN, w64, w8, w32, b_Z30_2, e1, f1, f2, Qae, Qah, c1, i1, l3, l2, l5, l10, g1, g2, g3, g4]
   obtain ⟨m, hm1, hm2, hm3, hm4⟩ := hE (by omega) y (by rw [hp]; simp)
   have hb2 : bnd (dp + 1) = 140737488351232 + 102 * (43 - (dp + 1)) := rfl
   obtain ⟨q, k1, k2⟩ := Wbq hdp s x hx i k r1 r2 Post hP hE r (p ++ [y]) (n + 1 + m) (by rw [hp]; simp) (by omega) (by omega) (fun n' w1 w2 w3 => hc n' w1 w2 fun w4 => by
    obtain ⟨z1, z2⟩ := w3 w4
    obtain ⟨z3, z4⟩ := hm4 (by omega)
    refine ⟨fun y' hy' => ?_, ?_⟩
    ·rcases List.mem_cons.1 hy' with rfl | hy'
     ·exact ⟨by omega, by omega, by omega, by omega, z3⟩
     ·exact z1 y' hy'
    ·show n' = n + ((1 + t0 y.of + tX t0 r : Nat) : Int)
     omega) hk
   refine ⟨q, ?_, k2⟩
   rw [show ((p ++ [y]).length : Int) = p.length + 1 by simp] at k1
   rw [u_Z30_2]
   clear hE hc
   simp +contextual -implicitDefEqProofs (disch := first | assumption | omega | (simp -implicitDefEqProofs only [go_sem]; try omega)) only [↓reduceIte, go_sem, iP, iN, w64, w8, w32, b_Z30_2, e1, f1, f2, Qae, Qah, c1, i1, l3, l2, l5, l10, g1, g2, g3, g4, hm1, k1]
  ·obtain ⟨q, h1, h2⟩ := hc n hn hn2 (fun h => absurd h c1)
   refine ⟨q, ?_, h2⟩
   rw [u_Z30_2]
   simp +contextual -implicitDefEqProofs (disch := first | assumption | omega | (simp -implicitDefEqProofs only [go_sem]; try omega)) only [↓reduceIte, go_sem, iP, iN, w64, w8, w32, b_Z30_2, e1, f1, f2, Qae, Qah, c1, h1]
theorem Wbr (hdp : 0 ≤ dp ∧ dp ≤ 41) (s : Sl (Co α)) (c : Co α) (i : Int) (hi : 0 ≤ i ∧ i ≤ 140737488351232) (hic : eI 1 (.int .i64 i) (vSl (vCo v) s) = some (.eptr (coC v c) 0)) (r1 : Rk) (Post : Int → Prop) (hP : Post 101) (hRc : RC c) (hE : dp ≤ 40 → ∀ x ∈ c.list.l, ∀ y ∈ x.list.l, Wew t0 b0 v dp y.of) : ∀ (r p : List (Cp α)) (n : Int), c.list.l = p ++ r → 0 ≤ n → n ≤ bnd dp →
  (∀ n', 0 ≤ n' → n' ≤ bnd dp → (n' ≤ 100 → (∀ x ∈ r, gX b0 dp x) ∧ n' = n + tC t0 r) → ∃ q, r1 [vSl (vCo v) s, .int .i64 100, .int .i64 dp, .int .i64 n', .int .i64 (i + 1)] [] = some (.int .i64 q, []) ∧ Post q) →
  ∃ q, l_Z30_1 (Mi cx) 0 0 r1 0 [vSl (vCo v) s, .int .i64 100, .int .i64 dp, .int .i64 n, .int .i64 i, .int .i64 p.length] [] = some (.int .i64 q, []) ∧ Post q
 | [], p, n, hp, hn, hn2, hc => by
  have hlen : c.list.l.length = p.length := by rw [hp]; simp
  have e1 : ¬ (p.length : Int) < c.list.l.length := by omega
  have f1 : ∀ σ, fz 0 σ fzD (vSl (vCo v) s) = some (vSl (vCo v) s) := fun σ => Qax (Qam (Qco hv))
  have l1 : eL [] false 1 (.eptr (coC v c) 0) = some (vSl (vCp v) c.list) := by
   show Option.map V.ng (some (vSl (vCp v) c.list)) = _
   rw [Qak, Qah]
  obtain ⟨q, h1, h2⟩ := hc n hn hn2 (fun _ => ⟨fun y hy => (by cases hy), by show n = n + ((0 : Nat) : Int); omega⟩)
  refine ⟨q, ?_, h2⟩
  rw [u_Z30_1]
  generalize coC v c = C at hic l1
  simp +contextual -implicitDefEqProofs (disch := first | assumption | omega | (simp -implicitDefEqProofs only [go_sem]; try omega)) only [↓reduceIte, go_sem, iP, iN, w64, w8, w32, b_Z30_1, e1, f1, Qae, Qah, hic, l1, h1]
 | x :: r, p, n, hp, hn, hn2, hc => by
  have hlen : c.list.l.length = p.length + r.length + 1 := by rw [hp]; simp; omega
  have hcl := hRc.1
  have e1 : (p.length : Int) < c.list.l.length := by omega
  have f1 : ∀ σ, fz 0 σ fzD (vSl (vCo v) s) = some (vSl (vCo v) s) := fun σ => Qax (Qam (Qco hv))
  have f2 : ∀ σ, fz 0 σ fzD (vSl (vSm v) x.list) = some (vSl (vSm v) x.list) := fun σ => Qax (Qam (Qgp hv))
  have l1 : eL [] false 1 (.eptr (coC v c) 0) = some (vSl (vCp v) c.list) := by
   show Option.map V.ng (some (vSl (vCp v) c.list)) = _
   rw [Qak, Qah]
  have hx := hRc.2 x (by rw [hp]; simp)
  by_cases c1 : n ≤ 100
  ·have i1 : eI 2 (.int .i64 p.length) (vSl (vCp v) c.list) = some (.eptr (cpC v x) 0) := Qav (f := vCp v) hp rfl rfl
   have l2 : eL [] false 1 (.eptr (cpC v x) 1) = some (vSl (vSm v) x.list) := by
    show Option.map V.ng (some (vSl (vSm v) x.list)) = _
    rw [Qak, Qah]
   obtain ⟨q, k1, k2⟩ := Wbq hv t0 b0 dp hdp s x hx i p.length r1 (l_Z30_1 (Mi cx) 0 0 r1 0) Post hP (fun h y hy => hE h x (by rw [hp]; simp) y hy) x.list.l [] n rfl hn hn2 (fun n' w1 w2 w3 => by
    have ih := Wbr hdp s c i hi hic r1 Post hP hRc hE r (p ++ [x]) n' (by rw [hp]; simp) w1 w2 (fun m v1 v2 v3 => hc m v1 v2 fun v4 => by
     obtain ⟨z1, z2⟩ := v3 v4
     obtain ⟨z3, z4⟩ := w3 (by omega)
     refine ⟨fun x' hx' => ?_, ?_⟩
     ·rcases List.mem_cons.1 hx' with rfl | hx'
      ·exact z3
      ·exact z1 x' hx'
     ·show m = n + ((tX t0 x.list.l + tC t0 r : Nat) : Int)
      omega)
    rw [show ((p ++ [x]).length : Int) = p.length + 1 by simp] at ih
    exact ih) (by omega)
   refine ⟨q, ?_, k2⟩
   have k1' : l_Z30_2 (Mi cx) 0 0 r1 0 (l_Z30_1 (Mi cx) 0 0 r1 0) 0 [vSl (vCo v) s, .int .i64 100, .int .i64 dp, .int .i64 n, .int .i64 i, .int .i64 p.length, vSl (vSm v) x.list, .int .i64 0] [] = some (.int .i64 q, []) := k1
   clear k1 hE hc
   rw [u_Z30_1]
   generalize coC v c = C at hic l1
   generalize cpC v x = X at i1 l2
   simp +contextual -implicitDefEqProofs (disch := first | assumption | omega | (simp -implicitDefEqProofs only [go_sem]; try omega)) only [↓reduceIte, go_sem, iP, iN, w64, w8, w32, b_Z30_1, e1, f1, f2, Qae, Qah, c1, hic, l1, i1, l2, k1']
  ·obtain ⟨q, h1, h2⟩ := hc n hn hn2 (fun h => absurd h c1)
   refine ⟨q, ?_, h2⟩
   rw [u_Z30_1]
   generalize coC v c = C at hic l1
   simp +contextual -implicitDefEqProofs (disch := first | assumption | omega | (simp -implicitDefEqProofs only [go_sem]; try omega)) only [↓reduceIte, go_sem, iP, iN, w64, w8, w32, b_Z30_1, e1, f1, Qae, Qah, c1, hic, l1, h1]
theorem Wbs (hdp : 0 ≤ dp ∧ dp ≤ 41) (s : Sl (Co α)) (hs : s.l.length ≤ 140737488351232) (hRc : ∀ c ∈ s.l, RC c) (hE : dp ≤ 40 → ∀ c ∈ s.l, ∀ x ∈ c.list.l, ∀ y ∈ x.list.l, Wew t0 b0 v dp y.of) : ∀ (r p : List (Co α)) (n : Int), s.l = p ++ r → 0 ≤ n → n ≤ bnd dp →
  ∃ q : Int, l_Z30_0 (Mi cx) 0 0 [vSl (vCo v) s, .int .i64 100, .int .i64 dp, .int .i64 n, .int .i64 p.length] [] = some (.int .i64 q, []) ∧ 0 ≤ q ∧ q ≤ bnd dp ∧ (q ≤ 100 → (∀ c ∈ r, c.list.l.length ≤ 100 ∧ gC b0 dp c) ∧ q = n + tS t0 r)
 | [], p, n, hp, hn, hn2 => by
  have hlen : s.l.length = p.length := by rw [hp]; simp
  have e1 : ¬ (p.length : Int) < s.l.length := by omega
  refine ⟨n, ?_, hn, hn2, fun _ => ⟨fun y hy => (by cases hy), by show n = n + ((0 : Nat) : Int); omega⟩⟩
  rw [u_Z30_0]
  simp +contextual -implicitDefEqProofs (disch := first | assumption | omega | (simp -implicitDefEqProofs only [go_sem]; try omega)) only [↓reduceIte, go_sem, iP, iN, w64, w8, w32, b_Z30_0, e1, Qae, Qah]
 | c :: r, p, n, hp, hn, hn2 => by
  have hlen : s.l.length = p.length + r.length + 1 := by rw [hp]; simp; omega
  have e1 : (p.length : Int) < s.l.length := by omega
  have f1 : ∀ σ, fz 0 σ fzD (vSl (vCo v) s) = some (vSl (vCo v) s) := fun σ => Qax (Qam (Qco hv))
  have hc := hRc c (by rw [hp]; simp)
  have hcl := hc.1
  have hb : bnd dp = 140737488351232 + 102 * (43 - dp) := rfl
  by_cases c1 : n ≤ 100
  ·have i1 : eI 1 (.int .i64 p.length) (vSl (vCo v) s) = some (.eptr (coC v c) 0) := Qav (f := vCo v) hp rfl rfl
   have l1 : eL [] false 1 (.eptr (coC v c) 0) = some (vSl (vCp v) c.list) := by
    show Option.map V.ng (some (vSl (vCp v) c.list)) = _
    rw [Qak, Qah]
   obtain ⟨q, k1, k2, k3, k4⟩ := Wbr hv t0 b0 dp hdp s c p.length (by omega) i1 (l_Z30_0 (Mi cx) 0 0) (fun q => 0 ≤ q ∧ q ≤ bnd dp ∧ (q ≤ 100 → (∀ c' ∈ c :: r, c'.list.l.length ≤ 100 ∧ gC b0 dp c') ∧ q = n + tS t0 (c :: r))) ⟨by omega, by omega, fun h => by omega⟩ hc (fun h x hx y hy => hE h c (by rw [hp]; simp) x hx y hy) c.list.l [] (n + c.list.l.length) rfl (by omega) (by omega) (fun n' w1 w2 w3 => by
    obtain ⟨q, g1, g2, g3, g4⟩ := Wbs hdp s hs hRc hE r (p ++ [c]) n' (by rw [hp]; simp) w1 w2
    rw [show ((p ++ [c]).length : Int) = p.length + 1 by simp] at g1
    refine ⟨q, g1, g2, g3, fun g5 => ?_⟩
    obtain ⟨z1, z2⟩ := g4 g5
    obtain ⟨z3, z4⟩ := w3 (by omega)
    refine ⟨fun c' hc' => ?_, ?_⟩
    ·rcases List.mem_cons.1 hc' with rfl | hc'
     ·exact ⟨by omega, z3⟩
     ·exact z1 c' hc'
    ·show q = n + ((c.list.l.length + tC t0 c.list.l + tS t0 r : Nat) : Int)
     omega)
   refine ⟨q, ?_, k2, k3, k4⟩
   have k1' : l_Z30_1 (Mi cx) 0 0 (l_Z30_0 (Mi cx) 0 0) 0 [vSl (vCo v) s, .int .i64 100, .int .i64 dp, .int .i64 (n + c.list.l.length), .int .i64 p.length, .int .i64 0] [] = some (.int .i64 q, []) := k1
   clear k1 k4 hE hRc
   rw [u_Z30_0]
   generalize coC v c = C at i1 l1
   simp +contextual -implicitDefEqProofs (disch := first | assumption | omega | (simp -implicitDefEqProofs only [go_sem]; try omega)) only [↓reduceIte, go_sem, iP, iN, w64, w8, w32, b_Z30_0, e1, f1, Qae, Qah, c1, i1, l1, k1']
  ·refine ⟨n, ?_, hn, hn2, fun h => absurd h c1⟩
   rw [u_Z30_0]
   simp +contextual -implicitDefEqProofs (disch := first | assumption | omega | (simp -implicitDefEqProofs only [go_sem]; try omega)) only [↓reduceIte, go_sem, iP, iN, w64, w8, w32, b_Z30_0, e1, Qae, Qah, c1]
end
def tot : (k : Nat) → Sl (Cx k) → Nat
 | 0, s => 0
 | k + 1, s => s.l.length + tS (tot k) s.l
theorem Wbt {α : Type} (t0 : Sl α → Nat) : ∀ l : List (Sm α), l.length ≤ tX t0 l
 | [] => Nat.le_refl _
 | y :: r => by
  have := Wbt t0 r
  show r.length + 1 ≤ 1 + t0 y.of + tX t0 r
  omega
theorem Wh7 {α : Type} (t0 : Sl α → Nat) {x : Cp α} : ∀ {l : List (Cp α)}, x ∈ l → tX t0 x.list.l ≤ tC t0 l
 | [], h => by cases h
 | y :: r, h => by
  show _ ≤ tX t0 y.list.l + tC t0 r
  rcases List.mem_cons.1 h with rfl | h
  ·omega
  ·have := Wh7 t0 h; omega
theorem Wh8 {α : Type} (t0 : Sl α → Nat) {c : Co α} : ∀ {l : List (Co α)}, c ∈ l → tC t0 c.list.l ≤ tS t0 l
 | [], h => by cases h
 | y :: r, h => by
  show _ ≤ y.list.l.length + tC t0 y.list.l + tS t0 r
  rcases List.mem_cons.1 h with rfl | h
  ·omega
  ·have := Wh8 t0 h; omega
theorem Qxi : ∀ (k : Nat) (dp : Int) (s : Sl (Cx k)), 0 ≤ dp ∧ dp ≤ 41 → SlOk (CxOk k) s → ∃ r : Int, E cx 49 [vSl (vCx k) s, .int .i64 100, .int .i64 dp] [] = some (.int .i64 r, []) ∧ 0 ≤ r ∧ r ≤ bnd dp ∧ (r ≤ 100 → Bd (41 - dp).toNat k s ∧ s.l.length ≤ 100 ∧ r = tot k s)
 | 0, dp, s, hdp, hs => by
  have e := sl0 (α := Cx 0) (fun x => Empty.elim x) s
  refine ⟨0, ?_, by omega, by show (0 : Int) ≤ 140737488351232 + 102 * (43 - dp); omega, fun _ => ⟨trivial, by rw [e]; simp, rfl⟩⟩
  have f1 : ∀ σ, fz 0 σ fzD (vSl (vCx 0) s) = some (vSl (vCx 0) s) := fun σ => Qax Qc5
  have hl : (s.l.length : Int) = 0 := by rw [e]; rfl
  have h0 : l_Z30_0 (Mi cx) 0 0 [vSl (vCx 0) s, .int .i64 100, .int .i64 dp, .int .i64 0, .int .i64 0] [] = some (.int .i64 0, []) := by
   rw [u_Z30_0]
   simp +contextual -implicitDefEqProofs (disch := first | assumption | omega | (simp -implicitDefEqProofs only [go_sem]; try omega)) only [↓reduceIte, go_sem, iP, iN, w64, w8, w32, b_Z30_0, Qae, Qah, hl]
  rw [e_Z30]
  simp +contextual -implicitDefEqProofs (disch := first | assumption | omega | (simp -implicitDefEqProofs only [go_sem]; try omega)) only [↓reduceIte, go_sem, iP, iN, w64, w8, w32, s_Z30, f1, Qae, Qah, hl, h0]
 | k + 1, dp, s, hdp, hs => by
  have hRc : ∀ c ∈ s.l, RC (α := Cx k) c := fun c hc => ⟨(hs.2 c hc).1, fun x hx => ⟨((hs.2 c hc).2 x hx).2.1, fun y hy => by
   have := ((hs.2 c hc).2 x hx).2.2 y hy
   exact ⟨this.2.2.1, this.2.2.2.1, this.2.2.2.2.2.1⟩⟩⟩
  have hb : bnd dp = 140737488351232 + 102 * (43 - dp) := rfl
  have hsl : s.l.length ≤ 140737488351232 := hs.1
  obtain ⟨q, k1, k2, k3, k4⟩ := Wbs (v := vCx k) (Qdv k · ·) (tot k) (Bd (41 - (dp + 1)).toNat k) dp hdp s hsl hRc (fun h c hc x hx y hy => by
   have hy' := ((hs.2 c hc).2 x hx).2.2 y hy
   obtain ⟨r, g1, g2, g3, g4⟩ := Qxi k (dp + 1) y.of (by omega) hy'.2.2.2.2.2.2.2.2.2
   exact ⟨r, g1, g2, g3, fun h => ⟨(g4 h).1, (g4 h).2.2⟩⟩) s.l [] s.l.length rfl (by omega) (by omega)
  refine ⟨q, ?_, k2, k3, fun h => ?_⟩
  ·have f1 : ∀ σ, fz 0 σ fzD (vSl (vCx (k + 1)) s) = some (vSl (vCx (k + 1)) s) := fun σ => Qax Qc5
   have k1' : l_Z30_0 (Mi cx) 0 0 [vSl (vCx (k + 1)) s, .int .i64 100, .int .i64 dp, .int .i64 s.l.length, .int .i64 0] [] = some (.int .i64 q, []) := k1
   clear k1
   rw [e_Z30]
   simp +contextual -implicitDefEqProofs (disch := first | assumption | omega | (simp -implicitDefEqProofs only [go_sem]; try omega)) only [↓reduceIte, go_sem, iP, iN, w64, w8, w32, s_Z30, f1, Qae, Qah, k1']
  ·obtain ⟨z1, z2⟩ := k4 h
   have hl : s.l.length ≤ 100 := by omega
   refine ⟨⟨by omega, fun c hc => ⟨by have := (z1 c hc).1; omega, fun x hx => ⟨?_, fun y hy => ?_⟩⟩⟩, hl, by show q = ((s.l.length + tS (tot k) s.l : Nat) : Int); omega⟩
   ·have h1 := Wbt (tot k) x.list.l
    have h2 := Wh7 (tot k) hx
    have h3 := Wh8 (tot k) hc
    omega
   ·obtain ⟨a1, a2, a3, a4, a5⟩ := (z1 c hc).2 x hx y hy
    refine ⟨a1, a2, a3, by omega, ?_⟩
    rw [show (41 - dp).toNat - 1 = (41 - (dp + 1)).toNat by omega]
    exact a5
theorem Wex {k : Nat} (s : Sl (Cx k)) (hs : SlOk (CxOk k) s) : ∃ g : Bool, (∀ σ, Wf σ → E cx 28 [vSl (vCx k) s, .int .i64 100] σ = some (.bool g, σ)) ∧ (g = false → Bd 41 k s ∧ s.l.length ≤ 100 ∧ tot k s ≤ 100) := by
 obtain ⟨r, h1, h2, h3, h4⟩ := Qxi k 0 s (by omega) hs
 refine ⟨decide (100 < r), fun σ hσ => ?_, fun h => ?_⟩
 ·refine Qbv Qbm ?_ (by rw [Qaf, Qc5]; rfl) rfl σ hσ
  rw [e_Z2t]
  simp +contextual -implicitDefEqProofs (disch := first | assumption | omega | (simp -implicitDefEqProofs only [go_sem]; try omega)) only [↓reduceIte, go_sem, iP, iN, w64, w8, w32, s_Z2t, h1, Qah]
 ·have h5 : r ≤ 100 := by have := of_decide_eq_false h; omega
  obtain ⟨a1, a2, a3⟩ := h4 h5
  exact ⟨a1, a2, by omega⟩
def vNl (n : Nms) : List (List UInt8) := n.pres.l ++ n.spaces.l
def gnS (n : Nms) : Bool := decide (30 < n.pres.l.length) || decide (30 < n.spaces.l.length) || decide (100 < n.dflt.length) || (vNl n).any fun s => decide (100 < s.length)
theorem Wku {n : Nms} (h : gnS n = false) : NmB n := by
 unfold gnS at h
 simp only [Bool.or_eq_false_iff, decide_eq_false_iff_not, List.any_eq_false, decide_eq_true_eq] at h
 obtain ⟨⟨⟨h1, h2⟩, h3⟩, h4⟩ := h
 refine ⟨by omega, by omega, by omega, fun x hx => ?_, fun x hx => ?_⟩
 ·have := h4 x (List.mem_append_left _ hx); omega
 ·have := h4 x (List.mem_append_right _ hx); omega
theorem Qse (l : List (List UInt8)) (hl : l.length ≤ 60) (cb : Cap) (c : List V) (hc : V.rbs 1 c = true) : ∀ (r p : List (List UInt8)), l = p ++ r →
  l_Z1m_0 (Mi cx) 0 1 [.sl (l.map V.str) cb, .int .i64 l.length, .int .i64 p.length] [.cells c] = some (.bool (r.any fun s => decide (100 < s.length)), [])
 | [], p, hp => by
  have hlen : l.length = p.length := by rw [hp]; simp
  have e1 : ¬ (p.length : Int) < l.length := by omega
  rw [u_Z1m_0]
  simp +contextual -implicitDefEqProofs (disch := first | assumption | omega | (simp -implicitDefEqProofs only [go_sem]; try omega)) only [↓reduceIte, go_sem, iP, iN, w64, w8, w32, b_Z1m_0, e1, List.any_nil]
 | s :: r, p, hp => by
  have hlen : l.length = p.length + r.length + 1 := by rw [hp]; simp; omega
  have e1 : (p.length : Int) < l.length := by omega
  have i1 : eI 1 (.int .i64 p.length) (.sl (l.map V.str) .no) = some (.eptr [.str s] 0) := Qav (f := V.str) (s := .row l) hp rfl rfl
  have f1 : ∀ σ, fz 1 σ fzD (.sl (l.map V.str) cb) = some (.sl (l.map V.str) cb) := fun σ => Qax (show V.rbs 1 _ = true from Qg6 (s := .row l))
  have ih := Qse l hl cb c hc r (p ++ [s]) (by rw [hp]; simp)
  rw [show ((p ++ [s]).length : Int) = p.length + 1 by simp] at ih
  rw [u_Z1m_0, List.any_cons]
  by_cases c1 : 100 < (s.length : Int)
  ·have c1' : 100 < s.length := by omega
   rw [decide_eq_true c1', Bool.true_or]
   simp +contextual -implicitDefEqProofs (disch := first | assumption | omega | (simp -implicitDefEqProofs only [go_sem]; try omega)) only [↓reduceIte, go_sem, iP, iN, w64, w8, w32, b_Z1m_0, e1, i1, c1]
  ·have c1' : ¬ 100 < s.length := by omega
   rw [decide_eq_false c1', Bool.false_or]
   simp +contextual -implicitDefEqProofs (disch := first | assumption | omega | (simp -implicitDefEqProofs only [go_sem]; try omega)) only [↓reduceIte, go_sem, iP, iN, w64, w8, w32, b_Z1m_0, e1, i1, f1, c1, ih]
end Go.Proofs.YtapnplljnpconaaGreatDoor
namespace Go.Ev
mutual
theorem V.beq_refl : ∀ x : V, V.beq x x = true
 | .any | .undef | .nilp | .nils | .nili | .nilf | .nilm => rfl
 | .bool b => by simp [V.beq]
 | .int k n => by simp [V.beq]
 | .str s => by simp [V.beq]
 | .ptr o off => by simp [V.beq]
 | .mp o => by simp [V.beq]
 | .hs o off len sz ag => by simp [V.beq]
 | .eptr cs off => by simp [V.beq, V.beqs_refl cs]
 | .sl cs c => by simp [V.beq, V.beqs_refl cs]
 | .agg cs => by simp [V.beq, V.beqs_refl cs]
 | .tup cs => by simp [V.beq, V.beqs_refl cs]
 | .ifc t x => by simp [V.beq, V.beq_refl x]
 | .fn f a b => by simp [V.beq, V.beqs_refl a, V.beqs_refl b]
theorem V.beqs_refl : ∀ xs : List V, V.beqs xs xs = true
 | [] => rfl
 | x :: xs => by simp [V.beqs, V.beq_refl x, V.beqs_refl xs]
end
theorem Wey {ag : Bool} {sz o off : Nat} {σ : Objs} : Qj3 [Qe4 ag sz (.ptr o off)] σ = some σ := rfl
theorem Qxj {ag : Bool} {sz o off : Nat} {σ : Objs} {cs : List V} (h : Objs.get σ o = some cs) : Qg2 [Qe4 ag sz (.ptr o off)] σ σ = some σ := by
 have e : stable σ σ (.same false o off (if ag then sz else 1)) = true := by
  simp only [stable, h, decide_true, Bool.true_and]
  rw [if_neg (by decide)]
  exact V.beqs_refl _
 show (if (stable σ σ (.same false o off (if ag then sz else 1)) && true) = true then some σ else none) = _
 rw [e]; rfl
attribute [go_sem] Wey
theorem Qxk {α : Type} {f : α → V} {ag : Bool} {sz bytes : Nat} {σ : Objs} {l : List α} {c : Cap} {s : Sl α} (hf : ∀ x, (f x).cells.length = sz) (ho : ∀ x, Qal (f x).cells = true) (ha : ∀ x, agOk ag (f x) = true) (hc : c = .fx ∨ c = .gr sz) (hl : (l.length + s.l.length) * bytes ≤ Qb0) :
  ∃ c', appV false ag sz bytes σ (.sl (l.map f) c) (vSl f s) = some (.sl ((l ++ s.l).map f) c') ∧ (c' = .fx ∨ c' = .gr sz) := by
 by_cases hs : s.l = []
 ·refine ⟨c, ?_, hc⟩
  rw [hs, List.append_nil]
  unfold appV
  simp only [Qes, Bool.false_eq_true, if_false, Qw1, hs, List.map_nil, Option.bind_eq_bind, Option.bind_some]
  unfold Qdi
  rw [Qoa, if_pos rfl]
 ·refine ⟨.gr sz, ?_, .inr rfl⟩
  cases s with
  | nil => exact absurd rfl hs
  | row m => exact Qmu hf ho ha hc hs hl
end Go.Ev
namespace Go.Proofs.YtapnplljnpconaaGreatDoor
open Go.Ev
set_option maxRecDepth 100000
set_option maxHeartbeats 4000000
theorem Qoy (n : Nms) (σ : Objs) (hσ : Wf σ) : E cx 27 [.agg (Qaa n)] σ = some (.bool (gnS n), σ) := by
 refine Qbv Qbm ?_ (by simp only [Qaf, Qa3, Qai]; rfl) rfl σ hσ
 have hm : Qb0 = 140737488355328 := rfl
 have h1 : boxV [] (.agg (Qaa n)) = some (.ptr 0 0, [.cells (Qaa n)]) := Qa0 ok_n no_n
 have l2 : eL [.cells (Qaa n)] false 1 (.ptr 0 2) = some (vSl V.str n.pres) := by
  show Option.map V.ng (some (vSl V.str n.pres)) = _
  rw [Qak, Qah]
 have l3 : eL [.cells (Qaa n)] false 1 (.ptr 0 3) = some (vSl V.str n.spaces) := by
  show Option.map V.ng (some (vSl V.str n.spaces)) = _
  rw [Qak, Qah]
 have l1 : eL [.cells (Qaa n)] false 1 (.ptr 0 1) = some (.str n.dflt) := rfl
 have o1 : Qg2 [Qe4 false 1 (.ptr 0 3)] [.cells (Qaa n)] [.cells (Qaa n)] = some [.cells (Qaa n)] := Qxj rfl
 have hw : V.rbs 1 (Qaa n) = true := Qai
 rw [e_Z1m]
 unfold gnS
 generalize Qaa n = N at *
 by_cases c1 : 30 < (n.pres.l.length : Int)
 case pos =>
  rw [decide_eq_true (show 30 < n.pres.l.length by omega), Bool.true_or, Bool.true_or, Bool.true_or]
  simp +contextual -implicitDefEqProofs (disch := first | assumption | omega | (simp -implicitDefEqProofs only [go_sem]; try omega)) only [↓reduceIte, go_sem, iP, iN, w64, w8, w32, s_Z1m, h1, l1, l2, l3, c1, Qae, Qah]
 rw [decide_eq_false (show ¬ 30 < n.pres.l.length by omega), Bool.false_or]
 by_cases c2 : 30 < (n.spaces.l.length : Int)
 case pos =>
  rw [decide_eq_true (show 30 < n.spaces.l.length by omega), Bool.true_or, Bool.true_or]
  simp +contextual -implicitDefEqProofs (disch := first | assumption | omega | (simp -implicitDefEqProofs only [go_sem]; try omega)) only [↓reduceIte, go_sem, iP, iN, w64, w8, w32, s_Z1m, h1, l1, l2, l3, c1, c2, Qae, Qah]
 rw [decide_eq_false (show ¬ 30 < n.spaces.l.length by omega), Bool.false_or]
 by_cases c3 : 100 < (n.dflt.length : Int)
 case pos =>
  rw [decide_eq_true (show 100 < n.dflt.length by omega), Bool.true_or]
  simp +contextual -implicitDefEqProofs (disch := first | assumption | omega | (simp -implicitDefEqProofs only [go_sem]; try omega)) only [↓reduceIte, go_sem, iP, iN, w64, w8, w32, s_Z1m, h1, l1, l2, l3, c1, c2, c3, Qae, Qah]
 rw [decide_eq_false (show ¬ 100 < n.dflt.length by omega), Bool.false_or]
 obtain ⟨ca, a1, a2⟩ := Qxk (f := V.str) (ag := false) (sz := 1) (bytes := 16) (σ := [.cells N]) (l := []) (c := .fx) (s := n.pres) (fun _ => rfl) (fun _ => rfl) (fun _ => rfl) (.inl rfl) (by simp; omega)
 obtain ⟨cb, b1, b2⟩ := Qxk (f := V.str) (ag := false) (sz := 1) (bytes := 16) (σ := [.cells N]) (l := n.pres.l) (c := ca) (s := n.spaces) (fun _ => rfl) (fun _ => rfl) (fun _ => rfl) a2 (by omega)
 rw [List.map_nil, List.nil_append] at a1
 have hl := Qse (vNl n) (by unfold vNl; rw [List.length_append]; omega) cb N hw (vNl n) [] rfl
 have hl' : l_Z1m_0 (Mi cx) 0 1 [.sl ((n.pres.l ++ n.spaces.l).map V.str) cb, .int .i64 (vNl n).length, .int .i64 0] [.cells N] = some (.bool ((vNl n).any fun s => decide (100 < s.length)), []) := hl
 rw [show (vNl n).length = (List.map V.str (n.pres.l ++ n.spaces.l)).length by rw [List.length_map]; rfl] at hl'
 have e5 : Qan (.sl ((n.pres.l ++ n.spaces.l).map V.str) cb) = some (.int .i64 (vNl n).length) := by
  rw [Wa5, List.length_map]; rfl
 have e6 : fz 1 [.cells N] fzD (.sl ((n.pres.l ++ n.spaces.l).map V.str) cb) = some (.sl ((n.pres.l ++ n.spaces.l).map V.str) cb) := Qax (by show V.rbs 1 _ = true; exact Qg6 (s := .row (n.pres.l ++ n.spaces.l)))
 simp +contextual -implicitDefEqProofs (disch := first | assumption | omega | (simp -implicitDefEqProofs only [go_sem]; try omega)) only [↓reduceIte, go_sem, iP, iN, w64, w8, w32, s_Z1m, h1, l1, l2, l3, c1, c2, c3, Qae, Qah, o1, a1, b1, e6, hl']
theorem Wak (n : Nms) {k : Nat} (L : Sl (Sl (Cx k))) (hL : SlOk (SlOk (CxOk k)) L) : ∃ g : Bool, (∀ σ, Wf σ → E cx 7 [vSl (vSl (vCx k)) L, .agg (Qaa n), .int .i64 100] σ = some (.bool g, σ)) ∧
  (g = false → L.l.length ≤ 4 ∧ NmB n ∧ ∀ s ∈ L.l, Bd 41 k s ∧ s.l.length ≤ 100 ∧ tot k s ≤ 100) := by
 have hLl : L.l.length ≤ 140737488351232 := hL.1
 have hrb : ∀ j x, V.rb j (vSl (vCx k) x) = true := fun j x => Qc5
 have hw : V.rbs 1 (Qaa n) = true := Qai
 have f1 : ∀ σ, fz 1 σ fzD (vSl (vSl (vCx k)) L) = some (vSl (vSl (vCx k)) L) := fun σ => Qax (Qam hrb)
 have loop : ∀ (r p : List (Sl (Cx k))), L.l = p ++ r → ∃ g : Bool, l_Z1p_0 (Mi cx) 0 1 [.int .i64 100, vSl (vSl (vCx k)) L, .int .i64 L.l.length, .int .i64 p.length] [.cells (Qaa n)] = some (.bool g, []) ∧ (g = false → ∀ s ∈ r, Bd 41 k s ∧ s.l.length ≤ 100 ∧ tot k s ≤ 100) := by
  intro r
  induction r with
  | nil =>
   intro p hp
   have hlen : L.l.length = p.length := by rw [hp]; simp
   have e1 : ¬ (p.length : Int) < L.l.length := by omega
   refine ⟨false, ?_, fun _ s hs => (by cases hs)⟩
   rw [u_Z1p_0]
   generalize Qaa n = N at *
   simp +contextual -implicitDefEqProofs (disch := first | assumption | omega | (simp -implicitDefEqProofs only [go_sem]; try omega)) only [↓reduceIte, go_sem, iP, iN, w64, w8, w32, b_Z1p_0, e1]
  | cons s r ih =>
   intro p hp
   have hlen : L.l.length = p.length + r.length + 1 := by rw [hp]; simp; omega
   have e1 : (p.length : Int) < L.l.length := by omega
   have i1 : eI 1 (.int .i64 p.length) (vSl (vSl (vCx k)) L) = some (.eptr [vSl (vCx k) s] 0) := by
    have := Qav (f := vSl (vCx k)) (sz := 1) (k := .i64) hp rfl (by rw [Qbw]; rfl)
    rw [Qbw] at this
    exact this
   have i2 : eL [.cells (Qaa n)] false 1 (.eptr [vSl (vCx k) s] 0) = some (vSl (vCx k) s) := by
    show Option.map V.ng (some (vSl (vCx k) s)) = _
    rw [Qak, Qah]
   obtain ⟨g, h1, h2⟩ := Wex s (hL.2 s (by rw [hp]; simp))
   have h1' := h1 [.cells (Qaa n)] (by rw [Qd5]; exact hw)
   cases g with
   | true =>
    refine ⟨true, ?_, fun h => (by cases h)⟩
    rw [u_Z1p_0]
    clear h1 ih
    generalize Qaa n = N at *
    simp +contextual -implicitDefEqProofs (disch := first | assumption | omega | (simp -implicitDefEqProofs only [go_sem]; try omega)) only [↓reduceIte, go_sem, iP, iN, w64, w8, w32, b_Z1p_0, e1, i1, i2, h1', Qah]
   | false =>
    obtain ⟨g, k1, k2⟩ := ih (p ++ [s]) (by rw [hp]; simp)
    rw [show ((p ++ [s]).length : Int) = p.length + 1 by simp] at k1
    refine ⟨g, ?_, fun h s' hs' => ?_⟩
    ·rw [u_Z1p_0]
     clear h1 ih
     generalize Qaa n = N at *
     simp +contextual -implicitDefEqProofs (disch := first | assumption | omega | (simp -implicitDefEqProofs only [go_sem]; try omega)) only [↓reduceIte, go_sem, iP, iN, w64, w8, w32, b_Z1p_0, e1, i1, i2, f1, h1', Qah, k1]
    ·rcases List.mem_cons.1 hs' with rfl | hs'
     ·exact h2 rfl
     ·exact k2 h s' hs'
 have h1 : boxV [] (.agg (Qaa n)) = some (.ptr 0 0, [.cells (Qaa n)]) := Qa0 ok_n no_n
 have l4 : eL [.cells (Qaa n)] true 4 (.ptr 0 0) = some (.agg (Qaa n)) := Qbx rfl rfl no_n
 have hW : Wf [.cells (Qaa n)] := by rw [Qd5]; exact hw
 have hg := Qoy n _ hW
 have hrbL : V.rbs 0 [vSl (vSl (vCx k)) L, .agg (Qaa n), .int .i64 100] = true := by simp only [Qaf, Qa3, Qai, Qam hrb]; rfl
 by_cases c1 : 4 < (L.l.length : Int)
 ·refine ⟨true, fun σ hσ => Qbv Qbm ?_ hrbL rfl σ hσ, fun h => (by cases h)⟩
  rw [e_Z1p]
  clear loop
  generalize Qaa n = N at *
  simp +contextual -implicitDefEqProofs (disch := first | assumption | omega | (simp -implicitDefEqProofs only [go_sem]; try omega)) only [↓reduceIte, go_sem, iP, iN, w64, w8, w32, s_Z1p, h1, l4, c1, Qae, Qah]
 ·cases c2 : gnS n with
  | true =>
   rw [c2] at hg
   refine ⟨true, fun σ hσ => Qbv Qbm ?_ hrbL rfl σ hσ, fun h => (by cases h)⟩
   rw [e_Z1p]
   clear loop
   generalize Qaa n = N at *
   simp +contextual -implicitDefEqProofs (disch := first | assumption | omega | (simp -implicitDefEqProofs only [go_sem]; try omega)) only [↓reduceIte, go_sem, iP, iN, w64, w8, w32, s_Z1p, h1, l4, c1, hg, Qae, Qah]
  | false =>
   rw [c2] at hg
   obtain ⟨g, k1, k2⟩ := loop L.l [] rfl
   have k1' : l_Z1p_0 (Mi cx) 0 1 [.int .i64 100, vSl (vSl (vCx k)) L, .int .i64 L.l.length, .int .i64 0] [.cells (Qaa n)] = some (.bool g, []) := k1
   refine ⟨g, fun σ hσ => Qbv Qbm ?_ hrbL rfl σ hσ, fun h => ⟨by omega, Wku c2, k2 h⟩⟩
   rw [e_Z1p]
   clear loop k1
   generalize Qaa n = N at *
   simp +contextual -implicitDefEqProofs (disch := first | assumption | omega | (simp -implicitDefEqProofs only [go_sem]; try omega)) only [↓reduceIte, go_sem, iP, iN, w64, w8, w32, s_Z1p, h1, l4, c1, hg, f1, Qae, Qah, k1']
end Go.Proofs.YtapnplljnpconaaGreatDoor
namespace Go.Ev
def slo {α : Type} : List α → Sl α
 | [] => .nil
 | x :: r => .row (x :: r)
theorem Qh0 {α : Type} : ∀ l : List α, (slo l).l = l
 | [] => rfl
 | _ :: _ => rfl
def vG {α : Type} (f : α → V) (sz : Nat) : List α → V
 | [] => .nils
 | x :: r => .sl ((x :: r).map f) (.gr sz)
section
variable {α : Type} {f : α → V} {sz : Nat} {l : List α}
theorem n_vG : (vG f sz l).ng = vSl f (slo l) := by cases l <;> rfl
theorem Qkk {n : Nat} (h : ∀ x, V.rb n (f x) = true) : V.rb n (vG f sz l) = true := by
 cases l with
 | nil => rfl
 | cons x r => exact Qoh (s := .row (x :: r)) fun y _ => h y
theorem Qkl {ag : Bool} {bytes : Nat} {σ : Objs} {x : α} {c : Cap} (hf : ∀ x, (f x).cells.length = sz) (ho : ∀ x, Qal (f x).cells = true) (ha : ∀ x, agOk ag (f x) = true) (hl : (l.length + 1) * bytes ≤ Qb0) :
  appV false ag sz bytes σ (vG f sz l) (.sl [f x] c) = some (vG f sz (l ++ [x])) := by
 cases l with
 | nil =>
  have h4 := Qog (l := [x]) hf ho ha
  have h4' : Qcz ag sz [f x] = true := h4
  unfold appV
  simp only [Qes, Bool.false_eq_true, if_false, Qh3, Option.bind_eq_bind, Option.bind_some]
  show Qdi ag sz bytes .nils [f x] = _
  unfold Qdi
  rw [h4', if_pos rfl]
  simp only [List.length_cons, List.length_nil]
  rw [if_neg (by simp), if_pos (by simpa using hl)]
  rfl
 | cons y r => exact Qmu (l := y :: r) (m := [x]) hf ho ha (.inr rfl) (by simp) hl
theorem Qm8 {cs : List V} {τ : Objs} {off : Nat} (h : cs[off]? = some (vG f sz l)) : Qcv (.cells cs :: τ) (.ptr 0 off) = some (vG f sz l, .cells (cs.set off (vSl f (slo l))) :: τ) := by
 have e : Qcv (.cells cs :: τ) (.ptr 0 off) = match vG f sz l with
  | .sl xs (.gr s) => some (.sl xs (.gr s), (O.cells cs :: τ).set 0 (.cells (cs.set off (.sl xs .no))))
  | .sl _ .lk => none
  | v => some (v, .cells cs :: τ) := by
  unfold Qcv
  simp only [Objs.get, List.getElem?_cons_zero, h, Option.bind_eq_bind, Option.bind_some]
  cases l <;> rfl
 rw [e]
 cases l with
 | nil =>
  show some (V.nils, O.cells cs :: τ) = some (V.nils, O.cells (cs.set off .nils) :: τ)
  have : cs.set off .nils = cs := by
   obtain ⟨hl, e⟩ := List.getElem?_eq_some_iff.1 h
   rw [← show cs[off] = V.nils from e]
   exact List.set_getElem_self _
  rw [this]
 | cons x r => rfl
end
structure Atm where
 kind : Int
 has : Bool
 space : List UInt8
 name : List UInt8
 op : Int
 text : List UInt8
 fold : Bool
 deriving DecidableEq
def atC (a : Atm) : List V := [.int .i64 a.kind, .bool a.has, .str a.space, .str a.name, .int .i64 a.op, .str a.text, .bool a.fold]
@[reducible] def vAtm (a : Atm) : V := .agg (atC a)
inductive Trm where
 | mk (kind n : Int) (ts : List Trm)
mutual
def vT : Trm → V
 | .mk k n ts => .agg [.int .i64 k, .int .i64 n, vTs ts]
def vTs : List Trm → V
 | [] => .nils
 | t :: r => .sl (vT t :: vTl r) .no
def vTl : List Trm → List V
 | [] => []
 | t :: r => vT t :: vTl r
end
theorem Qxl : ∀ l : List Trm, vTl l = l.map vT
 | [] => by simp only [vTl, List.map_nil]
 | t :: r => by simp only [vTl, List.map_cons, Qxl r]
theorem Wh9 : ∀ l : List Trm, vTs l = vSl vT (slo l)
 | [] => by simp only [vTs]; rfl
 | t :: r => by
  simp only [vTs, Qxl]
  rfl
def tmC : Trm → List V
 | .mk k n ts => [.int .i64 k, .int .i64 n, vSl vT (slo ts)]
theorem Qm9 (t : Trm) : vT t = .agg (tmC t) := by
 cases t with
 | mk k n ts => simp only [vT, Wh9, tmC]
mutual
theorem Qk3 {n : Nat} : ∀ t : Trm, V.rb n (vT t) = true
 | .mk k m ts => by
  simp only [vT, Qa3, Qaf, Qdl, Qb4, Bool.and_true, Bool.true_and]
  exact Wia ts
theorem Wia {n : Nat} : ∀ l : List Trm, V.rb n (vTs l) = true
 | [] => by simp only [vTs, Qvq]
 | t :: r => by
  simp only [vTs, Qzf, Qaf, Qk3 t, Bool.true_and]
  exact Qxm r
theorem Qxm {n : Nat} : ∀ l : List Trm, V.rbs n (vTl l) = true
 | [] => by simp only [vTl, Qb4]
 | t :: r => by simp only [vTl, Qaf, Qk3 t, Bool.true_and]; exact Qxm r
end
structure Stp where
 comb : Int
 ts : List Trm
def stC (s : Stp) : List V := [.int .i64 s.comb, vSl vT (slo s.ts)]
@[reducible] def vStp (s : Stp) : V := .agg (stC s)
structure Rw where
 first : Int
 steps : List Stp
 pseudo : List UInt8
def rwC (r : Rw) : List V := [.int .i64 r.first, vSl vStp (slo r.steps), .str r.pseudo]
@[reducible] def vRw (r : Rw) : V := .agg (rwC r)
structure Ctr where
 a : Int
 b : Int
 rows : List Int
abbrev vIs (l : List Int) : V := vSl (V.int .i64) (slo l)
def ctC (c : Ctr) : List V := [.int .i64 c.a, .int .i64 c.b, vIs c.rows]
@[reducible] def vCtr (c : Ctr) : V := .agg (ctC c)
structure Pln where
 atoms : List Atm
 rows : List Rw
 ctrs : List Ctr
 steps : Int
section
variable {n : Nat}
theorem Qoz {a : Atm} : V.rb n (vAtm a) = true := rfl
theorem Qee {a : Atm} : V.rbs n (atC a) = true := rfl
theorem Qfw {t : Trm} : V.rbs n (tmC t) = true := by have := Qk3 (n := n) t; rw [Qm9] at this; exact this
theorem Wez {s : Stp} : V.rbs n (stC s) = true := by simp only [stC, Qaf, Qdl, Qb4, Qam (fun n t => Qk3 (n := n) t), Bool.and_true]
theorem Wbu {s : Stp} : V.rb n (vStp s) = true := Wez
theorem We0 {r : Rw} : V.rbs n (rwC r) = true := by simp only [rwC, Qaf, Qdl, Qj8, Qb4, Qam (fun n t => Wbu (n := n) (s := t)), Bool.and_true]
theorem Wib {r : Rw} : V.rb n (vRw r) = true := We0
theorem Qgj {l : List Int} : V.rb n (vIs l) = true := Qoh fun _ _ => rfl
theorem We1 {c : Ctr} : V.rbs n (ctC c) = true := by simp only [ctC, Qaf, Qdl, Qb4, Qgj, Bool.and_true]
theorem Wbv {c : Ctr} : V.rb n (vCtr c) = true := We1
end
theorem Qxn {a : Atm} : Qal (atC a) = true := rfl
theorem Qo0 {a : Atm} : (atC a).map V.ng = atC a := rfl
theorem Qkm {t : Trm} : Qal (tmC t) = true := by cases t; simp only [tmC, Qcg, Qdk, Qde, Qc4, Bool.and_true]
theorem Qk4 {t : Trm} : (tmC t).map V.ng = tmC t := by cases t; simp only [tmC, List.map_cons, List.map_nil, Qs4, Qah]
theorem Qd9 {t : Trm} : (tmC t).length = 3 := by cases t; rfl
theorem Wic {s : Stp} : Qal (stC s) = true := by simp only [stC, Qcg, Qdk, Qde, Qc4, Bool.and_true]
theorem Wid {r : Rw} : Qal (rwC r) = true := by simp only [rwC, Qcg, Qdk, Qde, Qhn, Qc4, Bool.and_true]
theorem Wkv {c : Ctr} : Qal (ctC c) = true := by simp only [ctC, Qcg, Qdk, Qde, Qc4, Bool.and_true]
theorem rbs0 {n : Nat} {l : List V} (h : V.rbs 0 l = true) : V.rbs n l = true := Qhr (Nat.zero_le _) h
end Go.Ev
namespace Go.Proofs.YtapnplljnpconaaGreatDoor
open Go.Ev
set_option maxRecDepth 100000
set_option maxHeartbeats 4000000
def Cl0 (τ : Objs) : Prop := τ.all (O.rb 0) = true
theorem Wbw {n : Nat} {o : O} (h : o.rb 0 = true) : o.rb n = true := by
 cases o with
 | cells cs => exact rbs0 h
 | mp es =>
  simp only [O.rb, Bool.and_eq_true] at h ⊢
  exact ⟨rbs0 h.1, rbs0 h.2⟩
theorem Qxo {b : Nat} {τ : Objs} (h : Cl0 τ) : FrW b τ := by
 unfold FrW
 exact List.all_eq_true.2 fun o ho => Wbw (List.all_eq_true.1 h o ho)
theorem Qc6 {τ : Objs} (h : Cl0 τ) : Wf τ := List.all_eq_true.2 fun o ho => Wbw (List.all_eq_true.1 h o ho)
theorem Qag {cs : List V} {τ : Objs} (h1 : V.rbs 0 cs = true) (h2 : Cl0 τ) : Cl0 (.cells cs :: τ) := by
 unfold Cl0 at *
 rw [List.all_cons, h2]
 show (V.rbs 0 cs && true) = true
 rw [h1]; rfl
theorem Qa5 : Cl0 [] := rfl
theorem E_on {f : FuncId} {args : List V} {cs cs' : List V} {r : V} (h : E cx f (.ptr 0 0 :: args) [.cells cs] = some (r, [.cells cs'])) (ha : V.rbs 0 args = true) (hc : V.rbs 0 cs = true) (hc' : V.rbs 0 cs' = true) (hr : V.rb 0 r = true)
  (τ : Objs) (hτ : Cl0 τ) : E cx f (.ptr 0 0 :: args) (.cells cs :: τ) = some (r, .cells cs' :: τ) := by
 have h1 := Qp8 Qbm (b := 1) (Qxo hτ) (Nat.le_refl _) h
 rw [List.map_cons, ← Qap, Qbk ha, Qbu hr] at h1
 have e : ∀ ds : List V, V.rbs 0 ds = true → ins 1 τ [.cells ds] = .cells ds :: τ := by
  intro ds hd
  show (List.take 1 [O.sh 1 τ.length (.cells ds)] ++ τ) ++ List.drop 1 [O.sh 1 τ.length (.cells ds)] = _
  have : O.sh 1 τ.length (.cells ds) = .cells ds := by show O.cells (ds.map (V.sh 1 τ.length)) = _; rw [← Qap, Qbk hd]
  rw [this]
  simp
 rw [e _ hc, e _ hc'] at h1
 exact h1
theorem E_at {f : FuncId} {args : List V} {cs cs' : List V} {r : V} (h : E cx f (.ptr 0 0 :: args) [.cells cs] = some (r, [.cells cs'])) (ha : V.rbs 0 args = true) (hc : V.rbs 0 cs = true) (hc' : V.rbs 0 cs' = true) (hr : V.rb 0 r = true)
  (φ : Objs) (hφ : Cl0 φ) : E cx f (.ptr φ.length 0 :: args) (φ ++ [.cells cs]) = some (r, φ ++ [.cells cs']) := by
 have h1 := Qp8 Qbm (b := 0) (Qxo hφ) (Nat.zero_le _) h
 rw [List.map_cons, ← Qap, Qbk ha, Qbu hr] at h1
 have e : ∀ ds : List V, V.rbs 0 ds = true → ins 0 φ [.cells ds] = φ ++ [.cells ds] := by
  intro ds hd
  show (List.take 0 [O.sh 0 φ.length (.cells ds)] ++ φ) ++ List.drop 0 [O.sh 0 φ.length (.cells ds)] = _
  have : O.sh 0 φ.length (.cells ds) = .cells ds := by show O.cells (ds.map (V.sh 0 φ.length)) = _; rw [← Qap, Qbk hd]
  rw [this]
  simp
 rw [e _ hc, e _ hc'] at h1
 have e2 : V.sh 0 φ.length (.ptr 0 0) = .ptr φ.length 0 := by
  show V.ptr (rn 0 φ.length 0) 0 = _
  rw [show rn 0 φ.length 0 = φ.length from by unfold rn; simp]
 rw [e2] at h1
 exact h1
def mkC (n : Nms) (p : Pln) (X : V) : List V := [.bool n.has, .str n.dflt, Qcb n.pres, Qcb n.spaces, vG vAtm 7 p.atoms, vG vRw 3 p.rows, vG vCtr 3 p.ctrs, X, .int .i64 p.steps]
theorem Qar {n : Nms} {p : Pln} {X : V} (hX : V.rb 0 X = true) : V.rbs 0 (mkC n p X) = true := by
 simp only [mkC, Qaf, Qj7, Qj8, Qg6, Qkk (fun a => Qoz (a := a)), Qkk (fun a => Wib (r := a)), Qkk (fun a => Wbv (c := a)), hX, Qdl, Qb4, Bool.and_true]
end Go.Proofs.YtapnplljnpconaaGreatDoor
namespace Go.Ev
section
variable {α : Type} {f : α → V} {sz : Nat} {l : List α}
theorem We2 {cs : List V} {τ : Objs} {off : Nat} (h : off < cs.length) : stV (.cells cs :: τ) 1 (.ptr 0 off) (vSl f (slo l)) (vG f sz l) = some (.undef, .cells (cs.set off (vG f sz l)) :: τ) := by
 have h' : off + 1 ≤ cs.length := h
 cases l with
 | nil => simp [stV, Objs.get, slo, vSl, vG, V.cells, V.isLk, Qal, h']; try rfl
 | cons x r => simp [stV, Objs.get, slo, vSl, vG, V.cells, V.isLk, Qal, h']; try rfl
theorem We3 {keep : Bool} : oK false (vG f sz l) = some (vSl f (slo l)) := by cases l <;> rfl
end
theorem Wbx {k i : Int} : vT (.mk k i []) = .agg [.int .i64 k, .int .i64 i, .nils] := by simp only [vT, vTs]
def posA (a : Atm) : List Atm → Nat → Option Nat
 | [], _ => none
 | b :: r, i => if a = b then some i else posA a r (i + 1)
def posI : Option Nat → Int
 | none => -1
 | some i => i
def addA (p : Pln) (a : Atm) : Pln := { p with atoms := p.atoms ++ [a] }
def Qbi (p : Pln) (a : Atm) : Trm × Pln := match posA a p.atoms 0 with
 | some i => (.mk 1 i [], p)
 | none => (.mk 1 p.atoms.length [], addA p a)
end Go.Ev
namespace Go.Ev
open Go.Proofs.YtapnplljnpconaaGreatDoor
section
variable {O1 O2 O3 : O} {cs ds : List V} {t : V} {τ : Objs} {sz : Nat}
theorem Qxp (h1 : ds.length = sz) (h2 : cs.length = sz) (h3 : Qal ds = true) (h4 : ds.map V.ng = ds) :
  stV (.cells cs :: τ) sz (.ptr 0 0) (.agg ds) t = some (.undef, .cells ds :: τ) := by
 show (if (V.agg ds).cells.length = sz ∧ 0 + sz ≤ cs.length ∧ Qal (V.agg ds).cells = true then _ else _) = _
 rw [if_pos ⟨h1, by omega, h3⟩, Qb5, h4, Qep _ _ (by rw [h1, h2])]; rfl
theorem Qxq (h1 : ds.length = sz) (h2 : cs.length = sz) (h3 : Qal ds = true) (h4 : ds.map V.ng = ds) :
  stV (O1 :: .cells cs :: τ) sz (.ptr 1 0) (.agg ds) t = some (.undef, O1 :: .cells ds :: τ) := by
 show (if (V.agg ds).cells.length = sz ∧ 0 + sz ≤ cs.length ∧ Qal (V.agg ds).cells = true then _ else _) = _
 rw [if_pos ⟨h1, by omega, h3⟩, Qb5, h4, Qep _ _ (by rw [h1, h2])]; rfl
theorem Qxr (h1 : ds.length = sz) (h2 : cs.length = sz) (h3 : Qal ds = true) (h4 : ds.map V.ng = ds) :
  stV (O1 :: O2 :: .cells cs :: τ) sz (.ptr 2 0) (.agg ds) t = some (.undef, O1 :: O2 :: .cells ds :: τ) := by
 show (if (V.agg ds).cells.length = sz ∧ 0 + sz ≤ cs.length ∧ Qal (V.agg ds).cells = true then _ else _) = _
 rw [if_pos ⟨h1, by omega, h3⟩, Qb5, h4, Qep _ _ (by rw [h1, h2])]; rfl
theorem Qxs (h1 : ds.length = sz) (h2 : cs.length = sz) (h3 : Qal ds = true) (h4 : ds.map V.ng = ds) :
  stV (O1 :: O2 :: O3 :: .cells cs :: τ) sz (.ptr 3 0) (.agg ds) t = some (.undef, O1 :: O2 :: O3 :: .cells ds :: τ) := by
 show (if (V.agg ds).cells.length = sz ∧ 0 + sz ≤ cs.length ∧ Qal (V.agg ds).cells = true then _ else _) = _
 rw [if_pos ⟨h1, by omega, h3⟩, Qb5, h4, Qep _ _ (by rw [h1, h2])]; rfl
theorem Qo1 (h1 : ds.length = sz) (h4 : ds.map V.ng = ds) : Ev.part true sz ds 0 = some (.agg ds) := by
 unfold Ev.part
 rw [if_pos rfl, if_pos (by omega), List.drop_zero, List.take_of_length_le (by omega), h4]
theorem Qxt {σ : Objs} {ag : Bool} {sz o off : Nat} : resC σ ag sz (.ptr o off) = (Objs.get σ o).bind fun cs => Ev.part ag sz cs off := rfl
theorem get3 {O1 O2 O3 : O} {cs : List V} {τ : Objs} : Objs.get (O1 :: O2 :: O3 :: .cells cs :: τ) 3 = some cs := rfl
end
attribute [go_sem] Qxp Qxq Qxr Qxs Qo1 Qxt get3
end Go.Ev
namespace Go.Proofs.YtapnplljnpconaaGreatDoor
open Go.Ev
set_option maxRecDepth 100000
set_option maxHeartbeats 4000000
def Qlr (n : Nms) (a : Atm) (ns : Int) (pre : List UInt8) : Atm :=
 let b : Atm := if ns = 0 then { a with has := n.has, space := n.dflt } else if ns = 2 then { a with has := true, space := [] } else if ns = 3 then { a with has := true, space := if 0 ≤ idxS n.pres.l pre then n.spaces.l.getD (idxS n.pres.l pre).toNat [] else [] } else a
 if b.has = true then b else { b with space := [] }
theorem Wie {a b : Atm} : eB .eql (.agg [.i, .b, .s, .s, .i, .s, .b]) (.agg (atC a)) (.agg (atC b)) = some (.bool (decide (a = b))) := by
 obtain ⟨a1, a2, a3, a4, a5, a6, a7⟩ := a
 obtain ⟨b1, b2, b3, b4, b5, b6, b7⟩ := b
 simp only [atC, Atm.mk.injEq]
 by_cases h1 : a1 = b1 <;> by_cases h2 : a2 = b2 <;> by_cases h3 : a3 = b3 <;> by_cases h4 : a4 = b4 <;> by_cases h5 : a5 = b5 <;> by_cases h6 : a6 = b6 <;> by_cases h7 : a7 = b7 <;> simp [eB, eqV, Qa8, Qdp, h1, h2, h3, h4, h5, h6, h7]
theorem Wby (l : Sl Atm) (a : Atm) (hl : l.l.length ≤ 1000000000) : ∀ (r q : List Atm), l.l = q ++ r →
  l_Z1i_0 (Mi cx) 0 1 [vSl vAtm l, .ptr 0 0, .int .i64 l.l.length, .int .i64 q.length] [.cells (atC a)] = some (.int .i64 (posI (posA a r q.length)), [])
 | [], q, hq => by
  have hlen : l.l.length = q.length := by rw [hq]; simp
  have e1 : ¬ (q.length : Int) < l.l.length := by omega
  have hA : V.rbs 1 (atC a) = true := Qee
  rw [u_Z1i_0]
  unfold posA posI
  generalize atC a = A at *
  simp +contextual -implicitDefEqProofs (disch := first | assumption | omega | (simp -implicitDefEqProofs only [go_sem]; try omega)) only [↓reduceIte, go_sem, iP, iN, w64, w8, w32, b_Z1i_0, e1]
 | b :: r, q, hq => by
  have hlen : l.l.length = q.length + r.length + 1 := by rw [hq]; simp; omega
  have e1 : (q.length : Int) < l.l.length := by omega
  have i1 : eI 7 (.int .i64 q.length) (vSl vAtm l) = some (.eptr (atC b) 0) := Qav (f := vAtm) hq rfl rfl
  have i2 : eL [.cells (atC a)] true 7 (.eptr (atC b) 0) = some (.agg (atC b)) := Qdz rfl Qo0
  have i3 : eL [.cells (atC a)] true 7 (.ptr 0 0) = some (.agg (atC a)) := Qbx rfl rfl Qo0
  have i4 := Wie (a := a) (b := b)
  have hA : V.rbs 1 (atC a) = true := Qee
  have f1 : ∀ k σ, fz k σ fzD (vSl vAtm l) = some (vSl vAtm l) := fun k σ => Qax (Qam fun n x => Qoz)
  have ih := Wby l a hl r (q ++ [b]) (by rw [hq]; simp)
  rw [show ((q ++ [b]).length : Int) = q.length + 1 by simp, show (q ++ [b]).length = q.length + 1 by simp] at ih
  rw [u_Z1i_0]
  unfold posA
  by_cases c : a = b
  ·rw [decide_eq_true c] at i4
   rw [if_pos c]
   unfold posI
   clear ih c
   generalize atC a = A at *
   generalize atC b = B at *
   simp +contextual -implicitDefEqProofs (disch := first | assumption | omega | (simp -implicitDefEqProofs only [go_sem]; try omega)) only [↓reduceIte, go_sem, iP, iN, w64, w8, w32, b_Z1i_0, e1, i1, i2, i3, i4]
  ·rw [decide_eq_false c] at i4
   rw [if_neg c]
   clear c
   generalize posA a r (q.length + 1) = P at *
   generalize atC a = A at *
   generalize atC b = B at *
   simp +contextual -implicitDefEqProofs (disch := first | assumption | omega | (simp -implicitDefEqProofs only [go_sem]; try omega)) only [↓reduceIte, go_sem, iP, iN, w64, w8, w32, b_Z1i_0, e1, i1, i2, i3, i4, f1, Qah, ih]
theorem Wal (l : Sl Atm) (a : Atm) (hl : l.l.length ≤ 1000000000) (σ : Objs) (hσ : Wf σ) : E cx 145 [vSl vAtm l, .agg (atC a)] σ = some (.int .i64 (posI (posA a l.l 0)), σ) := by
 refine Qbv Qbm ?_ (by simp only [Qaf, Qa3, Qee, Qam (fun n x => Qoz (n := n) (a := x))]; rfl) rfl σ hσ
 have h := Wby l a hl l.l [] rfl
 have h' : l_Z1i_0 (Mi cx) 0 1 [vSl vAtm l, .ptr 0 0, .int .i64 l.l.length, .int .i64 0] [.cells (atC a)] = some (.int .i64 (posI (posA a l.l 0)), []) := h
 have h1 : boxV [] (.agg (atC a)) = some (.ptr 0 0, [.cells (atC a)]) := Qa0 Qxn Qo0
 have f1 : ∀ k σ, fz k σ fzD (vSl vAtm l) = some (vSl vAtm l) := fun k σ => Qax (Qam fun n x => Qoz)
 clear h
 rw [e_Z1i]
 generalize posA a l.l 0 = P at *
 generalize atC a = A at *
 simp +contextual -implicitDefEqProofs (disch := first | assumption | omega | (simp -implicitDefEqProofs only [go_sem]; try omega)) only [↓reduceIte, go_sem, iP, iN, w64, w8, w32, s_Z1i, h1, f1, Qah, h']
section
variable {n : Nms} {p : Pln} {X : V} (hX : V.rb 0 X = true)
theorem Qsf {τ : Objs} : eL (.cells (mkC n p X) :: τ) false 1 (.ptr 0 4) = some (vSl vAtm (slo p.atoms)) := by
 show Option.map V.ng (some (vG vAtm 7 p.atoms)) = _
 rw [Qak, n_vG]
def mkA (n : Nms) (p : Pln) (X : V) : List V := (mkC n p X).set 4 (vSl vAtm (slo p.atoms))
theorem Wam {τ : Objs} : Qcv (.cells (mkC n p X) :: τ) (.ptr 0 4) = some (vG vAtm 7 p.atoms, .cells (mkA n p X) :: τ) := Qm8 rfl
theorem We4 {τ : Objs} {a : Atm} : stV (.cells (mkA n p X) :: τ) 1 (.ptr 0 4) (vSl vAtm (slo (p.atoms ++ [a]))) (vG vAtm 7 (p.atoms ++ [a])) = some (.undef, .cells (mkC n (addA p a) X) :: τ) := We2 (show 4 < 9 by decide)
theorem We5 {σ : Objs} {l : List Atm} {a : Atm} {c : Cap} (hl : l.length ≤ 1000000) : appV false true 7 80 σ (vG vAtm 7 l) (.sl [vAtm a] c) = some (vG vAtm 7 (l ++ [a])) := by
 refine Qkl (fun _ => rfl) (fun _ => Qxn) (fun _ => rfl) ?_
 show _ ≤ _
 unfold Qb0
 omega
theorem Wif {a : Atm} : Qau true 7 1 (.agg [.int .i64 0, .bool false, .str [], .str [], .int .i64 0, .str [], .bool false]) [(0, .agg (atC a))] = some (.sl [.agg (atC a)] .fx) := rfl
include hX
theorem We6 (a : Atm) (hp : p.atoms.length ≤ 1000000) : E cx 101 [.ptr 0 0, .agg (atC a)] [.cells (mkC n p X)] = some (vT (Qbi p a).1, [.cells (mkC n (Qbi p a).2 X)]) := by
 have h1 : boxV [.cells (mkC n p X)] (.agg (atC a)) = some (.ptr 1 0, [.cells (mkC n p X), .cells (atC a)]) := Qa0 Qxn Qo0
 have l0 : ∀ τ : Objs, eL (.cells (mkC n p X) :: τ) false 1 (.ptr 0 4) = some (vSl vAtm (slo p.atoms)) := fun τ => Qsf
 have l1 : ∀ (O1 : O) (τ : Objs), eL (O1 :: .cells (atC a) :: τ) true 7 (.ptr 1 0) = some (.agg (atC a)) := fun O1 τ => Qbx rfl rfl Qo0
 have hw : Wf [.cells (mkC n p X), .cells (atC a), .cells [.int .i64 0, .int .i64 0, .nils]] := by
  refine Qc6 (Qag (Qar hX) (Qag Qee (Qag rfl Qa5)))
 have k1 := Wal (slo p.atoms) a (by rw [Qh0]; omega) _ hw
 rw [Qh0] at k1
 have l2 : ∀ τ : Objs, Qcv (.cells (mkC n p X) :: τ) (.ptr 0 4) = some (vG vAtm 7 p.atoms, .cells (mkA n p X) :: τ) := fun τ => Wam
 have b1 := Wif (a := a)
 have a1 : ∀ σ, appV false true 7 80 σ (vG vAtm 7 p.atoms) (.sl [.agg (atC a)] .no) = some (vG vAtm 7 (p.atoms ++ [a])) := fun σ => We5 hp
 have s1 : ∀ τ : Objs, stV (.cells (mkA n p X) :: τ) 1 (.ptr 0 4) (vSl vAtm (slo (p.atoms ++ [a]))) (vG vAtm 7 (p.atoms ++ [a])) = some (.undef, .cells (mkC n (addA p a) X) :: τ) := fun τ => We4
 have l3 : ∀ τ : Objs, eL (.cells (mkC n (addA p a) X) :: τ) false 1 (.ptr 0 4) = some (vSl vAtm (slo (p.atoms ++ [a]))) := fun τ => Qsf
 have hM : V.rbs 1 (mkC n p X) = true := rbs0 (Qar hX)
 have hM' : V.rbs 1 (mkC n (addA p a) X) = true := rbs0 (Qar hX)
 have e1 : (slo (p.atoms ++ [a])).l.length = p.atoms.length + 1 := by rw [Qh0, List.length_append]; rfl
 rw [e_Z0]
 unfold Qbi
 cases c : posA a p.atoms 0 with
 | none =>
  rw [c] at k1
  unfold posI at k1
  rw [Wbx]
  generalize mkC n p X = M at *
  generalize mkC n (addA p a) X = M' at *
  generalize mkA n p X = MA at *
  generalize hAt : atC a = A at *
  have k2 : ((p.atoms.length + 1 : Nat) : Int) = (p.atoms.length : Int) + 1 := by omega
  simp +contextual -implicitDefEqProofs (disch := first | assumption | omega | (simp -implicitDefEqProofs only [go_sem]; try omega)) only [↓reduceIte, go_sem, iP, iN, w64, w8, w32, s_Z0, j_Z0_0, h1, l0, l1, k1, l2, b1, a1, s1, l3, n_vG, Qah, Qae, e1, k2, Int.add_sub_cancel]
 | some i =>
  rw [c] at k1
  unfold posI at k1
  rw [Wbx]
  generalize mkC n p X = M at *
  generalize hAt : atC a = A at *
  have k2 : ¬ ((i : Int) < 0) := by omega
  simp +contextual -implicitDefEqProofs (disch := first | assumption | omega | (simp -implicitDefEqProofs only [go_sem]; try omega)) only [↓reduceIte, go_sem, iP, iN, w64, w8, w32, s_Z0, j_Z0_0, h1, l0, l1, k1, k2, n_vG, Qah, Qae]
end
end Go.Proofs.YtapnplljnpconaaGreatDoor
namespace Go.Ev
section
variable {O1 : O} {cs : List V} {τ : Objs} {off : Nat}
theorem Wig {k : IntKind} {x : Int} (h2 : off + 1 ≤ cs.length) : stV (O1 :: .cells cs :: τ) 1 (.ptr 1 off) (.int k x) (.int k x) = some (.undef, O1 :: .cells (cs.set off (.int k x)) :: τ) := by
 show (if (V.int k x).cells.length = 1 ∧ off + 1 ≤ cs.length ∧ Qal (V.int k x).cells = true then _ else _) = _
 rw [if_pos ⟨rfl, h2, rfl⟩]; rfl
theorem Wih {x : List UInt8} (h2 : off + 1 ≤ cs.length) : stV (O1 :: .cells cs :: τ) 1 (.ptr 1 off) (.str x) (.str x) = some (.undef, O1 :: .cells (cs.set off (.str x)) :: τ) := by
 show (if (V.str x).cells.length = 1 ∧ off + 1 ≤ cs.length ∧ Qal (V.str x).cells = true then _ else _) = _
 rw [if_pos ⟨rfl, h2, rfl⟩]; rfl
theorem Wii {x : Bool} (h2 : off + 1 ≤ cs.length) : stV (O1 :: .cells cs :: τ) 1 (.ptr 1 off) (.bool x) (.bool x) = some (.undef, O1 :: .cells (cs.set off (.bool x)) :: τ) := by
 show (if (V.bool x).cells.length = 1 ∧ off + 1 ≤ cs.length ∧ Qal (V.bool x).cells = true then _ else _) = _
 rw [if_pos ⟨rfl, h2, rfl⟩]; rfl
theorem We7 {ag : Bool} {sz : Nat} {τ' : Objs} : Qg2 [Qe4 ag sz (.ptr 0 off)] (.cells cs :: τ) (.cells cs :: τ') = some (.cells cs :: τ') := by
 have e : stable (.cells cs :: τ) (.cells cs :: τ') (.same false 0 off (if ag then sz else 1)) = true := by
  simp only [stable, Objs.get, List.getElem?_cons_zero, decide_true, Bool.true_and]
  rw [if_neg (by decide)]
  exact V.beqs_refl _
 show (if (stable (.cells cs :: τ) (.cells cs :: τ') (.same false 0 off (if ag then sz else 1)) && true) = true then some (O.cells cs :: τ') else none) = _
 rw [e]; rfl
end
attribute [go_sem] Wig Wih Wii We7
end Go.Ev
namespace Go.Proofs.YtapnplljnpconaaGreatDoor
open Go.Ev
set_option maxRecDepth 100000
set_option maxHeartbeats 4000000
def spT (n : Nms) (pre : List UInt8) : List UInt8 := if 0 ≤ idxS n.pres.l pre then n.spaces.l.getD (idxS n.pres.l pre).toNat [] else []
section
variable {n : Nms} (hn : NmB n)
include hn
theorem We8 (pre : List UInt8) (σ : Objs) (hσ : Wf σ) : ∃ b, E cx 146 [.agg (Qaa n), .str pre] σ = some (.tup [.str (spT n pre), .bool b], σ) := by
 have key : ∃ b, E cx 146 [.agg (Qaa n), .str pre] [] = some (.tup [.str (spT n pre), .bool b], []) := by
  have h1 : boxV [] (.agg (Qaa n)) = some (.ptr 0 0, [.cells (Qaa n)]) := Qa0 ok_n no_n
  have hw : Wf [.cells (Qaa n)] := by rw [Qd5]; exact Qai
  have h2 : eL [.cells (Qaa n)] false 1 (.ptr 0 2) = some (Qcb n.pres) := by
   show Option.map V.ng (some (Qcb n.pres)) = _
   rw [Qak, Qah]
  have h3 : eL [.cells (Qaa n)] false 1 (.ptr 0 3) = some (Qcb n.spaces) := by
   show Option.map V.ng (some (Qcb n.spaces)) = _
   rw [Qak, Qah]
  have k1 := Qxc n.pres pre (by have := hn.2.1; omega) _ hw
  unfold spT
  rw [e_Z17]
  generalize hi : idxS n.pres.l pre = i at *
  by_cases c1 : i < 0
  ·refine ⟨false, ?_⟩
   have c1' : ¬ 0 ≤ i := by omega
   rw [if_neg c1']
   generalize Qaa n = N at *
   simp +contextual -implicitDefEqProofs (disch := first | assumption | omega | (simp -implicitDefEqProofs only [go_sem]; try omega)) only [↓reduceIte, go_sem, iP, iN, w64, w8, w32, s_Z17, h1, h2, k1, c1]
  ·have c1' : 0 ≤ i := by omega
   rw [if_pos c1']
   refine ⟨true, ?_⟩
   by_cases c2 : (n.spaces.l.length : Int) ≤ i
   ·have e1 : n.spaces.l.getD i.toNat [] = [] := by rw [List.getD_eq_getElem?_getD, List.getElem?_eq_none (by omega)]; rfl
    rw [e1]
    generalize Qaa n = N at *
    simp +contextual -implicitDefEqProofs (disch := first | assumption | omega | (simp -implicitDefEqProofs only [go_sem]; try omega)) only [↓reduceIte, go_sem, iP, iN, w64, w8, w32, s_Z17, h1, h2, h3, k1, c1, c2, Qah]
   ·have hx := Qd8 (f := V.str) (s := n.spaces) (k := .i64) (i := i) (Qin (by omega) []) (by omega) (sz := 1) rfl
    generalize Qaa n = N at *
    simp +contextual -implicitDefEqProofs (disch := first | assumption | omega | (simp -implicitDefEqProofs only [go_sem]; try omega)) only [↓reduceIte, go_sem, iP, iN, w64, w8, w32, s_Z17, h1, h2, h3, k1, c1, c2, Qah, hx]
 obtain ⟨b, h⟩ := key
 exact ⟨b, Qbv Qbm h (by simp only [Qaf, Qa3, Qai]; rfl) rfl σ hσ⟩
end
section
variable {α : Type} {v : α → V} (hv : ∀ n x, V.rb n (v x) = true) {n : Nms} (hn : NmB n) {p : Pln} {X : V} (hX : V.rb 0 X = true)
include hX
theorem Wij (a : Atm) (hp : p.atoms.length ≤ 1000000) (τ : Objs) (hτ : Cl0 τ) : E cx 101 [.ptr 0 0, .agg (atC a)] (.cells (mkC n p X) :: τ) = some (vT (Qbi p a).1, .cells (mkC n (Qbi p a).2 X) :: τ) :=
 E_on (We6 hX a hp) (by simp only [Qaf, Qa3, Qee]; rfl) (Qar hX) (Qar hX) (Qk3 _) τ hτ
include hv hn
theorem Qxu (a : Atm) (s : Sm α) : E cx 102 [.ptr 0 0, .agg (atC a), .agg (smC v s)] [.cells (mkC n p X)] = some (.agg (atC (Qlr n a s.ns s.pre)), [.cells (mkC n p X)]) := by
 have h1 : boxV [.cells (mkC n p X)] (.agg (atC a)) = some (.ptr 1 0, [.cells (mkC n p X), .cells (atC a)]) := Qa0 Qxn Qo0
 have h2 : boxV [.cells (mkC n p X), .cells (atC a)] (.agg (smC v s)) = some (.ptr 2 0, [.cells (mkC n p X), .cells (atC a), .cells (smC v s)]) := Qa0 Qft Qcy
 have l1 : ∀ τ : Objs, eL (.cells (mkC n p X) :: τ) false 1 (.ptr 0 0) = some (.bool n.has) := fun τ => rfl
 have l2 : ∀ τ : Objs, eL (.cells (mkC n p X) :: τ) false 1 (.ptr 0 1) = some (.str n.dflt) := fun τ => rfl
 have l3 : ∀ τ : Objs, eL (.cells (mkC n p X) :: τ) true 4 (.ptr 0 0) = some (.agg (Qaa n)) := fun τ => by
  show Ev.part true 4 (Qaa n ++ _) 0 = _
  unfold Ev.part
  rw [if_pos rfl, if_pos (by simp [Qaa]), List.drop_zero]
  show some (V.agg ((Qaa n).map V.ng)) = _
  rw [no_n]
 have l4 : ∀ (O1 : O) (τ : Objs), eL (.cells (mkC n p X) :: O1 :: .cells (smC v s) :: τ) false 1 (.ptr 2 1) = some (.int .i64 s.ns) := fun O1 τ => rfl
 have l5 : ∀ (O1 : O) (τ : Objs), eL (.cells (mkC n p X) :: O1 :: .cells (smC v s) :: τ) false 1 (.ptr 2 2) = some (.str s.pre) := fun O1 τ => rfl
 have hM : V.rbs 1 (mkC n p X) = true := rbs0 (Qar hX)
 have hw : ∀ cs, V.rbs 0 cs = true → Wf [.cells (mkC n p X), .cells cs, .cells (smC v s), .cells [.int .i64 0, .bool false, .str [], .str [], .int .i64 0, .str [], .bool false]] := fun cs hc =>
  Qc6 (Qag (Qar hX) (Qag hc (Qag (Qba hv) (Qag rfl Qa5))))
 obtain ⟨b, k1⟩ := We8 hn s.pre _ (hw (atC { a with has := true }) Qee)
 rw [e_Z8]
 unfold Qlr
 have hsp : (if 0 ≤ idxS n.pres.l s.pre then n.spaces.l.getD (idxS n.pres.l s.pre).toNat [] else []) = spT n s.pre := rfl
 rw [hsp]
 generalize mkC n p X = M at *
 generalize hS : smC v s = S at *
 generalize Qaa n = N at *
 clear hS
 obtain ⟨a1, a2, a3, a4, a5, a6, a7⟩ := a
 unfold atC at *
 simp only at *
 by_cases c1 : s.ns = 0
 ·rw [c1] at l4
  rw [if_pos c1]
  cases c4 : n.has <;> rw [c4] at l1 <;> simp +contextual -implicitDefEqProofs (disch := first | assumption | omega | (simp -implicitDefEqProofs only [go_sem]; try omega)) only [↓reduceIte, go_sem, iP, iN, w64, w8, w32, s_Z8, j_Z8_0, j_Z8_1, h1, h2, l1, l2, l4]
 rw [if_neg c1]
 by_cases c2 : s.ns = 2
 ·rw [c2] at l4
  rw [if_pos c2]
  simp +contextual -implicitDefEqProofs (disch := first | assumption | omega | (simp -implicitDefEqProofs only [go_sem]; try omega)) only [↓reduceIte, go_sem, iP, iN, w64, w8, w32, s_Z8, j_Z8_0, j_Z8_1, h1, h2, l4]
 rw [if_neg c2]
 by_cases c3 : s.ns = 3
 ·rw [c3] at l4
  rw [if_pos c3]
  simp +contextual -implicitDefEqProofs (disch := first | assumption | omega | (simp -implicitDefEqProofs only [go_sem]; try omega)) only [↓reduceIte, go_sem, iP, iN, w64, w8, w32, s_Z8, j_Z8_0, j_Z8_1, h1, h2, l3, l4, l5, k1]
 rw [if_neg c3]
 generalize s.ns = ns at *
 cases a2 <;> simp +contextual -implicitDefEqProofs (disch := first | assumption | omega | (simp -implicitDefEqProofs only [go_sem]; try omega)) only [↓reduceIte, go_sem, iP, iN, w64, w8, w32, s_Z8, j_Z8_0, j_Z8_1, h1, h2, l4, c1, c2, c3]
end
end Go.Proofs.YtapnplljnpconaaGreatDoor
namespace Go.Proofs.YtapnplljnpconaaGreatDoor
open Go.Ev
set_option maxRecDepth 100000
set_option maxHeartbeats 4000000
theorem Qo2 {cs : List V} {z : V} {sz : Nat} (h : cs.length = sz) (ok : Qal cs = true) : Qau true sz 1 z [(0, .agg cs)] = some (.sl [.agg cs] .fx) := by
 have e : Qcz true sz [.agg cs] = true := by
  unfold Qcz
  simp [Qb5, h, ok, agOk]
 unfold Qau Qc9
 rw [if_pos ⟨h, by simp, ok⟩]
 show (if Qcz true sz [.agg cs] = true then some (V.sl [.agg cs] .fx) else none) = _
 rw [e, if_pos rfl]
theorem Wik {cs ds : List V} {z : V} {sz : Nat} (h : cs.length = sz) (ok : Qal cs = true) (h' : ds.length = sz) (ok' : Qal ds = true) : Qau true sz 2 z [(0, .agg cs), (1, .agg ds)] = some (.sl [.agg cs, .agg ds] .fx) := by
 have e : Qcz true sz [.agg cs, .agg ds] = true := by
  unfold Qcz
  simp [Qb5, h, ok, h', ok', agOk]
 unfold Qau Qc9
 rw [if_pos ⟨h, by simp, ok⟩]
 unfold Qc9
 rw [if_pos ⟨h', by simp, ok'⟩]
 show (if Qcz true sz [.agg cs, .agg ds] = true then some (V.sl [.agg cs, .agg ds] .fx) else none) = _
 rw [e, if_pos rfl]
theorem Qxv {t : Trm} : List.map V.ng (List.take 3 (tmC t)) = tmC t := by rw [List.take_of_length_le (by rw [Qd9]; decide), Qk4]
theorem Qk5 {n : Nat} {t : Trm} : V.rb n (.agg (tmC t)) = true := by rw [Qa3]; exact Qfw
def notT (t : Trm) : Trm := .mk 3 0 [t]
def anyT (l : List Trm) : Trm := .mk 4 0 l
theorem Wan (t : Trm) (σ : Objs) (hσ : Wf σ) : E cx 104 [.agg (tmC t)] σ = some (.agg (tmC (notT t)), σ) := by
 refine Qbv Qbm ?_ (by simp only [Qaf, Qa3, Qfw]; rfl) (by rw [Qa3]; exact Qfw) σ hσ
 have h1 : boxV [] (.agg (tmC t)) = some (.ptr 0 0, [.cells (tmC t)]) := Qa0 Qkm Qk4
 have h2 : ∀ τ : Objs, eL (.cells (tmC t) :: τ) true 3 (.ptr 0 0) = some (.agg (tmC t)) := fun τ => Qbx rfl Qd9 Qk4
 have h3 : Qau true 3 1 (.agg [.int .i64 0, .int .i64 0, .nils]) [(0, .agg (tmC t))] = some (.sl [.agg (tmC t)] .fx) := Qo2 Qd9 Qkm
 have h4 : tmC (notT t) = [.int .i64 3, .int .i64 0, .sl [.agg (tmC t)] .no] := by
  show [V.int .i64 3, .int .i64 0, V.sl [vT t] .no] = _
  rw [Qm9]
 have h5 := Qk5 (n := 0) (t := notT t)
 rw [h4] at h5
 rw [e_Z12, h4]
 generalize tmC t = T at *
 simp +contextual -implicitDefEqProofs (disch := first | assumption | omega | (simp -implicitDefEqProofs only [go_sem]; try omega)) only [↓reduceIte, go_sem, iP, iN, w64, w8, w32, s_Z12, h1, h2, h3]
theorem Qqi (l : List Trm) (σ : Objs) (hσ : Wf σ) : E cx 147 [vSl vT (slo l)] σ = some (.agg (tmC (anyT l)), σ) := by
 have hr : ∀ n, V.rb n (vSl vT (slo l)) = true := fun n => Qam fun n x => Qk3 x
 refine Qbv Qbm ?_ (by simp only [Qaf, hr]; rfl) (by rw [Qa3]; exact Qfw) σ hσ
 have h4 : tmC (anyT l) = [.int .i64 4, .int .i64 0, vSl vT (slo l)] := rfl
 have h5 := Qk5 (n := 0) (t := anyT l)
 rw [h4] at h5
 rw [e_Z11, h4]
 simp +contextual -implicitDefEqProofs (disch := first | assumption | omega | (simp -implicitDefEqProofs only [go_sem]; try omega)) only [↓reduceIte, go_sem, iP, iN, w64, w8, w32, s_Z11, Qah]
def elA (n : Nms) (ns : Int) (pre name : List UInt8) : Atm := Qlr n ⟨1, false, [], name, 0, [], false⟩ ns pre
def Qbj (n : Nms) (p : Pln) (ns : Int) (pre name : List UInt8) : Trm × Pln :=
 if (elA n ns pre name).name = [] ∧ (elA n ns pre name).has = false then (.mk 7 0 [], p) else Qbi p (elA n ns pre name)
def atA (name : List UInt8) (op : Int) (text : List UInt8) : Atm := ⟨2, true, [], name, op, text, false⟩
def Qna (p : Pln) (name : List UInt8) (op : Int) (text : List UInt8) : Trm × Pln := Qbi p (atA name op text)
def Qqj (n : Nms) (p : Pln) : Trm × Pln :=
 let a := Qbj n p 0 [] [97]
 let b := Qbj n a.2 0 [] [97, 114, 101, 97]
 let c := Qna b.2 [104, 114, 101, 102] 1 []
 (notT (anyT [notT (anyT [a.1, b.1]), notT c.1]), c.2)
theorem Qsg {p : Pln} {a : Atm} : (Qbi p a).2.atoms.length ≤ p.atoms.length + 1 := by
 unfold Qbi
 split
 ·show p.atoms.length ≤ _; omega
 ·show (p.atoms ++ [a]).length ≤ _; simp
theorem Qkn {n : Nms} {p : Pln} {ns : Int} {pre name : List UInt8} : (Qbj n p ns pre name).2.atoms.length ≤ p.atoms.length + 1 := by
 unfold Qbj
 split
 ·show p.atoms.length ≤ _; omega
 ·exact Qsg
section
variable {α : Type} {v : α → V} (hv : ∀ n x, V.rb n (v x) = true) {n : Nms} (hn : NmB n) {p : Pln} {X : V} (hX : V.rb 0 X = true)
include hX
theorem Qnb (a : Atm) (hp : p.atoms.length ≤ 1000000) (τ : Objs) (hτ : Cl0 τ) : E cx 101 [.ptr 0 0, .agg (atC a)] (.cells (mkC n p X) :: τ) = some (.agg (tmC (Qbi p a).1), .cells (mkC n (Qbi p a).2 X) :: τ) := by
 rw [← Qm9]
 exact Wij hX a hp τ hτ
theorem Qg7 (name : List UInt8) (op : Int) (text : List UInt8) (hp : p.atoms.length ≤ 1000000) (τ : Objs) (hτ : Cl0 τ) :
  E cx 100 [.ptr 0 0, .str name, .int .i64 op, .str text] (.cells (mkC n p X) :: τ) = some (.agg (tmC (Qna p name op text).1), .cells (mkC n (Qna p name op text).2 X) :: τ) := by
 refine E_on ?_ rfl (Qar hX) (Qar hX) (by rw [Qa3]; exact Qfw) τ hτ
 unfold Qna
 have k1 := Qnb (n := n) hX (atA name op text) hp [.cells [.int .i64 0, .int .i64 0, .nils]] (Qag rfl Qa5)
 have k1' : E cx 101 [.ptr 0 0, .agg [.int .i64 2, .bool true, .str [], .str name, .int .i64 op, .str text, .bool false]] [.cells (mkC n p X), .cells [.int .i64 0, .int .i64 0, .nils]] = _ := k1
 clear k1
 have hM' : V.rbs 1 (mkC n (Qbi p (atA name op text)).2 X) = true := rbs0 (Qar hX)
 have t1 : (tmC (Qbi p (atA name op text)).1).length = 3 := Qd9
 have t2 : Qal (tmC (Qbi p (atA name op text)).1) = true := Qkm
 have t3 : (tmC (Qbi p (atA name op text)).1).map V.ng = tmC (Qbi p (atA name op text)).1 := Qk4
 have t4 : V.rb 1 (.agg (tmC (Qbi p (atA name op text)).1)) = true := Qk5
 have t5 := Qxv (t := (Qbi p (atA name op text)).1)
 rw [e_Z1]
 generalize tmC (Qbi p (atA name op text)).1 = T at *
 generalize mkC n p X = M at *
 generalize mkC n (Qbi p (atA name op text)).2 X = M' at *
 simp +contextual -implicitDefEqProofs (disch := first | assumption | omega | (simp -implicitDefEqProofs only [go_sem]; try omega)) only [↓reduceIte, go_sem, iP, iN, w64, w8, w32, s_Z1, k1', t5]
include hv hn
theorem Qsh (a : Atm) (s : Sm α) (τ : Objs) (hτ : Cl0 τ) : E cx 102 [.ptr 0 0, .agg (atC a), .agg (smC v s)] (.cells (mkC n p X) :: τ) = some (.agg (atC (Qlr n a s.ns s.pre)), .cells (mkC n p X) :: τ) :=
 E_on (Qxu hv hn hX a s) (by simp only [Qaf, Qa3, Qee, Qba hv]; rfl) (Qar hX) (Qar hX) (by rw [Qa3]; exact Qee) τ hτ
theorem Qko (s : Sm α) (hp : p.atoms.length ≤ 1000000) (τ : Objs) (hτ : Cl0 τ) :
  E cx 99 [.ptr 0 0, .agg (smC v s)] (.cells (mkC n p X) :: τ) = some (.agg (tmC (Qbj n p s.ns s.pre s.name).1), .cells (mkC n (Qbj n p s.ns s.pre s.name).2 X) :: τ) := by
 refine E_on ?_ (by simp only [Qaf, Qa3, Qba hv]; rfl) (Qar hX) (Qar hX) (by rw [Qa3]; exact Qfw) τ hτ
 have h1 : boxV [.cells (mkC n p X)] (.agg (smC v s)) = some (.ptr 1 0, [.cells (mkC n p X), .cells (smC v s)]) := Qa0 Qft Qcy
 have l1 : ∀ (O1 : O) (τ : Objs), eL (O1 :: .cells (smC v s) :: τ) false 1 (.ptr 1 3) = some (.str s.name) := fun O1 τ => rfl
 have l2 : ∀ (O1 : O) (τ : Objs), eL (O1 :: .cells (smC v s) :: τ) true 11 (.ptr 1 0) = some (.agg (smC v s)) := fun O1 τ => Qbx rfl rfl Qcy
 have k1 := Qsh hv hn (p := p) hX ⟨1, false, [], s.name, 0, [], false⟩ s [.cells (smC v s), .cells [.int .i64 0, .int .i64 0, .nils]] (Qag (Qba hv) (Qag rfl Qa5))
 have k1' : E cx 102 [.ptr 0 0, .agg [.int .i64 1, .bool false, .str [], .str s.name, .int .i64 0, .str [], .bool false], .agg (smC v s)] [.cells (mkC n p X), .cells (smC v s), .cells [.int .i64 0, .int .i64 0, .nils]] = some (.agg (atC (elA n s.ns s.pre s.name)), [.cells (mkC n p X), .cells (smC v s), .cells [.int .i64 0, .int .i64 0, .nils]]) := k1
 clear k1
 have hM : V.rbs 1 (mkC n p X) = true := rbs0 (Qar hX)
 rw [e_Z3]
 unfold Qbj
 generalize hA : elA n s.ns s.pre s.name = A at *
 have a1 : (atC A).length = 7 := rfl
 have a2 : Qal (atC A) = true := Qxn
 have a3 : (atC A).map V.ng = atC A := Qo0
 have a4 : ∀ n, V.rbs n (atC A) = true := fun n => Qee
 have l3 : ∀ (O1 O2 O3 : O) (τ : Objs), eL (O1 :: O2 :: O3 :: .cells (atC A) :: τ) false 1 (.ptr 3 3) = some (.str A.name) := fun O1 O2 O3 τ => rfl
 have l4 : ∀ (O1 O2 O3 : O) (τ : Objs), eL (O1 :: O2 :: O3 :: .cells (atC A) :: τ) false 1 (.ptr 3 1) = some (.bool A.has) := fun O1 O2 O3 τ => rfl
 have l5 : ∀ (O1 O2 O3 : O) (τ : Objs), eL (O1 :: O2 :: O3 :: .cells (atC A) :: τ) true 7 (.ptr 3 0) = some (.agg (atC A)) := fun O1 O2 O3 τ => Qbx rfl rfl Qo0
 have k2 := Qnb (n := n) hX A hp [.cells (smC v s), .cells [.int .i64 0, .int .i64 0, .nils], .cells (atC A)] (Qag (Qba hv) (Qag rfl (Qag Qee Qa5)))
 have hM' : V.rbs 1 (mkC n (Qbi p A).2 X) = true := rbs0 (Qar hX)
 have t1 : (tmC (Qbi p A).1).length = 3 := Qd9
 have t2 : Qal (tmC (Qbi p A).1) = true := Qkm
 have t3 : (tmC (Qbi p A).1).map V.ng = tmC (Qbi p A).1 := Qk4
 have t4 : V.rb 1 (.agg (tmC (Qbi p A).1)) = true := Qk5
 have t5 := Qxv (t := (Qbi p A).1)
 generalize smC v s = S at *
 generalize A.name = an at *
 generalize A.has = ah at *
 by_cases c1 : an = []
 ·subst c1
  cases ah with
  | false =>
   rw [if_pos ⟨rfl, rfl⟩]
   have e1 : tmC (.mk 7 0 []) = [.int .i64 7, .int .i64 0, .nils] := rfl
   rw [e1]
   clear k2
   generalize mkC n p X = M at *
   generalize atC A = AC at *
   simp +contextual -implicitDefEqProofs (disch := first | assumption | omega | (simp -implicitDefEqProofs only [go_sem]; try omega)) only [↓reduceIte, go_sem, iP, iN, w64, w8, w32, s_Z3, h1, l1, l2, l3, l4, l5, k1']
  | true =>
   rw [if_neg (by simp)]
   generalize tmC (Qbi p A).1 = T at *
   generalize mkC n p X = M at *
   generalize mkC n (Qbi p A).2 X = M' at *
   generalize atC A = AC at *
   simp +contextual -implicitDefEqProofs (disch := first | assumption | omega | (simp -implicitDefEqProofs only [go_sem]; try omega)) only [↓reduceIte, go_sem, iP, iN, w64, w8, w32, s_Z3, h1, l1, l2, l3, l4, l5, k1', k2, t5]
 ·rw [if_neg (by simp [c1])]
  generalize tmC (Qbi p A).1 = T at *
  generalize mkC n p X = M at *
  generalize mkC n (Qbi p A).2 X = M' at *
  generalize atC A = AC at *
  simp +contextual -implicitDefEqProofs (disch := first | assumption | omega | (simp -implicitDefEqProofs only [go_sem]; try omega)) only [↓reduceIte, go_sem, iP, iN, w64, w8, w32, s_Z3, h1, l1, l2, l3, l4, l5, k1', k2, t5, c1]
omit hv in
theorem Wil (hp : p.atoms.length ≤ 999990) (τ : Objs) (hτ : Cl0 τ) :
  E cx 106 [.ptr 0 0] (.cells (mkC n p X) :: τ) = some (.agg (tmC (Qqj n p).1), .cells (mkC n (Qqj n p).2 X) :: τ) := by
 refine E_on ?_ rfl (Qar hX) (Qar hX) (by rw [Qa3]; exact Qfw) τ hτ
 have hv0 : ∀ n x, V.rb n (vCx 0 x) = true := Qdv 0
 have z : V.rbs 0 [.int .i64 0, .int .i64 0, .nils] = true := rfl
 have zt : ∀ {t : Trm}, V.rbs 0 (tmC t) = true := fun {t} => Qfw
 have k1 : E cx 99 [.ptr 0 0, .agg [.int .i64 0, .int .i64 0, .str [], .str [97], .int .i64 0, .str [], .bool false, .int .i64 0, .int .i64 0, .int .i64 0, .nils]] [.cells (mkC n p X), .cells [.int .i64 0, .int .i64 0, .nils]] = some (.agg (tmC (Qbj n p 0 [] [97]).1), [.cells (mkC n (Qbj n p 0 [] [97]).2 X), .cells [.int .i64 0, .int .i64 0, .nils]]) :=
  Qko hv0 hn hX ⟨0, 0, [], [97], 0, [], false, 0, 0, 0, .nil⟩ (by omega) _ (Qag z Qa5)
 have q1 := Qkn (n := n) (p := p) (ns := 0) (pre := []) (name := [97])
 unfold Qqj
 simp only
 generalize Qbj n p 0 [] [97] = a at *
 have k2 : E cx 99 [.ptr 0 0, .agg [.int .i64 0, .int .i64 0, .str [], .str [97, 114, 101, 97], .int .i64 0, .str [], .bool false, .int .i64 0, .int .i64 0, .int .i64 0, .nils]] [.cells (mkC n a.2 X), .cells [.int .i64 0, .int .i64 0, .nils]] = some (.agg (tmC (Qbj n a.2 0 [] [97, 114, 101, 97]).1), [.cells (mkC n (Qbj n a.2 0 [] [97, 114, 101, 97]).2 X), .cells [.int .i64 0, .int .i64 0, .nils]]) :=
  Qko hv0 hn hX ⟨0, 0, [], [97, 114, 101, 97], 0, [], false, 0, 0, 0, .nil⟩ (by omega) _ (Qag z Qa5)
 have q2 := Qkn (n := n) (p := a.2) (ns := 0) (pre := []) (name := [97, 114, 101, 97])
 generalize Qbj n a.2 0 [] [97, 114, 101, 97] = b at *
 have k3 := Qg7 (n := n) (p := b.2) hX [104, 114, 101, 102] 1 [] (by omega) [.cells [.int .i64 0, .int .i64 0, .nils], .cells (tmC (anyT [a.1, b.1]))] (Qag z (Qag zt Qa5))
 generalize Qna b.2 [104, 114, 101, 102] 1 [] = c at *
 have hw : Wf [.cells (mkC n b.2 X), .cells [.int .i64 0, .int .i64 0, .nils]] := Qc6 (Qag (Qar hX) (Qag z Qa5))
 have hw2 : Wf [.cells (mkC n c.2 X), .cells [.int .i64 0, .int .i64 0, .nils], .cells (tmC (anyT [a.1, b.1])), .cells (tmC c.1)] := Qc6 (Qag (Qar hX) (Qag z (Qag zt (Qag zt Qa5))))
 have bf : ∀ t u : Trm, Qau true 3 2 (.agg [.int .i64 0, .int .i64 0, .nils]) [(0, .agg (tmC t)), (1, .agg (tmC u))] = some (.sl [.agg (tmC t), .agg (tmC u)] .fx) := fun t u => Wik Qd9 Qkm Qd9 Qkm
 have sl2 : ∀ t u : Trm, V.sl [.agg (tmC t), .agg (tmC u)] .no = vSl vT (slo [t, u]) := fun t u => by
  rw [← Qm9, ← Qm9]; rfl
 have k4 : E cx 147 [.sl [.agg (tmC a.1), .agg (tmC b.1)] .no] [.cells (mkC n b.2 X), .cells [.int .i64 0, .int .i64 0, .nils]] = some (.agg (tmC (anyT [a.1, b.1])), [.cells (mkC n b.2 X), .cells [.int .i64 0, .int .i64 0, .nils]]) := by
  rw [sl2]; exact Qqi [a.1, b.1] _ hw
 have k5 := Wan (anyT [a.1, b.1]) _ hw2
 have k6 := Wan c.1 _ hw2
 have k7 : E cx 147 [.sl [.agg (tmC (notT (anyT [a.1, b.1]))), .agg (tmC (notT c.1))] .no] [.cells (mkC n c.2 X), .cells [.int .i64 0, .int .i64 0, .nils], .cells (tmC (anyT [a.1, b.1])), .cells (tmC c.1)] = some (.agg (tmC (anyT [notT (anyT [a.1, b.1]), notT c.1])), [.cells (mkC n c.2 X), .cells [.int .i64 0, .int .i64 0, .nils], .cells (tmC (anyT [a.1, b.1])), .cells (tmC c.1)]) := by
  rw [sl2]; exact Qqi _ _ hw2
 have k8 := Wan (anyT [notT (anyT [a.1, b.1]), notT c.1]) _ hw2
 have hM : V.rbs 1 (mkC n c.2 X) = true := rbs0 (Qar hX)
 have bf1 := bf a.1 b.1
 have bf2 := bf (notT (anyT [a.1, b.1])) (notT c.1)
 have L : ∀ t : Trm, (tmC t).length = 3 := fun t => Qd9
 have OK : ∀ t : Trm, Qal (tmC t) = true := fun t => Qkm
 have NO : ∀ t : Trm, (tmC t).map V.ng = tmC t := fun t => Qk4
 have RB : ∀ (t : Trm), V.rb 1 (.agg (tmC t)) = true := fun t => Qk5
 have MT : ∀ (t : Trm), List.map V.ng (List.take 3 (tmC t)) = tmC t := fun t => Qxv
 have l1 : ∀ (O1 O2 : O) (τ : Objs), eL (O1 :: O2 :: .cells (tmC (anyT [a.1, b.1])) :: τ) true 3 (.ptr 2 0) = some (.agg (tmC (anyT [a.1, b.1]))) := fun O1 O2 τ => Qbx rfl Qd9 Qk4
 have l2 : ∀ (O1 O2 O3 : O) (τ : Objs), eL (O1 :: O2 :: O3 :: .cells (tmC c.1) :: τ) true 3 (.ptr 3 0) = some (.agg (tmC c.1)) := fun O1 O2 O3 τ => Qbx rfl Qd9 Qk4
 have op : Qg2 [Qe4 true 3 (.ptr 3 0)] [.cells (mkC n c.2 X), .cells [.int .i64 0, .int .i64 0, .nils], .cells (tmC (anyT [a.1, b.1])), .cells (tmC c.1)] [.cells (mkC n c.2 X), .cells [.int .i64 0, .int .i64 0, .nils], .cells (tmC (anyT [a.1, b.1])), .cells (tmC c.1)] = some [.cells (mkC n c.2 X), .cells [.int .i64 0, .int .i64 0, .nils], .cells (tmC (anyT [a.1, b.1])), .cells (tmC c.1)] := Qxj rfl
 rw [e_Z4]
 clear hw hw2 bf sl2 q1 q2
 generalize anyT [notT (anyT [a.1, b.1]), notT c.1] = t5 at *
 generalize anyT [a.1, b.1] = t1 at *
 generalize notT t1 = t2 at *
 generalize notT c.1 = t4 at *
 generalize notT t5 = t6 at *
 have RB6 := RB t6
 have L6 := L t6
 have O6 := OK t6
 have N6 := NO t6
 have L1 := L t1
 have O1 := OK t1
 have N1 := NO t1
 have L3 := L c.1
 have O3 := OK c.1
 have N3 := NO c.1
 generalize mkC n p X = M0 at *
 generalize mkC n a.2 X = M1 at *
 generalize mkC n b.2 X = M2 at *
 generalize mkC n c.2 X = M3 at *
 simp +contextual -implicitDefEqProofs (disch := first | assumption | omega | (simp -implicitDefEqProofs only [go_sem]; try omega)) only [↓reduceIte, go_sem, iP, iN, w64, w8, w32, s_Z4, k1, k2, k3, k4, k5, k6, k7, k8, bf1, bf2, MT, l1, l2, op]
end
end Go.Proofs.YtapnplljnpconaaGreatDoor
namespace Go.Ev
def vK {α : Type} (f : α → V) : List α → V
 | [] => .nils
 | x :: r => .sl ((x :: r).map f) .lk
section
variable {α : Type} {f : α → V} {sz : Nat} {l : List α} {φ φ' ψ ψ' : Objs} {cs : List V} {o off : Nat}
theorem Wao {n : Nat} (h : ∀ x, V.rb n (f x) = true) : V.rb n (vK f l) = true := by
 cases l with
 | nil => rfl
 | cons x r => exact Qoh (s := .row (x :: r)) fun y _ => h y
theorem Qe6 (ho : φ.length = o) : Objs.get (φ ++ .cells cs :: ψ) o = some cs := by
 subst ho
 unfold Objs.get
 rw [List.getElem?_append_right (Nat.le_refl _), Nat.sub_self]
 rfl
theorem Qls {ds : List V} (ho : φ.length = o) : (φ ++ O.cells cs :: ψ).set o (.cells ds) = φ ++ .cells ds :: ψ := by
 subst ho
 rw [List.set_append_right _ _ (Nat.le_refl _), Nat.sub_self]
 rfl
theorem Qnc (ho : φ.length = o) (h : cs[off]? = some (vG f sz l)) : Qcv (φ ++ .cells cs :: ψ) (.ptr o off) = some (vG f sz l, φ ++ .cells (cs.set off (vSl f (slo l))) :: ψ) := by
 have e : Qcv (φ ++ .cells cs :: ψ) (.ptr o off) = match vG f sz l with
  | .sl xs (.gr s) => some (.sl xs (.gr s), (φ ++ .cells cs :: ψ).set o (.cells (cs.set off (.sl xs .no))))
  | .sl _ .lk => none
  | v => some (v, φ ++ .cells cs :: ψ) := by
  unfold Qcv
  simp only [Qe6 ho, h, Option.bind_eq_bind, Option.bind_some]
  cases l <;> rfl
 rw [e]
 cases l with
 | nil =>
  show some (V.nils, φ ++ .cells cs :: ψ) = some (V.nils, φ ++ O.cells (cs.set off .nils) :: ψ)
  have : cs.set off .nils = cs := by
   obtain ⟨hl, e⟩ := List.getElem?_eq_some_iff.1 h
   rw [← show cs[off] = V.nils from e]
   exact List.set_getElem_self _
  rw [this]
 | cons x r =>
  show some (V.sl _ _, (φ ++ .cells cs :: ψ).set o _) = _
  rw [Qls ho]; rfl
theorem We9 (ho : φ.length = o) (h : off < cs.length) : stV (φ ++ .cells cs :: ψ) 1 (.ptr o off) (vSl f (slo l)) (vG f sz l) = some (.undef, φ ++ .cells (cs.set off (vG f sz l)) :: ψ) := by
 have h' : off + 1 ≤ cs.length := h
 unfold stV
 simp only [Qe6 ho, Option.bind_eq_bind, Option.bind_some, Qbw]
 rw [if_pos ⟨rfl, h', by rw [Qcg, Qc4]; rfl⟩]
 cases l with
 | nil =>
  show some (V.undef, (φ ++ .cells cs :: ψ).set o _) = _
  rw [Qls ho]
 | cons x r =>
  show some (V.undef, (φ ++ .cells cs :: ψ).set o _) = _
  rw [Qls ho]
theorem Qqk {x : V} (h : cs[off]? = some x) : off < cs.length := by
 obtain ⟨hl, _⟩ := List.getElem?_eq_some_iff.1 h
 exact hl
theorem Qxw (ho : φ.length = o) (h : cs[off]? = some (vG f sz l)) : Qj3 [Qct (φ ++ .cells cs :: ψ) (.ptr o off)] (φ ++ .cells (cs.set off (vSl f (slo l))) :: ψ) = some (φ ++ .cells (cs.set off (vK f l)) :: ψ) := by
 have hl := Qqk h
 unfold Qct
 simp only [Qe6 ho, Option.bind_some, h]
 cases l with
 | nil => rfl
 | cons x r =>
  show Qgg (φ ++ .cells (cs.set off (vSl f (slo (x :: r)))) :: ψ) [(o, off)] = _
  unfold Qgg
  simp only [Qe6 ho, List.getElem?_set_self hl]
  show Qgg ((φ ++ .cells (cs.set off (vSl f (slo (x :: r)))) :: ψ).set o _) [] = _
  rw [Qls ho, List.set_set]
  rfl
theorem Wfa (ho : φ.length = o) (ho' : φ'.length = o) (h : cs[off]? = some (vG f sz l)) : Qg2 [Qct (φ ++ .cells cs :: ψ) (.ptr o off)] (φ ++ .cells (cs.set off (vSl f (slo l))) :: ψ) (φ' ++ .cells (cs.set off (vK f l)) :: ψ') = some (φ' ++ .cells (cs.set off (vSl f (slo l))) :: ψ') := by
 have hl := Qqk h
 unfold Qct
 simp only [Qe6 ho, Option.bind_some, h]
 cases l with
 | nil =>
  show (if (stable (φ ++ .cells (cs.set off .nils) :: ψ) (φ' ++ .cells (cs.set off .nils) :: ψ') (.same true o off 1) && true) = true then some (φ' ++ .cells (cs.set off .nils) :: ψ') else none) = _
  have e : stable (φ ++ .cells (cs.set off .nils) :: ψ) (φ' ++ .cells (cs.set off .nils) :: ψ') (.same true o off 1) = true := by
   simp only [stable, Qe6 ho, Qe6 ho', decide_true, Bool.true_and, if_true]
   exact V.beqs_refl _
  rw [e]; rfl
 | cons x r =>
  show (Qef (φ' ++ .cells (cs.set off (vK f (x :: r))) :: ψ') [(o, off)]).bind _ = _
  unfold Qef
  simp only [Qe6 ho', List.getElem?_set_self hl]
  show (Qef ((φ' ++ .cells (cs.set off (vK f (x :: r))) :: ψ').set o _) []).bind _ = _
  rw [Qls ho', List.set_set]
  rfl
end
end Go.Ev
namespace Go.Proofs.YtapnplljnpconaaGreatDoor
open Go.Ev
set_option maxRecDepth 100000
set_option maxHeartbeats 4000000
def Qc7 (l : List Int) : Trm := anyT (l.map fun i => .mk 2 i [])
def addC (p : Pln) (c : Ctr) : Pln := { p with ctrs := p.ctrs ++ [c] }
def Qer {α : Type} (n : Nms) (s : Sm α) : Atm := Qlr n ⟨2, false, [], s.name, s.op, s.text, s.fold⟩ (if s.ns = 0 then 2 else s.ns) s.pre
section
variable {α : Type} (r0 : Pln → Sl α → List Int × Pln) (n : Nms)
def Qdm (p : Pln) (s : Sm α) : Trm × Pln :=
 if s.kind = 1 ∨ s.kind = 2 then Qbj n p s.ns s.pre s.name
 else if s.kind = 3 then Qna p [99, 108, 97, 115, 115] 3 s.name
 else if s.kind = 4 then Qna p [105, 100] 2 s.name
 else if s.kind = 5 then Qbi p (Qer n s)
 else if s.kind = 11 then Qbi p ⟨3, false, [], s.name, 0, [], false⟩
 else if s.kind = 6 then (.mk 6 0 [], p)
 else if s.kind = 8 ∨ s.kind = 9 then (Qc7 (r0 p s.of).1, (r0 p s.of).2)
 else if s.kind = 10 then (notT (Qc7 (r0 p s.of).1), (r0 p s.of).2)
 else if s.kind = 7 then (.mk 5 (r0 p s.of).2.ctrs.length [], addC (r0 p s.of).2 ⟨s.a, s.b, (r0 p s.of).1⟩)
 else if s.kind = 12 then Qqj n p
 else (.mk 7 0 [], p)
end
def Pz (p : Pln) (m : Nat) : Prop := p.atoms.length ≤ m ∧ p.rows.length ≤ m ∧ p.ctrs.length ≤ m ∧ 0 ≤ p.steps ∧ p.steps ≤ m
theorem Pz.le {p : Pln} {m k : Nat} (h : Pz p m) (hk : m ≤ k) : Pz p k := by
 obtain ⟨h1, h2, h3, h4, h5⟩ := h
 exact ⟨by omega, by omega, by omega, h4, by omega⟩
theorem Pz.atom {p : Pln} {m : Nat} {a : Atm} (h : Pz p m) : Pz (Qbi p a).2 (m + 1) := by
 have := Qsg (p := p) (a := a)
 obtain ⟨h1, h2, h3, h4, h5⟩ := h
 refine ⟨by omega, ?_⟩
 unfold Qbi
 split <;> exact ⟨by show p.rows.length ≤ _; omega, by show p.ctrs.length ≤ _; omega, h4, by show p.steps ≤ _; omega⟩
theorem Pz.element {n : Nms} {p : Pln} {m : Nat} {ns : Int} {pre name : List UInt8} (h : Pz p m) : Pz (Qbj n p ns pre name).2 (m + 1) := by
 unfold Qbj
 split
 ·exact h.le (by omega)
 ·exact h.atom
theorem Pz.link {n : Nms} {p : Pln} {m : Nat} (h : Pz p m) : Pz (Qqj n p).2 (m + 3) := by
 have h1 := h.element (n := n) (ns := 0) (pre := []) (name := [97])
 have h2 := h1.element (n := n) (ns := 0) (pre := []) (name := [97, 114, 101, 97])
 exact h2.atom (a := atA [104, 114, 101, 102] 1 [])
section
variable {α : Type} {v : α → V} (hv : ∀ n x, V.rb n (v x) = true) {n : Nms} (hn : NmB n) {r0 : Pln → Sl α → List Int × Pln} {w0 : Sl α → Nat}
def Qh1 (v : α → V) (n : Nms) (r0 : Pln → Sl α → List Int × Pln) (w0 : Sl α → Nat) : Prop := ∀ (p : Pln) (s : Sl α) (m : Nat) (X : V), V.rb 0 X = true → Pz p m → m + w0 s ≤ 800000 →
 E cx 32 [.ptr 0 0, vSl v s] [.cells (mkC n p X)] = some (vIs (r0 p s).1, [.cells (mkC n (r0 p s).2 X)]) ∧ Pz (r0 p s).2 (m + w0 s) ∧ (r0 p s).1.length ≤ w0 s
variable (hR : Qh1 v n r0 w0) {X : V} (hX : V.rb 0 X = true)
theorem Wbz {σ : Objs} {l : List Trm} {t : Trm} {c : Cap} (hl : l.length ≤ 1000000) : appV false true 3 40 σ (vG vT 3 l) (.sl [.agg (tmC t)] c) = some (vG vT 3 (l ++ [t])) := by
 rw [← Qm9]
 refine Qkl (fun x => by rw [Qm9]; exact Qd9) (fun x => by rw [Qm9]; exact Qkm) (fun x => by rw [Qm9]; rfl) ?_
 unfold Qb0
 omega
theorem Qlt (M : List V) (hM : V.rbs 0 M = true) (rs : List Int) (hl : rs.length ≤ 800000) : ∀ (r q : List Int), rs = q ++ r →
  l_Z7_0 (Mi cx) 1 2 [.ptr 1 0, vG vT 3 (q.map fun i => .mk 2 i []), vIs rs, .int .i64 rs.length, .int .i64 q.length] [.cells M, .cells [.int .i64 0, .int .i64 0, .nils]] = some (.agg (tmC (Qc7 rs)), [.cells M])
 | [], q, hq => by
  have hq' : rs = q := by rw [hq]; simp
  subst hq'
  have e1 : ¬ (rs.length : Int) < rs.length := by omega
  have hM2 : V.rbs 2 M = true := rbs0 hM
  have hM1 : V.rbs 1 M = true := rbs0 hM
  have f1 : ∀ k σ l, fz k σ fzD (vG vT 3 l) = some (vG vT 3 l) := fun k σ l => Qax (Qkk fun x => Qk3 x)
  have hw : Wf [.cells M, .cells [.int .i64 0, .int .i64 0, .nils]] := Qc6 (Qag hM (Qag rfl Qa5))
  have k1 := Qqi (rs.map fun i => .mk 2 i []) _ hw
  have k2 : anyT (rs.map fun i => .mk 2 i []) = Qc7 rs := rfl
  rw [k2] at k1
  have t1 : (tmC (Qc7 rs)).length = 3 := Qd9
  have t2 : Qal (tmC (Qc7 rs)) = true := Qkm
  have t3 : (tmC (Qc7 rs)).map V.ng = tmC (Qc7 rs) := Qk4
  have t4 : V.rb 1 (.agg (tmC (Qc7 rs))) = true := Qk5
  have t5 := Qxv (t := Qc7 rs)
  rw [u_Z7_0]
  generalize tmC (Qc7 rs) = T at *
  simp +contextual -implicitDefEqProofs (disch := first | assumption | omega | (simp -implicitDefEqProofs only [go_sem]; try omega)) only [↓reduceIte, go_sem, iP, iN, w64, w8, w32, b_Z7_0, e1, f1, n_vG, k1, t5]
 | i :: r, q, hq => by
  have hlen : rs.length = q.length + r.length + 1 := by rw [hq]; simp; omega
  have e1 : (q.length : Int) < rs.length := by omega
  have hM2 : V.rbs 2 M = true := rbs0 hM
  have f1 : ∀ k σ l, fz k σ fzD (vG vT 3 l) = some (vG vT 3 l) := fun k σ l => Qax (Qkk fun x => Qk3 x)
  have f2 : ∀ k σ l, fz k σ fzD (vIs l) = some (vIs l) := fun k σ l => Qax Qgj
  have i1 : eI 1 (.int .i64 q.length) (vIs rs) = some (.eptr [.int .i64 i] 0) := Qav (f := V.int .i64) (p := q) (r := r) (by rw [Qh0, hq]) rfl rfl
  have a1 : ∀ σ, appV false true 3 40 σ (vG vT 3 (q.map fun i => .mk 2 i [])) (.sl [.agg [.int .i64 2, .int .i64 i, .nils]] .no) = some (vG vT 3 ((q ++ [i]).map fun i => .mk 2 i [])) := fun σ => by
   rw [List.map_append]
   exact Wbz (t := .mk 2 i []) (by rw [List.length_map]; omega)
  have ih := Qlt M hM rs hl r (q ++ [i]) (by rw [hq]; simp)
  rw [show ((q ++ [i]).length : Int) = q.length + 1 by simp] at ih
  rw [u_Z7_0]
  generalize (q ++ [i]).map (fun i => Trm.mk 2 i []) = L' at *
  generalize q.map (fun i => Trm.mk 2 i []) = L at *
  simp +contextual -implicitDefEqProofs (disch := first | assumption | omega | (simp -implicitDefEqProofs only [go_sem]; try omega)) only [↓reduceIte, go_sem, iP, iN, w64, w8, w32, b_Z7_0, e1, f1, f2, i1, a1, Qah, ih]
include hv hR hX
theorem Qxx {p : Pln} {m : Nat} (s : Sl α) (hp : Pz p m) (hm : m + w0 s ≤ 800000) (τ : Objs) (hτ : Cl0 τ) : E cx 32 [.ptr 0 0, vSl v s] (.cells (mkC n p X) :: τ) = some (vIs (r0 p s).1, .cells (mkC n (r0 p s).2 X) :: τ) :=
 E_on (hR p s m X hX hp hm).1 (by simp only [Qaf, Qam hv]; rfl) (Qar hX) (Qar hX) Qgj τ hτ
theorem Wim {p : Pln} {m : Nat} (s : Sl α) (hp : Pz p m) (hm : m + w0 s ≤ 800000) (τ : Objs) (hτ : Cl0 τ) :
  E cx 103 [.ptr 0 0, vSl v s] (.cells (mkC n p X) :: τ) = some (.agg (tmC (Qc7 (r0 p s).1)), .cells (mkC n (r0 p s).2 X) :: τ) := by
 refine E_on ?_ (by simp only [Qaf, Qam hv]; rfl) (Qar hX) (Qar hX) Qk5 τ hτ
 have k1 := Qxx hv hR hX s hp hm [.cells [.int .i64 0, .int .i64 0, .nils]] (Qag rfl Qa5)
 have hl := (hR p s m X hX hp hm).2.2
 have k2 := Qlt (mkC n (r0 p s).2 X) (Qar hX) (r0 p s).1 (by omega) (r0 p s).1 [] rfl
 have k2' : l_Z7_0 (Mi cx) 1 2 [.ptr 1 0, .nils, vIs (r0 p s).1, .int .i64 (r0 p s).1.length, .int .i64 0] [.cells (mkC n (r0 p s).2 X), .cells [.int .i64 0, .int .i64 0, .nils]] = some (.agg (tmC (Qc7 (r0 p s).1)), [.cells (mkC n (r0 p s).2 X)]) := k2
 have f2 : ∀ k σ l, fz k σ fzD (vIs l) = some (vIs l) := fun k σ l => Qax Qgj
 have e1 : (slo (r0 p s).1).l.length = (r0 p s).1.length := by rw [Qh0]
 clear k2
 rw [e_Z7]
 generalize (r0 p s).1 = rs at *
 generalize tmC (Qc7 rs) = T at *
 generalize mkC n (r0 p s).2 X = M' at *
 generalize mkC n p X = M at *
 simp +contextual -implicitDefEqProofs (disch := first | assumption | omega | (simp -implicitDefEqProofs only [go_sem]; try omega)) only [↓reduceIte, go_sem, iP, iN, w64, w8, w32, s_Z7, k1, f2, Qah, Qae, e1, k2']
omit hv hR hX in
def mkB (n : Nms) (p : Pln) (X : V) : List V := (mkC n p X).set 6 (vSl vCtr (slo p.ctrs))
theorem Qxy {p : Pln} {m : Nat} (s : Sm α) (hp : Pz p m) (hm : m + w0 s.of ≤ 800000) (τ : Objs) (hτ : Cl0 τ) :
  E cx 105 [.ptr 0 0, .agg (smC v s)] (.cells (mkC n p X) :: τ) = some (.agg (tmC (.mk 5 (r0 p s.of).2.ctrs.length [])), .cells (mkC n (addC (r0 p s.of).2 ⟨s.a, s.b, (r0 p s.of).1⟩) X) :: τ) := by
 refine E_on ?_ (by simp only [Qaf, Qa3, Qba hv]; rfl) (Qar hX) (Qar hX) Qk5 τ hτ
 have h1 : boxV [.cells (mkC n p X)] (.agg (smC v s)) = some (.ptr 1 0, [.cells (mkC n p X), .cells (smC v s)]) := Qa0 Qft Qcy
 have l1 : ∀ (O1 : O) (τ : Objs), eL (O1 :: .cells (smC v s) :: τ) false 1 (.ptr 1 10) = some (vSl v s.of) := fun O1 τ => by
  show Option.map V.ng (some (vSl v s.of)) = _
  rw [Qak, Qah]
 have l2 : ∀ (O1 : O) (τ : Objs), eL (O1 :: .cells (smC v s) :: τ) true 2 (.ptr 1 8) = some (.agg [.int .i64 s.a, .int .i64 s.b]) := fun O1 τ => rfl
 have k1 := Qxx hv hR hX s.of hp hm [.cells (smC v s), .cells [.int .i64 0, .int .i64 0, .nils]] (Qag (Qba hv) (Qag rfl Qa5))
 obtain ⟨_, ⟨z1, z2, z3, z4, z5⟩, _⟩ := hR p s.of m X hX hp hm
 generalize (r0 p s.of).1 = rs at *
 generalize (r0 p s.of).2 = q at *
 have e1 : tmC (.mk 5 q.ctrs.length []) = [.int .i64 5, .int .i64 q.ctrs.length, .nils] := rfl
 have t1 : ∀ τ : Objs, Qcv (.cells (mkC n q X) :: τ) (.ptr 0 6) = some (vG vCtr 3 q.ctrs, .cells (mkB n q X) :: τ) := fun τ => Qm8 rfl
 have a1 : ∀ σ, appV false true 3 40 σ (vG vCtr 3 q.ctrs) (.sl [.agg [.int .i64 s.a, .int .i64 s.b, vIs rs]] .no) = some (vG vCtr 3 (q.ctrs ++ [⟨s.a, s.b, rs⟩])) := fun σ => by
  refine Qkl (f := vCtr) (x := ⟨s.a, s.b, rs⟩) (fun _ => rfl) (fun x => Wkv) (fun _ => rfl) ?_
  unfold Qb0
  omega
 have s1 : ∀ τ : Objs, stV (.cells (mkB n q X) :: τ) 1 (.ptr 0 6) (vSl vCtr (slo (q.ctrs ++ [⟨s.a, s.b, rs⟩]))) (vG vCtr 3 (q.ctrs ++ [⟨s.a, s.b, rs⟩])) = some (.undef, .cells (mkC n (addC q ⟨s.a, s.b, rs⟩) X) :: τ) := fun τ => We2 (show 6 < 9 by decide)
 have l3 : ∀ τ : Objs, eL (.cells (mkC n (addC q ⟨s.a, s.b, rs⟩) X) :: τ) false 1 (.ptr 0 6) = some (vSl vCtr (slo (q.ctrs ++ [⟨s.a, s.b, rs⟩]))) := fun τ => by
  show Option.map V.ng (some (vG vCtr 3 (q.ctrs ++ [⟨s.a, s.b, rs⟩]))) = _
  rw [Qak, n_vG]
 have b1 : Qau true 3 1 (.agg [.int .i64 0, .int .i64 0, .nils]) [(0, .agg [.int .i64 s.a, .int .i64 s.b, vIs rs])] = some (.sl [.agg [.int .i64 s.a, .int .i64 s.b, vIs rs]] .fx) := Qo2 rfl (by simp only [Qcg, Qdk, Qde, Qc4, Bool.and_true])
 have e2 : (slo (q.ctrs ++ [⟨s.a, s.b, rs⟩])).l.length = q.ctrs.length + 1 := by rw [Qh0, List.length_append]; rfl
 have e3 : ((q.ctrs.length + 1 : Nat) : Int) = (q.ctrs.length : Int) + 1 := by omega
 have hM : V.rbs 1 (mkC n (addC q ⟨s.a, s.b, rs⟩) X) = true := rbs0 (Qar hX)
 rw [e_Z2, e1]
 generalize mkC n (addC q ⟨s.a, s.b, rs⟩) X = M2 at *
 generalize hcs : q.ctrs ++ [(⟨s.a, s.b, rs⟩ : Ctr)] = cs at *
 generalize mkB n q X = MB at *
 generalize mkC n q X = M1 at *
 generalize mkC n p X = M at *
 generalize smC v s = S at *
 simp +contextual -implicitDefEqProofs (disch := first | assumption | omega | (simp -implicitDefEqProofs only [go_sem]; try omega)) only [↓reduceIte, go_sem, iP, iN, w64, w8, w32, s_Z2, h1, l1, l2, k1, t1, a1, s1, l3, b1, e2, e3, Qah, n_vG, Qae, Int.add_sub_cancel]
end
end Go.Proofs.YtapnplljnpconaaGreatDoor
namespace Go.Proofs.YtapnplljnpconaaGreatDoor
open Go.Ev
set_option maxRecDepth 100000
set_option maxHeartbeats 4000000
section
variable {α : Type} {v : α → V} (hv : ∀ n x, V.rb n (v x) = true) {n : Nms} (hn : NmB n) {r0 : Pln → Sl α → List Int × Pln} {w0 : Sl α → Nat}
theorem Pz.term {p : Pln} {m : Nat} {s : Sm α} (h : Pz p m) (hr : Pz (r0 p s.of).2 (m + w0 s.of)) : Pz (Qdm r0 n p s).2 (m + (4 + w0 s.of)) := by
 unfold Qdm
 by_cases c : s.kind = 1 ∨ s.kind = 2
 ·rw [if_pos c]
  exact h.element.le (by omega)
 rw [if_neg c]
 clear c
 by_cases c : s.kind = 3
 ·rw [if_pos c]
  exact h.atom.le (by omega)
 rw [if_neg c]
 clear c
 by_cases c : s.kind = 4
 ·rw [if_pos c]
  exact h.atom.le (by omega)
 rw [if_neg c]
 clear c
 by_cases c : s.kind = 5
 ·rw [if_pos c]
  exact h.atom.le (by omega)
 rw [if_neg c]
 clear c
 by_cases c : s.kind = 11
 ·rw [if_pos c]
  exact h.atom.le (by omega)
 rw [if_neg c]
 clear c
 by_cases c : s.kind = 6
 ·rw [if_pos c]
  exact h.le (by omega)
 rw [if_neg c]
 clear c
 by_cases c : s.kind = 8 ∨ s.kind = 9
 ·rw [if_pos c]
  exact hr.le (by omega)
 rw [if_neg c]
 clear c
 by_cases c : s.kind = 10
 ·rw [if_pos c]
  exact hr.le (by omega)
 rw [if_neg c]
 clear c
 by_cases c : s.kind = 7
 ·rw [if_pos c]
  obtain ⟨h1, h2, h3, h4, h5⟩ := hr
  refine ⟨?_, ?_, ?_, ?_, ?_⟩
  ·show (r0 p s.of).2.atoms.length ≤ _; omega
  ·show (r0 p s.of).2.rows.length ≤ _; omega
  ·show ((r0 p s.of).2.ctrs ++ [_]).length ≤ _
   rw [List.length_append]; show _ + 1 ≤ _; omega
  ·exact h4
  ·show (r0 p s.of).2.steps ≤ _; omega
 rw [if_neg c]
 clear c
 by_cases c : s.kind = 12
 ·rw [if_pos c]
  exact h.link.le (by omega)
 rw [if_neg c]
 clear c
 exact h.le (by omega)
variable (hR : Qh1 v n r0 w0) {X : V} (hX : V.rb 0 X = true)
include hv hn hR hX
theorem Win {p : Pln} {m : Nat} (s : Sm α) (hp : Pz p m) (hm : m + (4 + w0 s.of) ≤ 800000) (τ : Objs) (hτ : Cl0 τ) :
  E cx 76 [.ptr 0 0, .agg (smC v s)] (.cells (mkC n p X) :: τ) = some (.agg (tmC (Qdm r0 n p s).1), .cells (mkC n (Qdm r0 n p s).2 X) :: τ) := by
 refine E_on ?_ (by simp only [Qaf, Qa3, Qba hv]; rfl) (Qar hX) (Qar hX) Qk5 τ hτ
 have z : V.rbs 0 [.int .i64 0, .int .i64 0, .nils] = true := rfl
 have hτ2 : Cl0 [.cells (smC v s), .cells [.int .i64 0, .int .i64 0, .nils]] := Qag (Qba hv) (Qag z Qa5)
 have hA : p.atoms.length ≤ 800000 := by have := hp.1; omega
 have h1 : boxV [.cells (mkC n p X)] (.agg (smC v s)) = some (.ptr 1 0, [.cells (mkC n p X), .cells (smC v s)]) := Qa0 Qft Qcy
 have l0 : ∀ (O1 : O) (τ : Objs), eL (O1 :: .cells (smC v s) :: τ) false 1 (.ptr 1 0) = some (.int .i64 s.kind) := fun O1 τ => rfl
 have l1 : ∀ (O1 : O) (τ : Objs), eL (O1 :: .cells (smC v s) :: τ) false 1 (.ptr 1 1) = some (.int .i64 s.ns) := fun O1 τ => rfl
 have l3 : ∀ (O1 : O) (τ : Objs), eL (O1 :: .cells (smC v s) :: τ) false 1 (.ptr 1 3) = some (.str s.name) := fun O1 τ => rfl
 have l4 : ∀ (O1 : O) (τ : Objs), eL (O1 :: .cells (smC v s) :: τ) true 3 (.ptr 1 4) = some (.agg [.int .i64 s.op, .str s.text, .bool s.fold]) := fun O1 τ => rfl
 have l10 : ∀ (O1 : O) (τ : Objs), eL (O1 :: .cells (smC v s) :: τ) false 1 (.ptr 1 10) = some (vSl v s.of) := fun O1 τ => by
  show Option.map V.ng (some (vSl v s.of)) = _
  rw [Qak, Qah]
 have l11 : ∀ (O1 : O) (τ : Objs), eL (O1 :: .cells (smC v s) :: τ) true 11 (.ptr 1 0) = some (.agg (smC v s)) := fun O1 τ => Qbx rfl rfl Qcy
 have hM : ∀ q : Pln, V.rbs 1 (mkC n q X) = true := fun q => rbs0 (Qar hX)
 have L : ∀ t : Trm, (tmC t).length = 3 := fun t => Qd9
 have OK : ∀ t : Trm, Qal (tmC t) = true := fun t => Qkm
 have NO : ∀ t : Trm, (tmC t).map V.ng = tmC t := fun t => Qk4
 have RB : ∀ (t : Trm), V.rb 1 (.agg (tmC t)) = true := fun t => Qk5
 have MT : ∀ (t : Trm), List.map V.ng (List.take 3 (tmC t)) = tmC t := fun t => Qxv
 have kel := Qko hv hn (p := p) hX s (by omega) _ hτ2
 have kcl := Qg7 (n := n) (p := p) hX [99, 108, 97, 115, 115] 3 s.name (by omega) _ hτ2
 have kid := Qg7 (n := n) (p := p) hX [105, 100] 2 s.name (by omega) _ hτ2
 have kst := Qnb (n := n) (p := p) hX ⟨3, false, [], s.name, 0, [], false⟩ (by omega) _ hτ2
 have kst' : E cx 101 [.ptr 0 0, .agg [.int .i64 3, .bool false, .str [], .str s.name, .int .i64 0, .str [], .bool false]] [.cells (mkC n p X), .cells (smC v s), .cells [.int .i64 0, .int .i64 0, .nils]] = _ := kst
 have kso := Wim hv hR hX s.of hp (by omega) _ hτ2
 have kco := Qxy hv hR hX s hp (by omega) _ hτ2
 have kli := Wil hn (p := p) hX (by omega) _ hτ2
 clear kst
 unfold Qdm
 rw [e_Z9]
 by_cases c1 : s.kind = 1 ∨ s.kind = 2
 ·rw [if_pos c1]
  generalize Qbj n p s.ns s.pre s.name = q at *
  have hM1 := hM q.2
  have t1 := L q.1; have t2 := OK q.1; have t3 := NO q.1; have t4 := RB q.1; have t5 := MT q.1
  clear kcl kid kst' kso kco kli l4 l10 l1 L OK NO RB MT hM hR
  generalize tmC q.1 = T at *
  generalize mkC n q.2 X = M' at *
  generalize mkC n p X = M at *
  generalize smC v s = S at *
  rcases c1 with c1 | c1 <;> rw [c1] at l0 <;> simp +contextual -implicitDefEqProofs (disch := first | assumption | omega | (simp -implicitDefEqProofs only [go_sem]; try omega)) only [↓reduceIte, go_sem, iP, iN, w64, w8, w32, s_Z9, j_Z9_0, h1, l0, l11, kel, t5]
 have c11 : ¬ s.kind = 1 := fun h => c1 (.inl h)
 have c12 : ¬ s.kind = 2 := fun h => c1 (.inr h)
 rw [if_neg c1]
 clear c1
 by_cases c3 : s.kind = 3
 ·rw [if_pos c3]
  generalize Qna p [99, 108, 97, 115, 115] 3 s.name = q at *
  have hM1 := hM q.2
  have t1 := L q.1; have t2 := OK q.1; have t3 := NO q.1; have t4 := RB q.1; have t5 := MT q.1
  clear kel kid kst' kso kco kli l4 l10 l1 L OK NO RB MT hM hR
  generalize tmC q.1 = T at *
  generalize mkC n q.2 X = M' at *
  generalize mkC n p X = M at *
  generalize smC v s = S at *
  rw [c3] at l0
  simp +contextual -implicitDefEqProofs (disch := first | assumption | omega | (simp -implicitDefEqProofs only [go_sem]; try omega)) only [↓reduceIte, go_sem, iP, iN, w64, w8, w32, s_Z9, j_Z9_0, h1, l0, l3, kcl, t5]
 rw [if_neg c3]
 by_cases c4 : s.kind = 4
 ·rw [if_pos c4]
  generalize Qna p [105, 100] 2 s.name = q at *
  have hM1 := hM q.2
  have t1 := L q.1; have t2 := OK q.1; have t3 := NO q.1; have t4 := RB q.1; have t5 := MT q.1
  clear kel kcl kst' kso kco kli l4 l10 l1 L OK NO RB MT hM hR
  generalize tmC q.1 = T at *
  generalize mkC n q.2 X = M' at *
  generalize mkC n p X = M at *
  generalize smC v s = S at *
  rw [c4] at l0
  simp +contextual -implicitDefEqProofs (disch := first | assumption | omega | (simp -implicitDefEqProofs only [go_sem]; try omega)) only [↓reduceIte, go_sem, iP, iN, w64, w8, w32, s_Z9, j_Z9_0, h1, l0, l3, kid, t5]
 rw [if_neg c4]
 by_cases c5 : s.kind = 5
 ·rw [if_pos c5]
  clear kel kcl kid kst' kso kco kli
  have sS : stV [.cells (mkC n p X), .cells (smC v s), .cells [.int .i64 0, .int .i64 0, .nils], .cells [.int .i64 2, .bool false, .str [], .str s.name, .int .i64 s.op, .str s.text, .bool s.fold]] 1 (.ptr 1 1) (.int .i64 2) (.int .i64 2) = some (.undef, [.cells (mkC n p X), .cells (smC v { s with ns := 2 }), .cells [.int .i64 0, .int .i64 0, .nils], .cells [.int .i64 2, .bool false, .str [], .str s.name, .int .i64 s.op, .str s.text, .bool s.fold]]) := rfl
  have la : ∀ (O1 O2 O3 : O) (τ : Objs), eL (O1 :: O2 :: O3 :: .cells [.int .i64 2, .bool false, .str [], .str s.name, .int .i64 s.op, .str s.text, .bool s.fold] :: τ) true 7 (.ptr 3 0) = some (.agg [.int .i64 2, .bool false, .str [], .str s.name, .int .i64 s.op, .str s.text, .bool s.fold]) := fun O1 O2 O3 τ => rfl
  have key : ∀ s' : Sm α, s'.pre = s.pre → Qlr n ⟨2, false, [], s.name, s.op, s.text, s.fold⟩ s'.ns s'.pre = Qer n s →
    E cx 102 [.ptr 0 0, .agg [.int .i64 2, .bool false, .str [], .str s.name, .int .i64 s.op, .str s.text, .bool s.fold], .agg (smC v s')] [.cells (mkC n p X), .cells (smC v s'), .cells [.int .i64 0, .int .i64 0, .nils], .cells [.int .i64 2, .bool false, .str [], .str s.name, .int .i64 s.op, .str s.text, .bool s.fold]] = some (.agg (atC (Qer n s)), [.cells (mkC n p X), .cells (smC v s'), .cells [.int .i64 0, .int .i64 0, .nils], .cells [.int .i64 2, .bool false, .str [], .str s.name, .int .i64 s.op, .str s.text, .bool s.fold]])
    ∧ E cx 101 [.ptr 0 0, .agg (atC (Qer n s))] [.cells (mkC n p X), .cells (smC v s'), .cells [.int .i64 0, .int .i64 0, .nils], .cells [.int .i64 2, .bool false, .str [], .str s.name, .int .i64 s.op, .str s.text, .bool s.fold]] = some (.agg (tmC (Qbi p (Qer n s)).1), [.cells (mkC n (Qbi p (Qer n s)).2 X), .cells (smC v s'), .cells [.int .i64 0, .int .i64 0, .nils], .cells [.int .i64 2, .bool false, .str [], .str s.name, .int .i64 s.op, .str s.text, .bool s.fold]]) := by
   intro s' hs' e
   have hτ3 : Cl0 [.cells (smC v s'), .cells [.int .i64 0, .int .i64 0, .nils], .cells [.int .i64 2, .bool false, .str [], .str s.name, .int .i64 s.op, .str s.text, .bool s.fold]] := Qag (Qba hv) (Qag z (Qag rfl Qa5))
   have k := Qsh hv hn (p := p) hX ⟨2, false, [], s.name, s.op, s.text, s.fold⟩ s' _ hτ3
   rw [e] at k
   exact ⟨k, Qnb hX _ (by omega) _ hτ3⟩
  have hM1 := hM (Qbi p (Qer n s)).2
  have t1 := L (Qbi p (Qer n s)).1; have t2 := OK (Qbi p (Qer n s)).1; have t3 := NO (Qbi p (Qer n s)).1; have t4 := RB (Qbi p (Qer n s)).1; have t5 := MT (Qbi p (Qer n s)).1
  rw [c5] at l0
  by_cases c6 : s.ns = 0
  ·obtain ⟨k1, k2⟩ := key { s with ns := 2 } rfl (by unfold Qer; rw [if_pos c6])
   have m11 : ∀ (O1 : O) (τ : Objs), eL (O1 :: .cells (smC v { s with ns := 2 }) :: τ) true 11 (.ptr 1 0) = some (.agg (smC v { s with ns := 2 })) := fun O1 τ => Qbx rfl rfl Qcy
   rw [c6] at l1
   clear key L OK NO RB MT hM hR
   generalize tmC (Qbi p (Qer n s)).1 = T at *
   generalize mkC n (Qbi p (Qer n s)).2 X = M' at *
   generalize mkC n p X = M at *
   generalize smC v { s with ns := 2 } = S2 at *
   generalize smC v s = S at *
   generalize atC (Qer n s) = AC at *
   simp +contextual -implicitDefEqProofs (disch := first | assumption | omega | (simp -implicitDefEqProofs only [go_sem]; try omega)) only [↓reduceIte, go_sem, iP, iN, w64, w8, w32, s_Z9, j_Z9_0, j_Z9_1, h1, l0, l1, l3, l4, m11, sS, la, k1, k2, t5]
  ·obtain ⟨k1, k2⟩ := key s rfl (by unfold Qer; rw [if_neg c6])
   clear key L OK NO RB MT hM hR sS
   generalize tmC (Qbi p (Qer n s)).1 = T at *
   generalize mkC n (Qbi p (Qer n s)).2 X = M' at *
   generalize mkC n p X = M at *
   generalize smC v s = S at *
   generalize atC (Qer n s) = AC at *
   simp +contextual -implicitDefEqProofs (disch := first | assumption | omega | (simp -implicitDefEqProofs only [go_sem]; try omega)) only [↓reduceIte, go_sem, iP, iN, w64, w8, w32, s_Z9, j_Z9_0, j_Z9_1, h1, l0, l1, l3, l4, l11, la, k1, k2, t5, c6]
 rw [if_neg c5]
 by_cases c11' : s.kind = 11
 ·rw [if_pos c11']
  generalize Qbi p ⟨3, false, [], s.name, 0, [], false⟩ = q at *
  have hM1 := hM q.2
  have t1 := L q.1; have t2 := OK q.1; have t3 := NO q.1; have t4 := RB q.1; have t5 := MT q.1
  clear kel kcl kid kso kco kli l4 l10 l1 L OK NO RB MT hM hR
  generalize tmC q.1 = T at *
  generalize mkC n q.2 X = M' at *
  generalize mkC n p X = M at *
  generalize smC v s = S at *
  rw [c11'] at l0
  simp +contextual -implicitDefEqProofs (disch := first | assumption | omega | (simp -implicitDefEqProofs only [go_sem]; try omega)) only [↓reduceIte, go_sem, iP, iN, w64, w8, w32, s_Z9, j_Z9_0, h1, l0, l3, kst', t5]
 rw [if_neg c11']
 by_cases c6 : s.kind = 6
 ·rw [if_pos c6]
  have e1 : tmC (.mk 6 0 []) = [.int .i64 6, .int .i64 0, .nils] := rfl
  rw [e1]
  have hM1 := hM p
  clear kel kcl kid kst' kso kco kli l4 l10 l1 L OK NO RB MT hM hR
  generalize mkC n p X = M at *
  generalize smC v s = S at *
  rw [c6] at l0
  simp +contextual -implicitDefEqProofs (disch := first | assumption | omega | (simp -implicitDefEqProofs only [go_sem]; try omega)) only [↓reduceIte, go_sem, iP, iN, w64, w8, w32, s_Z9, j_Z9_0, h1, l0]
 rw [if_neg c6]
 have hw2 : ∀ q : Pln, Wf [.cells (mkC n q X), .cells (smC v s), .cells [.int .i64 0, .int .i64 0, .nils]] := fun q => Qc6 (Qag (Qar hX) hτ2)
 by_cases c8 : s.kind = 8 ∨ s.kind = 9
 ·rw [if_pos c8]
  generalize r0 p s.of = q at *
  have hM1 := hM q.2
  have t1 := L (Qc7 q.1); have t2 := OK (Qc7 q.1); have t3 := NO (Qc7 q.1); have t4 := RB (Qc7 q.1); have t5 := MT (Qc7 q.1)
  clear kel kcl kid kst' kco kli l4 l1 L OK NO RB MT hM hR hw2
  generalize tmC (Qc7 q.1) = T at *
  generalize mkC n q.2 X = M' at *
  generalize mkC n p X = M at *
  generalize smC v s = S at *
  rcases c8 with c8 | c8 <;> rw [c8] at l0 <;> simp +contextual -implicitDefEqProofs (disch := first | assumption | omega | (simp -implicitDefEqProofs only [go_sem]; try omega)) only [↓reduceIte, go_sem, iP, iN, w64, w8, w32, s_Z9, j_Z9_0, j_Z9_2, h1, l0, l10, Qah, kso, t5]
 have c88 : ¬ s.kind = 8 := fun h => c8 (.inl h)
 have c89 : ¬ s.kind = 9 := fun h => c8 (.inr h)
 rw [if_neg c8]
 clear c8
 by_cases c10 : s.kind = 10
 ·rw [if_pos c10]
  generalize r0 p s.of = q at *
  have k2 := Wan (Qc7 q.1) _ (hw2 q.2)
  have hM1 := hM q.2
  have t1 := L (notT (Qc7 q.1)); have t2 := OK (notT (Qc7 q.1)); have t3 := NO (notT (Qc7 q.1)); have t4 := RB (notT (Qc7 q.1)); have t5 := MT (notT (Qc7 q.1))
  clear kel kcl kid kst' kco kli l4 l1 L OK NO RB MT hM hR hw2
  generalize tmC (notT (Qc7 q.1)) = T at *
  generalize tmC (Qc7 q.1) = T1 at *
  generalize mkC n q.2 X = M' at *
  generalize mkC n p X = M at *
  generalize smC v s = S at *
  rw [c10] at l0
  simp +contextual -implicitDefEqProofs (disch := first | assumption | omega | (simp -implicitDefEqProofs only [go_sem]; try omega)) only [↓reduceIte, go_sem, iP, iN, w64, w8, w32, s_Z9, j_Z9_0, j_Z9_2, h1, l0, l10, Qah, kso, k2, t5]
 rw [if_neg c10]
 by_cases c7 : s.kind = 7
 ·rw [if_pos c7]
  generalize r0 p s.of = q at *
  simp only
  have hM1 := hM (addC q.2 ⟨s.a, s.b, q.1⟩)
  have t1 := L (.mk 5 q.2.ctrs.length []); have t2 := OK (.mk 5 q.2.ctrs.length []); have t3 := NO (.mk 5 q.2.ctrs.length []); have t4 := RB (.mk 5 q.2.ctrs.length []); have t5 := MT (.mk 5 q.2.ctrs.length [])
  clear kel kcl kid kst' kso kli l4 l1 l10 L OK NO RB MT hM hR hw2
  generalize tmC (.mk 5 q.2.ctrs.length []) = T at *
  generalize mkC n (addC q.2 ⟨s.a, s.b, q.1⟩) X = M' at *
  generalize mkC n p X = M at *
  generalize smC v s = S at *
  rw [c7] at l0
  simp +contextual -implicitDefEqProofs (disch := first | assumption | omega | (simp -implicitDefEqProofs only [go_sem]; try omega)) only [↓reduceIte, go_sem, iP, iN, w64, w8, w32, s_Z9, j_Z9_0, j_Z9_2, h1, l0, l11, Qah, kco, t5]
 rw [if_neg c7]
 by_cases c12' : s.kind = 12
 ·rw [if_pos c12']
  generalize Qqj n p = q at *
  have hM1 := hM q.2
  have t1 := L q.1; have t2 := OK q.1; have t3 := NO q.1; have t4 := RB q.1; have t5 := MT q.1
  clear kel kcl kid kst' kso kco l4 l10 l1 L OK NO RB MT hM hR hw2
  generalize tmC q.1 = T at *
  generalize mkC n q.2 X = M' at *
  generalize mkC n p X = M at *
  generalize smC v s = S at *
  rw [c12'] at l0
  simp +contextual -implicitDefEqProofs (disch := first | assumption | omega | (simp -implicitDefEqProofs only [go_sem]; try omega)) only [↓reduceIte, go_sem, iP, iN, w64, w8, w32, s_Z9, j_Z9_0, j_Z9_2, h1, l0, kli, t5]
 rw [if_neg c12']
 have e1 : tmC (.mk 7 0 []) = [.int .i64 7, .int .i64 0, .nils] := rfl
 rw [e1]
 have hM1 := hM p
 clear kel kcl kid kst' kso kco kli l4 l10 l1 L OK NO RB MT hM hR hw2
 generalize mkC n p X = M at *
 generalize smC v s = S at *
 generalize s.kind = kind at *
 simp +contextual -implicitDefEqProofs (disch := first | assumption | omega | (simp -implicitDefEqProofs only [go_sem]; try omega)) only [↓reduceIte, go_sem, iP, iN, w64, w8, w32, s_Z9, j_Z9_0, j_Z9_2, h1, l0, c11, c12, c3, c4, c5, c11', c6, c88, c89, c10, c7, c12']
end
end Go.Proofs.YtapnplljnpconaaGreatDoor
namespace Go.Proofs.YtapnplljnpconaaGreatDoor
open Go.Ev
set_option maxRecDepth 100000
set_option maxHeartbeats 4000000
section
variable {α : Type}
def Wfb (x : Cp α) : List UInt8 := match x.list.l.getLast? with
 | none => []
 | some s => if s.kind = 13 then s.name else []
def Qd0 (c : Co α) : List UInt8 := match c.list.l.getLast? with
 | none => []
 | some x => Wfb x
variable (r0 : Pln → Sl α → List Int × Pln) (n : Nms)
def Qcl : Pln → List (Sm α) → List Trm × Pln
 | p, [] => ([], p)
 | p, s :: r => ((Qdm r0 n p s).1 :: (Qcl (Qdm r0 n p s).2 r).1, (Qcl (Qdm r0 n p s).2 r).2)
def Qcj : Pln → List (Cp α) → List Stp × Pln
 | p, [] => ([], p)
 | p, x :: r => (⟨x.comb, (Qcl r0 n p x.list.l).1⟩ :: (Qcj (Qcl r0 n p x.list.l).2 r).1, (Qcj (Qcl r0 n p x.list.l).2 r).2)
def addR (p : Pln) (ss : List Stp) (ps : List UInt8) : Pln := { p with rows := p.rows ++ [⟨p.steps, ss, ps⟩], steps := p.steps + ss.length }
def rowP (p : Pln) (c : Co α) : Int × Pln := ((Qcj r0 n p c.list.l).2.rows.length, addR (Qcj r0 n p c.list.l).2 (Qcj r0 n p c.list.l).1 (Qd0 c))
def Qey : Pln → List (Co α) → List Int × Pln
 | p, [] => ([], p)
 | p, c :: r => ((rowP r0 n p c).1 :: (Qey (rowP r0 n p c).2 r).1, (Qey (rowP r0 n p c).2 r).2)
end
section
variable {α : Type}
def wX (w0 : Sl α → Nat) : List (Sm α) → Nat
 | [] => 0
 | y :: r => 4 + w0 y.of + wX w0 r
def wC (w0 : Sl α → Nat) : List (Cp α) → Nat
 | [] => 0
 | x :: r => 1 + wX w0 x.list.l + wC w0 r
def wR (w0 : Sl α → Nat) (c : Co α) : Nat := 1 + wC w0 c.list.l
def wL (w0 : Sl α → Nat) : List (Co α) → Nat
 | [] => 0
 | c :: r => wR w0 c + wL w0 r
variable {w0 : Sl α → Nat}
theorem Wb0 : ∀ l : List (Sm α), l.length ≤ wX w0 l
 | [] => Nat.zero_le _
 | y :: r => by have := Wb0 r; rw [List.length_cons]; unfold wX; omega
theorem Wb1 : ∀ l : List (Cp α), l.length ≤ wC w0 l
 | [] => Nat.zero_le _
 | y :: r => by have := Wb1 r; rw [List.length_cons]; unfold wC; omega
theorem Wb2 : ∀ l : List (Co α), l.length ≤ wL w0 l
 | [] => Nat.zero_le _
 | y :: r => by have := Wb2 r; rw [List.length_cons]; unfold wL wR; omega
theorem Wb3 : ∀ {l : List (Cp α)} {x : Cp α}, x ∈ l → wX w0 x.list.l ≤ wC w0 l
 | [], x, h => by cases h
 | y :: r, x, h => by
  unfold wC
  rcases List.mem_cons.1 h with rfl | h
  ·omega
  ·have := Wb3 h; omega
end
section
variable {α : Type} {v : α → V} (hv : ∀ n x, V.rb n (v x) = true)
include hv
theorem Wap (c : Co α) (hc : c.list.l.length ≤ 1000000000) (hx : ∀ x ∈ c.list.l, x.list.l.length ≤ 1000000000) (σ : Objs) (hσ : Wf σ) : E cx 75 [.agg (coC v c)] σ = some (.str (Qd0 c), σ) := by
 refine Qbv Qbm ?_ (by simp only [Qaf, Qa3, Qc8 hv]; rfl) rfl σ hσ
 have h1 : boxV [] (.agg (coC v c)) = some (.ptr 0 0, [.cells (coC v c)]) := Qa0 Qxg Qk2
 have l0 : eL [.cells (coC v c)] false 1 (.ptr 0 0) = some (vSl (vCp v) c.list) := by
  show Option.map V.ng (some (vSl (vCp v) c.list)) = _
  rw [Qak, Qah]
 rw [e_Z16]
 unfold Qd0
 by_cases c1 : c.list.l = []
 ·have e1 : (c.list.l.length : Int) = 0 := by rw [c1]; rfl
  rw [show c.list.l.getLast? = none by rw [c1]; rfl]
  generalize coC v c = C at *
  simp +contextual -implicitDefEqProofs (disch := first | assumption | omega | (simp -implicitDefEqProofs only [go_sem]; try omega)) only [↓reduceIte, go_sem, iP, iN, w64, w8, w32, s_Z16, h1, l0, Qae, e1]
 ·have hpos : 0 < c.list.l.length := List.length_pos_iff.2 c1
  have e1 : ¬ (c.list.l.length : Int) = 0 := by omega
  obtain ⟨x, hlx⟩ : ∃ x, c.list.l.getLast? = some x := by
   cases h : c.list.l.getLast? with
   | none => exact absurd (List.getLast?_eq_none_iff.1 h) c1
   | some x => exact ⟨x, rfl⟩
  have hx1 : c.list.l[((c.list.l.length : Int) - 1).toNat]? = some x := by
   rw [List.getLast?_eq_getElem?] at hlx
   rw [show ((c.list.l.length : Int) - 1).toNat = c.list.l.length - 1 by omega]
   exact hlx
  have hxl := hx x (List.mem_of_getElem? hx1)
  have i1 : eI 2 (.int .i64 ((c.list.l.length : Int) - 1)) (vSl (vCp v) c.list) = some (.eptr (cpC v x) 0) := Qd8 (f := vCp v) hx1 (by omega) rfl
  have l1 : eL [.cells (coC v c)] false 1 (.eptr (cpC v x) 1) = some (vSl (vSm v) x.list) := by
   show Option.map V.ng (some (vSl (vSm v) x.list)) = _
   rw [Qak, Qah]
  rw [hlx]
  show _ = some (V.str (Wfb x), _)
  unfold Wfb
  by_cases c2 : x.list.l = []
  ·have e2 : (x.list.l.length : Int) = 0 := by rw [c2]; rfl
   rw [show x.list.l.getLast? = none by rw [c2]; rfl]
   generalize coC v c = C at *
   generalize cpC v x = Y at *
   simp +contextual -implicitDefEqProofs (disch := first | assumption | omega | (simp -implicitDefEqProofs only [go_sem]; try omega)) only [↓reduceIte, go_sem, iP, iN, w64, w8, w32, s_Z16, h1, l0, Qae, e1, i1, l1, e2, Qah]
  ·have hpos2 : 0 < x.list.l.length := List.length_pos_iff.2 c2
   have e2 : ¬ (x.list.l.length : Int) = 0 := by omega
   obtain ⟨s, hls⟩ : ∃ s, x.list.l.getLast? = some s := by
    cases h : x.list.l.getLast? with
    | none => exact absurd (List.getLast?_eq_none_iff.1 h) c2
    | some s => exact ⟨s, rfl⟩
   have hs1 : x.list.l[((x.list.l.length : Int) - 1).toNat]? = some s := by
    rw [List.getLast?_eq_getElem?] at hls
    rw [show ((x.list.l.length : Int) - 1).toNat = x.list.l.length - 1 by omega]
    exact hls
   have i2 : eI 11 (.int .i64 ((x.list.l.length : Int) - 1)) (vSl (vSm v) x.list) = some (.eptr (smC v s) 0) := Qd8 (f := vSm v) hs1 (by omega) rfl
   have l2 : eL [.cells (coC v c)] false 1 (.eptr (smC v s) 0) = some (.int .i64 s.kind) := rfl
   have l3 : eL [.cells (coC v c)] false 1 (.eptr (smC v s) 3) = some (.str s.name) := rfl
   rw [hls]
   simp only
   generalize coC v c = C at *
   generalize cpC v x = Y at *
   generalize smC v s = S at *
   by_cases c3 : s.kind = 13
   ·rw [if_pos c3]
    rw [c3] at l2
    simp +contextual -implicitDefEqProofs (disch := first | assumption | omega | (simp -implicitDefEqProofs only [go_sem]; try omega)) only [↓reduceIte, go_sem, iP, iN, w64, w8, w32, s_Z16, h1, l0, Qae, e1, i1, l1, e2, Qah, i2, l2, l3]
   ·rw [if_neg c3]
    simp +contextual -implicitDefEqProofs (disch := first | assumption | omega | (simp -implicitDefEqProofs only [go_sem]; try omega)) only [↓reduceIte, go_sem, iP, iN, w64, w8, w32, s_Z16, h1, l0, Qae, e1, i1, l1, e2, Qah, i2, l2, l3, c3]
end
section
variable {α : Type} {v : α → V} (hv : ∀ n x, V.rb n (v x) = true) {n : Nms} (hn : NmB n) {r0 : Pln → Sl α → List Int × Pln} {w0 : Sl α → Nat}
def rwG (f : Int) (ss : List Stp) (ps : List UInt8) : List V := [.int .i64 f, vG vStp 2 ss, .str ps]
def stG (comb : Int) (ts : List Trm) : List V := [.int .i64 comb, vG vT 3 ts]
theorem Qkp {k : Nat} {f : Int} {ss : List Stp} {ps : List UInt8} : V.rbs k (rwG f ss ps) = true := by
 simp only [rwG, Qaf, Qdl, Qj8, Qb4, Qkk (fun s => Wbu (s := s)), Bool.and_true]
theorem Qxz {k : Nat} {c : Int} {ts : List Trm} : V.rbs k (stG c ts) = true := by
 simp only [stG, Qaf, Qdl, Qb4, Qkk Qk3, Bool.and_true]
variable (hR : Qh1 v n r0 w0) {X : V} (hX : V.rb 0 X = true)
include hv hn hR hX
theorem Wb4 (c : Co α) (i : Int) (hi : 0 ≤ i ∧ i ≤ 800000) (ss : List Stp) (hss : ss.length ≤ 800000) (ps : List UInt8) (x : Cp α) (hxl : x.list.l.length ≤ 800000) (r1 : Rk) : ∀ (r q : List (Sm α)) (p : Pln) (m : Nat) (ts : List Trm), x.list.l = q ++ r → Pz p m → m + wX w0 r ≤ 800000 → ts.length + r.length ≤ 800000 →
  Pz (Qcl r0 n p r).2 (m + wX w0 r) ∧
  l_Z5_1 (Mi cx) 1 3 r1 5 [.ptr 0 0, .ptr 2 0, .ptr 4 0, vSl (vCp v) c.list, .int .i64 c.list.l.length, .int .i64 i, vSl (vSm v) x.list, .int .i64 x.list.l.length, .int .i64 q.length] [.cells (mkC n p X), .cells (coC v c), .cells (rwG 0 ss ps), .cells (cpC v x), .cells (stG x.comb ts)] =
   r1 [.ptr 0 0, .ptr 2 0, vSl (vCp v) c.list, .int .i64 c.list.l.length, .int .i64 (i + 1)] [.cells (mkC n (Qcl r0 n p r).2 X), .cells (coC v c), .cells (rwG 0 (ss ++ [⟨x.comb, ts ++ (Qcl r0 n p r).1⟩]) ps)]
 | [], q, p, m, ts, hq, hp, hm, ht => by
  have hlen : x.list.l.length = q.length := by rw [hq]; simp
  refine ⟨hp, ?_⟩
  have e1 : ¬ (q.length : Int) < x.list.l.length := by omega
  have f2 : ∀ k σ, fz k σ fzD (vSl (vCp v) c.list) = some (vSl (vCp v) c.list) := fun k σ => Qax (Qam (Qdg hv))
  have cl5 : Cl0 [.cells (mkC n p X), .cells (coC v c), .cells (rwG 0 ss ps), .cells (cpC v x), .cells (stG x.comb ts)] := Qag (Qar hX) (Qag (Qc8 hv) (Qag Qkp (Qag (Qfv hv) (Qag Qxz Qa5))))
  have c5 : cuO 5 [.cells (mkC n p X), .cells (coC v c), .cells (rwG 0 ss ps), .cells (cpC v x), .cells (stG x.comb ts)] = some [.cells (mkC n p X), .cells (coC v c), .cells (rwG 0 ss ps), .cells (cpC v x), .cells (stG x.comb ts)] := Qiz (Qc6 cl5)
  have ld1 : Qcv [.cells (mkC n p X), .cells (coC v c), .cells (rwG 0 ss ps), .cells (cpC v x), .cells (stG x.comb ts)] (.ptr 2 1) = some (vG vStp 2 ss, [.cells (mkC n p X), .cells (coC v c), .cells ((rwG 0 ss ps).set 1 (vSl vStp (slo ss))), .cells (cpC v x), .cells (stG x.comb ts)]) := Qnc (φ := [_, _]) rfl rfl
  have ld2 : eL [.cells (mkC n p X), .cells (coC v c), .cells ((rwG 0 ss ps).set 1 (vSl vStp (slo ss))), .cells (cpC v x), .cells (stG x.comb ts)] true 2 (.ptr 4 0) = some (.agg (stC ⟨x.comb, ts⟩)) := by
   show some (V.agg [(V.int .i64 x.comb).ng, (vG vT 3 ts).ng]) = _
   rw [n_vG]; rfl
  have b1 : Qau true 2 1 (.agg [.int .i64 0, .nils]) [(0, .agg (stC ⟨x.comb, ts⟩))] = some (.sl [.agg (stC ⟨x.comb, ts⟩)] .fx) := Qo2 rfl Wic
  have a1 : ∀ σ, appV false true 2 32 σ (vG vStp 2 ss) (.sl [.agg (stC ⟨x.comb, ts⟩)] .no) = some (vG vStp 2 (ss ++ [⟨x.comb, ts⟩])) := fun σ => by
   refine Qkl (f := vStp) (x := ⟨x.comb, ts⟩) (fun _ => rfl) (fun _ => Wic) (fun _ => rfl) ?_
   unfold Qb0
   omega
  have s1 : stV [.cells (mkC n p X), .cells (coC v c), .cells ((rwG 0 ss ps).set 1 (vSl vStp (slo ss))), .cells (cpC v x), .cells (stG x.comb ts)] 1 (.ptr 2 1) (vSl vStp (slo (ss ++ [⟨x.comb, ts⟩]))) (vG vStp 2 (ss ++ [⟨x.comb, ts⟩])) = some (.undef, [.cells (mkC n p X), .cells (coC v c), .cells (rwG 0 (ss ++ [⟨x.comb, ts⟩]) ps), .cells (cpC v x), .cells (stG x.comb ts)]) := We9 (φ := [_, _]) (cs := (rwG 0 ss ps).set 1 (vSl vStp (slo ss))) rfl (show 1 < 3 by decide)
  have cl3 : Cl0 [.cells (mkC n p X), .cells (coC v c), .cells (rwG 0 (ss ++ [⟨x.comb, ts⟩]) ps)] := Qag (Qar hX) (Qag (Qc8 hv) (Qag Qkp Qa5))
  have c3 : ∀ τ : Objs, cuO 3 (.cells (mkC n p X) :: .cells (coC v c) :: .cells (rwG 0 (ss ++ [⟨x.comb, ts⟩]) ps) :: τ) = some [.cells (mkC n p X), .cells (coC v c), .cells (rwG 0 (ss ++ [⟨x.comb, ts⟩]) ps)] := fun τ => Qfl (σ := [_, _, _]) (τ := τ) (Qc6 cl3)
  rw [u_Z5_1]
  unfold Qcl
  rw [List.append_nil]
  clear hR
  generalize (rwG 0 ss ps).set 1 (vSl vStp (slo ss)) = R1 at *
  generalize rwG 0 (ss ++ [⟨x.comb, ts⟩]) ps = R2 at *
  generalize rwG 0 ss ps = R0 at *
  generalize hS : ss ++ [(⟨x.comb, ts⟩ : Stp)] = SS at *
  generalize stC ⟨x.comb, ts⟩ = SC at *
  generalize stG x.comb ts = SG at *
  generalize mkC n p X = M at *
  generalize coC v c = C at *
  generalize cpC v x = Y at *
  simp +contextual -implicitDefEqProofs (disch := first | assumption | omega | (simp -implicitDefEqProofs only [go_sem]; try omega)) only [↓reduceIte, go_sem, iP, iN, w64, w8, w32, b_Z5_1, e1, f2, c5, ld1, ld2, b1, a1, s1, c3, Qah, n_vG]
 | s :: r, q, p, m, ts, hq, hp, hm, ht => by
  have hlen : x.list.l.length = q.length + r.length + 1 := by rw [hq]; simp; omega
  have hm' : m + (4 + w0 s.of) + wX w0 r ≤ 800000 := by
   have : wX w0 (s :: r) = 4 + w0 s.of + wX w0 r := rfl
   omega
  have hPr := (hR p s.of m .nils rfl hp (by omega)).2.1
  have hPt : Pz (Qdm r0 n p s).2 (m + (4 + w0 s.of)) := Pz.term hp hPr
  obtain ⟨ih1, ih2⟩ := Wb4 c i hi ss hss ps x hxl r1 r (q ++ [s]) (Qdm r0 n p s).2 (m + (4 + w0 s.of)) (ts ++ [(Qdm r0 n p s).1]) (by rw [hq]; simp) hPt hm' (by rw [List.length_append]; have h1 : [(Qdm r0 n p s).1].length = 1 := rfl; rw [List.length_cons] at ht; omega)
  rw [show ((q ++ [s]).length : Int) = q.length + 1 by simp] at ih2
  refine ⟨?_, ?_⟩
  ·have e : m + wX w0 (s :: r) = m + (4 + w0 s.of) + wX w0 r := by
    show m + (4 + w0 s.of + wX w0 r) = _
    omega
   rw [e]
   exact ih1
  have eT : (Qcl r0 n p (s :: r)).2 = (Qcl r0 n (Qdm r0 n p s).2 r).2 := rfl
  have eT1 : ts ++ (Qcl r0 n p (s :: r)).1 = ts ++ [(Qdm r0 n p s).1] ++ (Qcl r0 n (Qdm r0 n p s).2 r).1 := by
   rw [List.append_assoc]; rfl
  rw [eT, eT1, ← ih2, u_Z5_1]
  clear ih1 ih2 eT eT1
  have e1 : (q.length : Int) < x.list.l.length := by omega
  have i1 : eI 11 (.int .i64 q.length) (vSl (vSm v) x.list) = some (.eptr (smC v s) 0) := Qav (f := vSm v) hq rfl rfl
  have i2 : ∀ σ, eL σ true 11 (.eptr (smC v s) 0) = some (.agg (smC v s)) := fun σ => Qdz rfl Qcy
  have i3 : stV [.cells (mkC n p X), .cells (coC v c), .cells (rwG 0 ss ps), .cells (cpC v x), .cells (stG x.comb ts), .cells [.int .i64 0, .int .i64 0, .str [], .str [], .int .i64 0, .str [], .bool false, .int .i64 0, .int .i64 0, .int .i64 0, .nils]] 11 (.ptr 5 0) (.agg (smC v s)) (.agg (smC v s)) = some (.undef, [.cells (mkC n p X), .cells (coC v c), .cells (rwG 0 ss ps), .cells (cpC v x), .cells (stG x.comb ts), .cells (smC v s)]) := Qi4 rfl rfl rfl Qft Qcy
  have ld1 : Qcv [.cells (mkC n p X), .cells (coC v c), .cells (rwG 0 ss ps), .cells (cpC v x), .cells (stG x.comb ts), .cells (smC v s)] (.ptr 4 1) = some (vG vT 3 ts, [.cells (mkC n p X), .cells (coC v c), .cells (rwG 0 ss ps), .cells (cpC v x), .cells ((stG x.comb ts).set 1 (vSl vT (slo ts))), .cells (smC v s)]) := Qnc (φ := [_, _, _, _]) rfl rfl
  have ld2 : eL [.cells (mkC n p X), .cells (coC v c), .cells (rwG 0 ss ps), .cells (cpC v x), .cells ((stG x.comb ts).set 1 (vSl vT (slo ts))), .cells (smC v s)] true 11 (.ptr 5 0) = some (.agg (smC v s)) := Qbx rfl rfl Qcy
  have lk : Qj3 [Qct [.cells (mkC n p X), .cells (coC v c), .cells (rwG 0 ss ps), .cells (cpC v x), .cells (stG x.comb ts), .cells (smC v s)] (.ptr 4 1)] [.cells (mkC n p X), .cells (coC v c), .cells (rwG 0 ss ps), .cells (cpC v x), .cells ((stG x.comb ts).set 1 (vSl vT (slo ts))), .cells (smC v s)] = some [.cells (mkC n p X), .cells (coC v c), .cells (rwG 0 ss ps), .cells (cpC v x), .cells ((stG x.comb ts).set 1 (vK vT ts)), .cells (smC v s)] := Qxw (sz := 3) (φ := [_, _, _, _]) rfl rfl
  have hK : V.rbs 0 ((stG x.comb ts).set 1 (vK vT ts)) = true := by
   show V.rbs 0 [V.int .i64 x.comb, vK vT ts] = true
   simp only [Qaf, Qdl, Qb4, Wao Qk3, Bool.and_true]
  have k1 := Win hv hn hR hX s hp (by omega) [.cells (coC v c), .cells (rwG 0 ss ps), .cells (cpC v x), .cells ((stG x.comb ts).set 1 (vK vT ts)), .cells (smC v s)] (Qag (Qc8 hv) (Qag Qkp (Qag (Qfv hv) (Qag hK (Qag (Qba hv) Qa5)))))
  have b1 : ∀ t : Trm, Qau true 3 1 (.agg [.int .i64 0, .int .i64 0, .nils]) [(0, .agg (tmC t))] = some (.sl [.agg (tmC t)] .fx) := fun t => Qo2 Qd9 Qkm
  have a1 : ∀ σ t, appV false true 3 40 σ (vG vT 3 ts) (.sl [.agg (tmC t)] .no) = some (vG vT 3 (ts ++ [t])) := fun σ t => Wbz (by omega)
  generalize Qdm r0 n p s = q1 at *
  have op : Qg2 [Qct [.cells (mkC n p X), .cells (coC v c), .cells (rwG 0 ss ps), .cells (cpC v x), .cells (stG x.comb ts), .cells (smC v s)] (.ptr 4 1)] [.cells (mkC n p X), .cells (coC v c), .cells (rwG 0 ss ps), .cells (cpC v x), .cells ((stG x.comb ts).set 1 (vSl vT (slo ts))), .cells (smC v s)] [.cells (mkC n q1.2 X), .cells (coC v c), .cells (rwG 0 ss ps), .cells (cpC v x), .cells ((stG x.comb ts).set 1 (vK vT ts)), .cells (smC v s)] = some [.cells (mkC n q1.2 X), .cells (coC v c), .cells (rwG 0 ss ps), .cells (cpC v x), .cells ((stG x.comb ts).set 1 (vSl vT (slo ts))), .cells (smC v s)] := Wfa (sz := 3) (φ := [_, _, _, _]) (φ' := [_, _, _, _]) rfl rfl rfl
  have s1 : stV [.cells (mkC n q1.2 X), .cells (coC v c), .cells (rwG 0 ss ps), .cells (cpC v x), .cells ((stG x.comb ts).set 1 (vSl vT (slo ts))), .cells (smC v s)] 1 (.ptr 4 1) (vSl vT (slo (ts ++ [q1.1]))) (vG vT 3 (ts ++ [q1.1])) = some (.undef, [.cells (mkC n q1.2 X), .cells (coC v c), .cells (rwG 0 ss ps), .cells (cpC v x), .cells (stG x.comb (ts ++ [q1.1])), .cells (smC v s)]) := We9 (φ := [_, _, _, _]) (cs := (stG x.comb ts).set 1 (vSl vT (slo ts))) rfl (show 1 < 2 by decide)
  have cl5 : Cl0 [.cells (mkC n q1.2 X), .cells (coC v c), .cells (rwG 0 ss ps), .cells (cpC v x), .cells (stG x.comb (ts ++ [q1.1]))] := Qag (Qar hX) (Qag (Qc8 hv) (Qag Qkp (Qag (Qfv hv) (Qag Qxz Qa5))))
  have c5 : cuO 5 [.cells (mkC n q1.2 X), .cells (coC v c), .cells (rwG 0 ss ps), .cells (cpC v x), .cells (stG x.comb (ts ++ [q1.1])), .cells (smC v s)] = some [.cells (mkC n q1.2 X), .cells (coC v c), .cells (rwG 0 ss ps), .cells (cpC v x), .cells (stG x.comb (ts ++ [q1.1]))] := Qfl (σ := [_, _, _, _, _]) (τ := [_]) (Qc6 cl5)
  have f2 : ∀ k σ, fz k σ fzD (vSl (vCp v) c.list) = some (vSl (vCp v) c.list) := fun k σ => Qax (Qam (Qdg hv))
  have f3 : ∀ k σ, fz k σ fzD (vSl (vSm v) x.list) = some (vSl (vSm v) x.list) := fun k σ => Qax (Qam (Qgp hv))
  have b1' := b1 q1.1
  have a1' := fun σ => a1 σ q1.1
  clear hR b1 a1 hPt
  generalize (stG x.comb ts).set 1 (vSl vT (slo ts)) = SN at *
  generalize (stG x.comb ts).set 1 (vK vT ts) = SK at *
  generalize stG x.comb (ts ++ [q1.1]) = SG2 at *
  generalize stG x.comb ts = SG at *
  generalize rwG 0 ss ps = R0 at *
  generalize mkC n q1.2 X = M2 at *
  generalize mkC n p X = M at *
  generalize coC v c = C at *
  generalize cpC v x = Y at *
  generalize smC v s = S at *
  generalize tmC q1.1 = T at *
  generalize ts ++ [q1.1] = TS at *
  simp +contextual -implicitDefEqProofs (disch := first | assumption | omega | (simp -implicitDefEqProofs only [go_sem]; try omega)) only [↓reduceIte, go_sem, iP, iN, w64, w8, w32, b_Z5_1, e1, i1, i2, i3, ld1, ld2, lk, k1, op, b1', a1', s1, c5, f2, f3, Qah, n_vG]
end
end Go.Proofs.YtapnplljnpconaaGreatDoor
namespace Go.Proofs.YtapnplljnpconaaGreatDoor
open Go.Ev
set_option maxRecDepth 100000
set_option maxHeartbeats 4000000
section
variable {α : Type} {v : α → V} (hv : ∀ n x, V.rb n (v x) = true) {n : Nms} (hn : NmB n) {r0 : Pln → Sl α → List Int × Pln} {w0 : Sl α → Nat}
theorem Qio : ∀ (l : List (Cp α)) (p : Pln), (Qcj r0 n p l).1.length = l.length
 | [], p => rfl
 | x :: r, p => by
  show (Qcj r0 n (Qcl r0 n p x.list.l).2 r).1.length + 1 = r.length + 1
  rw [Qio r]
theorem Pz.addR {p : Pln} {m k : Nat} {ss : List Stp} {ps : List UInt8} (h : Pz p m) (hs : ss.length ≤ k) (hk : 1 ≤ k) : Pz (addR p ss ps) (m + k) := by
 obtain ⟨h1, h2, h3, h4, h5⟩ := h
 refine ⟨?_, ?_, ?_, ?_, ?_⟩
 ·show p.atoms.length ≤ _; omega
 ·show (p.rows ++ [_]).length ≤ _
  rw [List.length_append]; show p.rows.length + 1 ≤ _; omega
 ·show p.ctrs.length ≤ _; omega
 ·show 0 ≤ p.steps + _; omega
 ·show p.steps + _ ≤ _; omega
variable (hR : Qh1 v n r0 w0) {X : V} (hX : V.rb 0 X = true)
include hv hn hR hX
theorem Wb5 (c : Co α) (hcl : c.list.l.length ≤ 800000) (ps : List UInt8) (hw : ∀ x ∈ c.list.l, x.list.l.length ≤ 800000) : ∀ (r q : List (Cp α)) (p : Pln) (m : Nat) (ss : List Stp), c.list.l = q ++ r → Pz p m → m + wC w0 r ≤ 800000 → ss.length = q.length →
  ∃ m', Pz (Qcj r0 n p r).2 m' ∧ m' + r.length ≤ m + wC w0 r ∧
  l_Z5_0 (Mi cx) 1 3 [.ptr 0 0, .ptr 2 0, vSl (vCp v) c.list, .int .i64 c.list.l.length, .int .i64 q.length] [.cells (mkC n p X), .cells (coC v c), .cells (rwG 0 ss ps)] =
   some (.int .i64 (Qcj r0 n p r).2.rows.length, [.cells (mkC n (addR (Qcj r0 n p r).2 (ss ++ (Qcj r0 n p r).1) ps) X)])
 | [], q, p, m, ss, hq, hp, hm, hs => by
  have hlen : c.list.l.length = q.length := by rw [hq]; simp
  refine ⟨m, hp, Nat.le_refl _, ?_⟩
  show _ = some (V.int .i64 p.rows.length, [O.cells (mkC n (addR p (ss ++ []) ps) X)])
  rw [List.append_nil]
  obtain ⟨p1, p2, p3, p4, p5⟩ := hp
  have hm0 : m ≤ 800000 := by omega
  have e1 : ¬ (q.length : Int) < c.list.l.length := by omega
  have cl3 : ∀ p, Cl0 [.cells (mkC n p X), .cells (coC v c), .cells (rwG 0 ss ps)] := fun p => Qag (Qar hX) (Qag (Qc8 hv) (Qag Qkp Qa5))
  have c3 : cuO 3 [.cells (mkC n p X), .cells (coC v c), .cells (rwG 0 ss ps)] = some [.cells (mkC n p X), .cells (coC v c), .cells (rwG 0 ss ps)] := Qiz (Qc6 (cl3 p))
  have l8 : eL [.cells (mkC n p X), .cells (coC v c), .cells (rwG 0 ss ps)] false 1 (.ptr 0 8) = some (.int .i64 p.steps) := rfl
  have s0 : stV [.cells (mkC n p X), .cells (coC v c), .cells (rwG 0 ss ps)] 1 (.ptr 2 0) (.int .i64 p.steps) (.int .i64 p.steps) = some (.undef, [.cells (mkC n p X), .cells (coC v c), .cells (rwG p.steps ss ps)]) := rfl
  have l8' : eL [.cells (mkC n p X), .cells (coC v c), .cells (rwG p.steps ss ps)] false 1 (.ptr 0 8) = some (.int .i64 p.steps) := rfl
  have l1 : eL [.cells (mkC n p X), .cells (coC v c), .cells (rwG p.steps ss ps)] false 1 (.ptr 2 1) = some (vSl vStp (slo ss)) := by
   show Option.map V.ng (some (vG vStp 2 ss)) = _
   rw [Qak, n_vG]
  have s8 : stV [.cells (mkC n p X), .cells (coC v c), .cells (rwG p.steps ss ps)] 1 (.ptr 0 8) (.int .i64 (p.steps + ss.length)) (.int .i64 (p.steps + ss.length)) = some (.undef, [.cells (mkC n { p with steps := p.steps + ss.length } X), .cells (coC v c), .cells (rwG p.steps ss ps)]) := rfl
  have ld5 : Qcv [.cells (mkC n { p with steps := p.steps + ss.length } X), .cells (coC v c), .cells (rwG p.steps ss ps)] (.ptr 0 5) = some (vG vRw 3 p.rows, [.cells ((mkC n { p with steps := p.steps + ss.length } X).set 5 (vSl vRw (slo p.rows))), .cells (coC v c), .cells (rwG p.steps ss ps)]) := Qm8 rfl
  have lr : ∀ (O1 O2 : O), eL [O1, O2, .cells (rwG p.steps ss ps)] true 3 (.ptr 2 0) = some (.agg (rwC ⟨p.steps, ss, ps⟩)) := fun O1 O2 => by
   show some (V.agg [(V.int .i64 p.steps).ng, (vG vStp 2 ss).ng, (V.str ps).ng]) = _
   rw [n_vG]; rfl
  have b1 : Qau true 3 1 (.agg [.int .i64 0, .nils, .str []]) [(0, .agg (rwC ⟨p.steps, ss, ps⟩))] = some (.sl [.agg (rwC ⟨p.steps, ss, ps⟩)] .fx) := Qo2 rfl Wid
  have a1 : ∀ σ, appV false true 3 48 σ (vG vRw 3 p.rows) (.sl [.agg (rwC ⟨p.steps, ss, ps⟩)] .no) = some (vG vRw 3 (p.rows ++ [⟨p.steps, ss, ps⟩])) := fun σ => by
   refine Qkl (f := vRw) (x := ⟨p.steps, ss, ps⟩) (fun _ => rfl) (fun _ => Wid) (fun _ => rfl) ?_
   unfold Qb0
   omega
  have s5 : stV [.cells ((mkC n { p with steps := p.steps + ss.length } X).set 5 (vSl vRw (slo p.rows))), .cells (coC v c), .cells (rwG p.steps ss ps)] 1 (.ptr 0 5) (vSl vRw (slo (p.rows ++ [⟨p.steps, ss, ps⟩]))) (vG vRw 3 (p.rows ++ [⟨p.steps, ss, ps⟩])) = some (.undef, [.cells (mkC n (addR p ss ps) X), .cells (coC v c), .cells (rwG p.steps ss ps)]) := We2 (show 5 < 9 by decide)
  have l5 : eL [.cells (mkC n (addR p ss ps) X), .cells (coC v c), .cells (rwG p.steps ss ps)] false 1 (.ptr 0 5) = some (vSl vRw (slo (p.rows ++ [⟨p.steps, ss, ps⟩]))) := by
   show Option.map V.ng (some (vG vRw 3 (p.rows ++ [⟨p.steps, ss, ps⟩]))) = _
   rw [Qak, n_vG]
  have e2 : (slo (p.rows ++ [(⟨p.steps, ss, ps⟩ : Rw)])).l.length = p.rows.length + 1 := by rw [Qh0, List.length_append]; rfl
  have e3 : ((p.rows.length + 1 : Nat) : Int) = (p.rows.length : Int) + 1 := by omega
  have e4 : (slo ss).l.length = ss.length := by rw [Qh0]
  have hM : V.rbs 1 (mkC n (addR p ss ps) X) = true := rbs0 (Qar hX)
  rw [u_Z5_0]
  clear hR
  generalize mkC n (addR p ss ps) X = M3 at *
  generalize (mkC n { p with steps := p.steps + ss.length } X).set 5 (vSl vRw (slo p.rows)) = M2 at *
  generalize mkC n { p with steps := p.steps + ss.length } X = M1 at *
  generalize mkC n p X = M at *
  generalize coC v c = C at *
  generalize rwC ⟨p.steps, ss, ps⟩ = RC at *
  generalize hRS : p.rows ++ [(⟨p.steps, ss, ps⟩ : Rw)] = RS at *
  generalize rwG p.steps ss ps = R1 at *
  generalize rwG 0 ss ps = R0 at *
  generalize p.steps = st at *
  simp +contextual -implicitDefEqProofs (disch := first | assumption | omega | (simp -implicitDefEqProofs only [go_sem]; try omega)) only [↓reduceIte, go_sem, iP, iN, w64, w8, w32, b_Z5_0, e1, c3, l8, s0, l8', l1, s8, ld5, lr, b1, a1, s5, l5, e2, e3, e4, Qah, n_vG, Qae, Int.add_sub_cancel]
 | x :: r, q, p, m, ss, hq, hp, hm, hs => by
  have hlen : c.list.l.length = q.length + r.length + 1 := by rw [hq]; simp; omega
  have hm' : m + (1 + wX w0 x.list.l + wC w0 r) ≤ 800000 := hm
  have hxl := hw x (by rw [hq]; simp)
  obtain ⟨hT, hrow⟩ := Wb4 hv hn hR hX c q.length (by omega) ss (by omega) ps x hxl (l_Z5_0 (Mi cx) 1 3) x.list.l [] p m [] rfl hp (by omega) (by simp only [List.length_nil]; omega)
  obtain ⟨m', h1, h2, h3⟩ := Wb5 c hcl ps hw r (q ++ [x]) (Qcl r0 n p x.list.l).2 (m + wX w0 x.list.l) (ss ++ [⟨x.comb, [] ++ (Qcl r0 n p x.list.l).1⟩]) (by rw [hq]; simp) hT (by omega) (by simp; omega)
  rw [show ((q ++ [x]).length : Int) = q.length + 1 by simp] at h3
  refine ⟨m', h1, ?_, ?_⟩
  ·show m' + (r.length + 1) ≤ m + (1 + wX w0 x.list.l + wC w0 r)
   omega
  have eP : (Qcj r0 n p (x :: r)).2 = (Qcj r0 n (Qcl r0 n p x.list.l).2 r).2 := rfl
  have eS : ss ++ (Qcj r0 n p (x :: r)).1 = ss ++ [⟨x.comb, [] ++ (Qcl r0 n p x.list.l).1⟩] ++ (Qcj r0 n (Qcl r0 n p x.list.l).2 r).1 := by
   rw [List.append_assoc]; rfl
  rw [eP, eS, ← h3, ← hrow, u_Z5_0]
  clear h1 h2 h3 eP eS hT hrow
  have hrow' : (([] : List (Sm α)).length : Int) = 0 := rfl
  rw [hrow']
  have e1 : (q.length : Int) < c.list.l.length := by omega
  have i1 : eI 2 (.int .i64 q.length) (vSl (vCp v) c.list) = some (.eptr (cpC v x) 0) := Qav (f := vCp v) hq rfl rfl
  have i2 : ∀ σ, eL σ true 2 (.eptr (cpC v x) 0) = some (.agg (cpC v x)) := fun σ => Qdz rfl Qou
  have y1 : (cpC v x).length = 2 := rfl
  have y2 : Qal (cpC v x) = true := Waj
  have y3 : (cpC v x).map V.ng = cpC v x := Qou
  have l0 : ∀ (O1 O2 O3 : O) (τ : Objs), eL (O1 :: O2 :: O3 :: .cells (cpC v x) :: τ) false 1 (.ptr 3 0) = some (.int .i64 x.comb) := fun O1 O2 O3 τ => rfl
  have l1 : ∀ (O1 O2 O3 : O) (τ : Objs), eL (O1 :: O2 :: O3 :: .cells (cpC v x) :: τ) false 1 (.ptr 3 1) = some (vSl (vSm v) x.list) := fun O1 O2 O3 τ => by
   show Option.map V.ng (some (vSl (vSm v) x.list)) = _
   rw [Qak, Qah]
  have s4 : stV [.cells (mkC n p X), .cells (coC v c), .cells (rwG 0 ss ps), .cells (cpC v x), .cells [.int .i64 0, .nils]] 2 (.ptr 4 0) (.agg [.int .i64 x.comb, .nils]) (.agg [.int .i64 x.comb, .nils]) = some (.undef, [.cells (mkC n p X), .cells (coC v c), .cells (rwG 0 ss ps), .cells (cpC v x), .cells (stG x.comb [])]) := Qi4 rfl rfl rfl rfl rfl
  have f2 : ∀ k σ, fz k σ fzD (vSl (vCp v) c.list) = some (vSl (vCp v) c.list) := fun k σ => Qax (Qam (Qdg hv))
  have f3 : ∀ k σ, fz k σ fzD (vSl (vSm v) x.list) = some (vSl (vSm v) x.list) := fun k σ => Qax (Qam (Qgp hv))
  clear hR
  generalize stG x.comb [] = SG at *
  generalize rwG 0 ss ps = R0 at *
  generalize mkC n p X = M at *
  generalize coC v c = C at *
  generalize cpC v x = Y at *
  simp +contextual -implicitDefEqProofs (disch := first | assumption | omega | (simp -implicitDefEqProofs only [go_sem]; try omega)) only [↓reduceIte, go_sem, iP, iN, w64, w8, w32, b_Z5_0, e1, i1, i2, l0, l1, s4, f2, f3, Qah, Qae]
theorem Wkw {p : Pln} {m : Nat} (c : Co α) (hp : Pz p m) (hm : m + wR w0 c ≤ 800000) (τ : Objs) (hτ : Cl0 τ) :
  Pz (rowP r0 n p c).2 (m + wR w0 c) ∧
  E cx 55 [.ptr 0 0, .agg (coC v c)] (.cells (mkC n p X) :: τ) = some (.int .i64 (rowP r0 n p c).1, .cells (mkC n (rowP r0 n p c).2 X) :: τ) := by
 have hw1 : wR w0 c = 1 + wC w0 c.list.l := rfl
 have hcl := Wb1 (w0 := w0) c.list.l
 have hcx : ∀ x ∈ c.list.l, x.list.l.length ≤ 800000 := fun x hx => by
  have h1 := Wb3 (w0 := w0) hx
  have h2 := Wb0 (w0 := w0) x.list.l
  omega
 obtain ⟨m', h1, h2, h3⟩ := Wb5 hv hn hR hX c (by omega) (Qd0 c) hcx c.list.l [] p m [] rfl hp (by omega) rfl
 refine ⟨?_, E_on ?_ (by simp only [Qaf, Qa3, Qc8 hv]; rfl) (Qar hX) (Qar hX) rfl τ hτ⟩
 ·have h5 : (Qcj r0 n p c.list.l).1.length = c.list.l.length := Qio _ _
  have h4 := h1.addR (ss := (Qcj r0 n p c.list.l).1) (ps := Qd0 c) (k := c.list.l.length + 1) (by omega) (by omega)
  exact h4.le (by omega)
 have h3' : l_Z5_0 (Mi cx) 1 3 [.ptr 0 0, .ptr 2 0, vSl (vCp v) c.list, .int .i64 c.list.l.length, .int .i64 0] [.cells (mkC n p X), .cells (coC v c), .cells (rwG 0 [] (Qd0 c))] = some (.int .i64 (rowP r0 n p c).1, [.cells (mkC n (rowP r0 n p c).2 X)]) := h3
 have b1 : boxV [.cells (mkC n p X)] (.agg (coC v c)) = some (.ptr 1 0, [.cells (mkC n p X), .cells (coC v c)]) := Qa0 Qxg Qk2
 have l1 : ∀ (O1 : O), eL [O1, .cells (coC v c)] true 1 (.ptr 1 0) = some (.agg (coC v c)) := fun O1 => Qbx rfl rfl Qk2
 have k1 := Wap hv c (by omega) (fun x hx => by have := hcx x hx; omega) [.cells (mkC n p X), .cells (coC v c)] (Qc6 (Qag (Qar hX) (Qag (Qc8 hv) Qa5)))
 have s1 : stV [.cells (mkC n p X), .cells (coC v c), .cells [.int .i64 0, .nils, .str []]] 3 (.ptr 2 0) (.agg [.int .i64 0, .nils, .str (Qd0 c)]) (.agg [.int .i64 0, .nils, .str (Qd0 c)]) = some (.undef, [.cells (mkC n p X), .cells (coC v c), .cells (rwG 0 [] (Qd0 c))]) := Qi4 rfl rfl rfl rfl rfl
 have l0 : ∀ (O1 : O) (τ : Objs), eL (O1 :: .cells (coC v c) :: τ) false 1 (.ptr 1 0) = some (vSl (vCp v) c.list) := fun O1 τ => by
  show Option.map V.ng (some (vSl (vCp v) c.list)) = _
  rw [Qak, Qah]
 have f2 : ∀ k σ, fz k σ fzD (vSl (vCp v) c.list) = some (vSl (vCp v) c.list) := fun k σ => Qax (Qam (Qdg hv))
 clear h1 h2 h3 hR
 rw [e_Z5]
 generalize rowP r0 n p c = q at *
 generalize rwG 0 [] (Qd0 c) = R0 at *
 generalize mkC n q.2 X = M' at *
 generalize mkC n p X = M at *
 generalize coC v c = C at *
 generalize Qd0 c = ps at *
 simp +contextual -implicitDefEqProofs (disch := first | assumption | omega | (simp -implicitDefEqProofs only [go_sem]; try omega)) only [↓reduceIte, go_sem, iP, iN, w64, w8, w32, s_Z5, b1, l1, k1, s1, l0, f2, Qah, Qae, h3']
end
section
variable {α : Type} {v : α → V} (hv : ∀ n x, V.rb n (v x) = true) {n : Nms} (hn : NmB n) {r0 : Pln → Sl α → List Int × Pln} {w0 : Sl α → Nat}
variable (hR : Qh1 v n r0 w0) {X : V} (hX : V.rb 0 X = true)
include hv hn hR hX
theorem Qlu (s : Sl (Co α)) (hs : s.l.length ≤ 800000) : ∀ (r q : List (Co α)) (p : Pln) (m : Nat) (is : List Int), s.l = q ++ r → Pz p m → m + wL w0 r ≤ 800000 → is.length = q.length →
  Pz (Qey r0 n p r).2 (m + wL w0 r) ∧
  l_Z6_0 (Mi cx) 1 1 [.ptr 0 0, vG (V.int .i64) 1 is, vSl (vCo v) s, .int .i64 s.l.length, .int .i64 q.length] [.cells (mkC n p X)] =
   some (vIs (is ++ (Qey r0 n p r).1), [.cells (mkC n (Qey r0 n p r).2 X)])
 | [], q, p, m, is, hq, hp, hm, hi => by
  have hlen : s.l.length = q.length := by rw [hq]; simp
  refine ⟨hp, ?_⟩
  show _ = some (vIs (is ++ []), [O.cells (mkC n p X)])
  rw [List.append_nil]
  have e1 : ¬ (q.length : Int) < s.l.length := by omega
  have hM : V.rbs 1 (mkC n p X) = true := rbs0 (Qar hX)
  have f1 : ∀ k σ, fz k σ fzD (vG (V.int .i64) 1 is) = some (vG (V.int .i64) 1 is) := fun k σ => Qax (Qkk fun _ => rfl)
  have o1 : oK false (vG (V.int .i64) 1 is) = some (vIs is) := We3 (keep := false)
  have r1 : V.rb 1 (vIs is) = true := Qgj
  rw [u_Z6_0]
  clear hR
  generalize mkC n p X = M at *
  simp +contextual -implicitDefEqProofs (disch := first | assumption | omega | (simp -implicitDefEqProofs only [go_sem]; try omega)) only [↓reduceIte, go_sem, iP, iN, w64, w8, w32, b_Z6_0, e1, f1, o1]
 | c :: r, q, p, m, is, hq, hp, hm, hi => by
  have hlen : s.l.length = q.length + r.length + 1 := by rw [hq]; simp; omega
  have hm' : m + (wR w0 c + wL w0 r) ≤ 800000 := hm
  have hz : Cl0 [.cells (coC v c)] := Qag (Qc8 hv) Qa5
  obtain ⟨h1, h2⟩ := Wkw hv hn hR hX c hp (by omega) [.cells (coC v c)] hz
  obtain ⟨h3, h4⟩ := Qlu s hs r (q ++ [c]) (rowP r0 n p c).2 (m + wR w0 c) (is ++ [(rowP r0 n p c).1]) (by rw [hq]; simp) h1 (by omega) (by simp; omega)
  rw [show ((q ++ [c]).length : Int) = q.length + 1 by simp] at h4
  refine ⟨?_, ?_⟩
  ·have e : m + wL w0 (c :: r) = m + wR w0 c + wL w0 r := by
    show m + (wR w0 c + wL w0 r) = _
    omega
   rw [e]; exact h3
  have e1 : is ++ (Qey r0 n p (c :: r)).1 = is ++ [(rowP r0 n p c).1] ++ (Qey r0 n (rowP r0 n p c).2 r).1 := by rw [List.append_assoc]; rfl
  have e2 : (Qey r0 n p (c :: r)).2 = (Qey r0 n (rowP r0 n p c).2 r).2 := rfl
  rw [e1, e2, ← h4, u_Z6_0]
  clear h3 h4 e1 e2 h1
  generalize rowP r0 n p c = y at *
  have e1 : (q.length : Int) < s.l.length := by omega
  have i1 : eI 1 (.int .i64 q.length) (vSl (vCo v) s) = some (.eptr (coC v c) 0) := Qav (f := vCo v) hq rfl rfl
  have i2 : ∀ σ, eL σ true 1 (.eptr (coC v c) 0) = some (.agg (coC v c)) := fun σ => Qdz rfl Qk2
  have y1 : (coC v c).length = 1 := rfl
  have y2 : Qal (coC v c) = true := Qxg
  have y3 : (coC v c).map V.ng = coC v c := Qk2
  have l1 : ∀ (O1 : O), eL [O1, .cells (coC v c)] true 1 (.ptr 1 0) = some (.agg (coC v c)) := fun O1 => Qbx rfl rfl Qk2
  have a1 : ∀ σ, appV false false 1 8 σ (vG (V.int .i64) 1 is) (.sl [.int .i64 y.1] .no) = some (vG (V.int .i64) 1 (is ++ [y.1])) := fun σ => by
   refine Qkl (fun _ => rfl) (fun _ => rfl) (fun _ => rfl) ?_
   unfold Qb0
   omega
  have c1 : cuO 1 [.cells (mkC n y.2 X), .cells (coC v c)] = some [.cells (mkC n y.2 X)] := Qc2 (rbs0 (Qar hX))
  have f1 : ∀ k σ is, fz k σ fzD (vG (V.int .i64) 1 is) = some (vG (V.int .i64) 1 is) := fun k σ is => Qax (Qkk fun _ => rfl)
  have f2 : ∀ k σ, fz k σ fzD (vSl (vCo v) s) = some (vSl (vCo v) s) := fun k σ => Qax (Qam (Qco hv))
  clear hR hz
  generalize mkC n y.2 X = M' at *
  generalize mkC n p X = M at *
  generalize coC v c = C at *
  generalize is ++ [y.1] = IS at *
  simp +contextual -implicitDefEqProofs (disch := first | assumption | omega | (simp -implicitDefEqProofs only [go_sem]; try omega)) only [↓reduceIte, go_sem, iP, iN, w64, w8, w32, b_Z6_0, e1, i1, i2, l1, h2, a1, c1, f1, f2, Qah]
end
def rwsN (n : Nms) : (k : Nat) → Pln → Sl (Cx k) → List Int × Pln
 | 0, p, s => ([], p)
 | k + 1, p, s => Qey (rwsN n k) n p s.l
def wN : (k : Nat) → Sl (Cx k) → Nat
 | 0, s => 0
 | k + 1, s => wL (wN k) s.l
theorem Qkq {α : Type} {r0 : Pln → Sl α → List Int × Pln} {n : Nms} : ∀ (l : List (Co α)) (p : Pln), (Qey r0 n p l).1.length = l.length
 | [], p => rfl
 | c :: r, p => by
  show (Qey r0 n (rowP r0 n p c).2 r).1.length + 1 = r.length + 1
  rw [Qkq r]
theorem Wfc {α : Type} {v : α → V} (hv : ∀ n x, V.rb n (v x) = true) {n : Nms} (hn : NmB n) {r0 : Pln → Sl α → List Int × Pln} {w0 : Sl α → Nat} (hR : Qh1 v n r0 w0) :
  Qh1 (vCo v) n (fun p s => Qey r0 n p s.l) (fun s => wL w0 s.l) := fun p s m X hX hp hm => by
 have hs := Wb2 (w0 := w0) s.l
 have hm' : m + wL w0 s.l ≤ 800000 := hm
 obtain ⟨h1, h2⟩ := Qlu hv hn hR hX s (by omega) s.l [] p m [] rfl hp hm' rfl
 refine ⟨?_, h1, ?_⟩
 ·have h2' : l_Z6_0 (Mi cx) 1 1 [.ptr 0 0, .nils, vSl (vCo v) s, .int .i64 s.l.length, .int .i64 0] [.cells (mkC n p X)] = some (vIs (Qey r0 n p s.l).1, [.cells (mkC n (Qey r0 n p s.l).2 X)]) := h2
  have hM : V.rbs 1 (mkC n p X) = true := rbs0 (Qar hX)
  have f2 : ∀ k' σ, fz k' σ fzD (vSl (vCo v) s) = some (vSl (vCo v) s) := fun k' σ => Qax (Qam (Qco hv))
  rw [e_Z6]
  clear hR h2 h1
  simp only
  generalize Qey r0 n p s.l = y at *
  generalize mkC n y.2 X = M' at *
  generalize mkC n p X = M at *
  simp +contextual -implicitDefEqProofs (disch := first | assumption | omega | (simp -implicitDefEqProofs only [go_sem]; try omega)) only [↓reduceIte, go_sem, iP, iN, w64, w8, w32, s_Z6, Qae, f2, Qah, h2']
 ·show (Qey r0 n p s.l).1.length ≤ wL w0 s.l
  rw [Qkq]
  exact hs
theorem Qx0 {n : Nms} (hn : NmB n) : ∀ k : Nat, Qh1 (vCx k) n (rwsN n k) (wN k)
 | 0 => fun p s m X hX hp hm => by
  have e : s.l = [] := sl0 (α := Cx 0) (fun x => Empty.elim x) s
  refine ⟨?_, hp, Nat.zero_le _⟩
  show _ = some (V.nils, [O.cells (mkC n p X)])
  have hM : V.rbs 1 (mkC n p X) = true := rbs0 (Qar hX)
  have e2 : (s.l.length : Int) = 0 := by rw [e]; rfl
  have f2 : ∀ k σ, fz k σ fzD (vSl (vCx 0) s) = some (vSl (vCx 0) s) := fun k σ => Qax (Qam (Qdv 0))
  rw [e_Z6]
  generalize mkC n p X = M at *
  have u : l_Z6_0 (Mi cx) 1 1 [.ptr 0 0, .nils, vSl (vCx 0) s, .int .i64 0, .int .i64 0] [.cells M] = some (.nils, [.cells M]) := by
   rw [u_Z6_0]
   simp +contextual -implicitDefEqProofs (disch := first | assumption | omega | (simp -implicitDefEqProofs only [go_sem]; try omega)) only [↓reduceIte, go_sem, iP, iN, w64, w8, w32, b_Z6_0, e2]
  simp +contextual -implicitDefEqProofs (disch := first | assumption | omega | (simp -implicitDefEqProofs only [go_sem]; try omega)) only [↓reduceIte, go_sem, iP, iN, w64, w8, w32, s_Z6, Qae, e2, f2, Qah, u]
 | k + 1 => Wfc (Qdv k) hn (Qx0 hn k)
end Go.Proofs.YtapnplljnpconaaGreatDoor
namespace Go.Ev
section
variable {α : Type} {f : α → V} {sz : Nat} {l : List α} {φ φ' ψ ψ' : Objs} {cs ds : List V} {o off : Nat}
theorem Qsi {x : V} (h : cs[off]? = some x) : (cs.drop off).take 1 = [x] := by
 obtain ⟨hl, e⟩ := List.getElem?_eq_some_iff.1 h
 rw [List.drop_eq_getElem_cons hl, e]; rfl
theorem Waq (ho : φ.length = o) (ho' : φ'.length = o) (h : cs[off]? = some (vG f sz l)) (hd : ds[off]? = some (vK f l)) (hlen : cs.length = ds.length) :
  Qg2 [Qct (φ ++ .cells cs :: ψ) (.ptr o off)] (φ ++ .cells (cs.set off (vSl f (slo l))) :: ψ) (φ' ++ .cells ds :: ψ') = some (φ' ++ .cells (ds.set off (vSl f (slo l))) :: ψ') := by
 have hl := Qqk h
 unfold Qct
 simp only [Qe6 ho, Option.bind_some, h]
 cases l with
 | nil =>
  have hd' : ds[off]? = some V.nils := hd
  have e2 : ds.set off .nils = ds := by
   obtain ⟨hl', e⟩ := List.getElem?_eq_some_iff.1 hd'
   rw [← e]; exact List.set_getElem_self _
  show (if (stable (φ ++ .cells (cs.set off .nils) :: ψ) (φ' ++ .cells ds :: ψ') (.same true o off 1) && true) = true then some (φ' ++ O.cells ds :: ψ') else none) = some (φ' ++ O.cells (ds.set off .nils) :: ψ')
  have e : stable (φ ++ .cells (cs.set off .nils) :: ψ) (φ' ++ .cells ds :: ψ') (.same true o off 1) = true := by
   have q1 : ((cs.set off V.nils).drop off).take 1 = [V.nils] := Qsi (List.getElem?_set_self hl)
   have q2 : (ds.drop off).take 1 = [V.nils] := Qsi hd'
   simp only [stable, Qe6 ho, Qe6 ho', List.length_set, hlen, decide_true, Bool.true_and, if_true, q1, q2]
   exact V.beqs_refl _
  rw [e, e2]; rfl
 | cons x r =>
  show (Qef (φ' ++ .cells ds :: ψ') [(o, off)]).bind _ = _
  have hd' : ds[off]? = some (V.sl ((x :: r).map f) .lk) := hd
  unfold Qef
  simp only [Qe6 ho', hd']
  show (Qef ((φ' ++ .cells ds :: ψ').set o _) []).bind _ = _
  rw [Qls ho']
  rfl
end
end Go.Ev
namespace Go.Proofs.YtapnplljnpconaaGreatDoor
open Go.Ev
set_option maxRecDepth 100000
set_option maxHeartbeats 4000000
def Qh2 (n : Nms) {k : Nat} : Pln → List (List Int) → Nat → List (Sl (Cx k)) → Sum (Pln × List (List Int)) Nat
 | p, L, i, [] => .inl (p, L)
 | p, L, i, s :: r => if chkS n s = 0 then Qh2 n (rwsN n k p s).2 (L ++ [(rwsN n k p s).1]) (i + 1) r else .inr i
def plC (p : Pln) (L : List (List Int)) : List V := [vSl vAtm (slo p.atoms), vSl vRw (slo p.rows), vSl vCtr (slo p.ctrs), vSl vIs (slo L), .int .i64 p.steps]
def plZ : List V := [.nils, .nils, .nils, .nils, .int .i64 0]
def p0 : Pln := ⟨[], [], [], 0⟩
def errW (i : Nat) (c : Int) : V := .ifc 98 (.eptr [.int .i64 1, .int .i64 i, errZ c] 0)
theorem Qx1 {k : Nat} {c : Int} : V.rb k (errZ c) = true := by unfold errZ; split <;> rfl
theorem Qnd {k i : Nat} {c : Int} : V.rb k (errW i c) = true := by
 show V.rbs k [.int .i64 1, .int .i64 i, errZ c] = true
 simp only [Qaf, Qdl, Qx1, Qb4, Bool.and_true]
def wA {k : Nat} : List (Sl (Cx k)) → Nat
 | [] => 0
 | s :: r => wN k s + wA r
def War (n : Nms) {k : Nat} (L : List (Sl (Cx k))) (x : V) : Prop :=
 (okN n = false ∧ ∃ e t y, x = .tup [.agg plZ, e] ∧ e = .ifc t y) ∨ (okN n = true ∧ ((∃ i, Qh2 n p0 [] 0 L = .inr i ∧ ∃ t y, x = .tup [.agg plZ, .ifc t y]) ∨ ∃ q, Qh2 n p0 [] 0 L = .inl q ∧ x = .tup [.agg (plC q.1 q.2), .nili]))
theorem Qkr {k : Nat} {p : Pln} {L : List (List Int)} : V.rbs k (plC p L) = true := by
 simp only [plC, Qaf, Qdl, Qb4, Qam (fun n x => Qoz (n := n) (a := x)), Qam (fun n x => Wib (n := n) (r := x)), Qam (fun n x => Wbv (n := n) (c := x)), Qam (fun n x => Qgj (n := n) (l := x)), Bool.and_true]
theorem Wfd {p : Pln} {L : List (List Int)} : Qal (plC p L) = true := by simp only [plC, Qcg, Qdk, Qde, Qc4, Bool.and_true]
theorem Was {p : Pln} {L : List (List Int)} : (plC p L).map V.ng = plC p L := by simp only [plC, List.map_cons, List.map_nil, Qs4, Qah]
theorem Wio (i : Nat) (c : Int) (σ : Objs) (hσ : Wf σ) : E cx 31 [.int .i64 1, .int .i64 i, errZ c] σ = some (errW i c, σ) := by
 refine Qbv Qbm ?_ (by simp only [Qaf, Qdl, Qx1, Qb4, Bool.and_true]) Qnd σ hσ
 rw [e_Zx]
 unfold errW errZ
 split <;> simp +contextual -implicitDefEqProofs (disch := first | assumption | omega | (simp -implicitDefEqProofs only [go_sem]; try omega)) only [↓reduceIte, go_sem, iP, iN, w64, w8, w32, s_Zx, errN]
section
variable {n : Nms} (hn : NmB n) {k : Nat}
include hn
theorem Qsj (LL : Sl (Sl (Cx k))) (hLL : LL.l.length ≤ 4) (hB : ∀ s ∈ LL.l, Bd 41 k s) : ∀ (r q : List (Sl (Cx k))) (p : Pln) (m : Nat) (L : List (List Int)), LL.l = q ++ r → Pz p m → m + wA r ≤ 800000 → L.length = q.length →
  l_Z10_0 (Mi cx) 0 3 [.ptr 0 0, .ptr 1 0, .ptr 2 0, vSl (vSl (vCx k)) LL, .int .i64 LL.l.length, .int .i64 q.length] [.cells (Qaa n), .cells plZ, .cells (mkC n p (vG vIs 1 L))] =
   some (match Qh2 n p L q.length r with
    | .inl y => .tup [.agg (plC y.1 y.2), .nili]
    | .inr i => .tup [.agg plZ, errW i (chkS n (LL.l.getD i .nil))], [])
 | [], q, p, m, L, hq, hp, hm, hL => by
  have hlen : LL.l.length = q.length := by rw [hq]; simp
  have e1 : ¬ (q.length : Int) < LL.l.length := by omega
  show _ = some (V.tup [V.agg (plC p L), V.nili], [])
  have cl3 : Cl0 [.cells (Qaa n), .cells plZ, .cells (mkC n p (vG vIs 1 L))] := Qag Qai (Qag rfl (Qag (Qar (Qkk fun x => Qgj)) Qa5))
  have c3 : cuO 3 [.cells (Qaa n), .cells plZ, .cells (mkC n p (vG vIs 1 L))] = some [.cells (Qaa n), .cells plZ, .cells (mkC n p (vG vIs 1 L))] := Qiz (Qc6 cl3)
  have l1 : eL [.cells (Qaa n), .cells plZ, .cells (mkC n p (vG vIs 1 L))] true 5 (.ptr 2 4) = some (.agg (plC p L)) := by
   show some (V.agg [(vG vAtm 7 p.atoms).ng, (vG vRw 3 p.rows).ng, (vG vCtr 3 p.ctrs).ng, (vG vIs 1 L).ng, (V.int .i64 p.steps).ng]) = _
   rw [n_vG, n_vG, n_vG, n_vG]; rfl
  have s1 : stV [.cells (Qaa n), .cells plZ, .cells (mkC n p (vG vIs 1 L))] 5 (.ptr 1 0) (.agg (plC p L)) (.agg (plC p L)) = some (.undef, [.cells (Qaa n), .cells (plC p L), .cells (mkC n p (vG vIs 1 L))]) := Qi4 rfl rfl rfl Wfd Was
  have r1 : ∀ (O1 O3 : O), resC [O1, .cells (plC p L), O3] true 5 (.ptr 1 0) = some (.agg (plC p L)) := fun O1 O3 => by
   rw [Qxt]
   show Ev.part true 5 (plC p L) 0 = _
   exact Qo1 rfl Was
  have e0 : V.rb 0 (.tup [.agg (plC p L), .nili]) = true := by
   show V.rbs 0 [.agg (plC p L), .nili] = true
   simp only [Qaf, Qa3, Qkr]; rfl
  rw [u_Z10_0]
  generalize plC p L = P at *
  generalize mkC n p (vG vIs 1 L) = M at *
  generalize Qaa n = N at *
  simp +contextual -implicitDefEqProofs (disch := first | assumption | omega | (simp -implicitDefEqProofs only [go_sem]; try omega)) only [↓reduceIte, go_sem, iP, iN, w64, w8, w32, b_Z10_0, e1, c3, l1, s1, r1]
 | s :: r, q, p, m, L, hq, hp, hm, hL => by
  have hlen : LL.l.length = q.length + r.length + 1 := by rw [hq]; simp; omega
  have hm' : m + (wN k s + wA r) ≤ 800000 := hm
  have e1 : (q.length : Int) < LL.l.length := by omega
  have i1 : eI 1 (.int .i64 q.length) (vSl (vSl (vCx k)) LL) = some (.eptr [vSl (vCx k) s] 0) := by
   have := Qav (f := vSl (vCx k)) (sz := 1) (k := .i64) hq rfl (by rw [Qbw]; rfl)
   rw [Qbw] at this
   exact this
  have i2 : ∀ σ, eL σ false 1 (.eptr [vSl (vCx k) s] 0) = some (vSl (vCx k) s) := fun σ => by
   show Option.map V.ng (some (vSl (vCx k) s)) = _
   rw [Qak, Qah]
  have l0 : ∀ τ : Objs, eL (.cells (Qaa n) :: τ) true 4 (.ptr 0 0) = some (.agg (Qaa n)) := fun τ => Qbx rfl rfl no_n
  have cl3 : ∀ p X, V.rb 0 X = true → Cl0 [.cells (Qaa n), .cells plZ, .cells (mkC n p X)] := fun p X hX => Qag Qai (Qag rfl (Qag (Qar hX) Qa5))
  have rbL : ∀ L : List (List Int), V.rb 0 (vG vIs 1 L) = true := fun L => Qkk fun x => Qgj
  have w3 := Qc6 (cl3 p _ (rbL L))
  have k1 := Qtx hn s (d := 41) (by omega) (hB s (by rw [hq]; simp)) _ w3
  have c3 : ∀ p L, cuO 3 [.cells (Qaa n), .cells plZ, .cells (mkC n p (vG vIs 1 L))] = some [.cells (Qaa n), .cells plZ, .cells (mkC n p (vG vIs 1 L))] := fun p L => Qiz (Qc6 (cl3 p _ (rbL L)))
  have c3p := c3 p L
  have f2 : ∀ k' σ, fz k' σ fzD (vSl (vSl (vCx k)) LL) = some (vSl (vSl (vCx k)) LL) := fun k' σ => Qax (Qam fun _ _ => Qc5)
  rw [u_Z10_0]
  unfold Qh2
  by_cases c1 : chkS n s = 0
  ·rw [if_pos c1]
   have k1' : E cx 30 [vSl (vCx k) s, .agg (Qaa n)] [.cells (Qaa n), .cells plZ, .cells (mkC n p (vG vIs 1 L))] = some (.nili, [.cells (Qaa n), .cells plZ, .cells (mkC n p (vG vIs 1 L))]) := by
    rw [k1, c1]; rfl
   obtain ⟨q0, q1, q2⟩ := Qx0 hn k p s m (vK vIs L) (Wao fun x => Qgj) hp (by omega)
   have ih := Qsj LL hLL hB r (q ++ [s]) (rwsN n k p s).2 (m + wN k s) (L ++ [(rwsN n k p s).1]) (by rw [hq]; simp) q1 (by omega) (by simp; omega)
   rw [show ((q ++ [s]).length : Int) = q.length + 1 by simp, show (q ++ [s]).length = q.length + 1 by simp] at ih
   have k2 : E cx 32 [.ptr 2 0, vSl (vCx k) s] [.cells (Qaa n), .cells plZ, .cells (mkC n p (vK vIs L))] = some (vIs (rwsN n k p s).1, [.cells (Qaa n), .cells plZ, .cells (mkC n (rwsN n k p s).2 (vK vIs L))]) :=
    E_at q0 (by simp only [Qaf, Qc5]; rfl) (Qar (Wao fun x => Qgj)) (Qar (Wao fun x => Qgj)) Qgj [.cells (Qaa n), .cells plZ] (Qag Qai (Qag rfl Qa5))
   have ld : Qcv [.cells (Qaa n), .cells plZ, .cells (mkC n p (vG vIs 1 L))] (.ptr 2 7) = some (vG vIs 1 L, [.cells (Qaa n), .cells plZ, .cells (mkC n p (vSl vIs (slo L)))]) := Qnc (φ := [_, _]) (cs := mkC n p (vG vIs 1 L)) rfl rfl
   have lk : Qj3 [Qct [.cells (Qaa n), .cells plZ, .cells (mkC n p (vG vIs 1 L))] (.ptr 2 7)] [.cells (Qaa n), .cells plZ, .cells (mkC n p (vSl vIs (slo L)))] = some [.cells (Qaa n), .cells plZ, .cells (mkC n p (vK vIs L))] := Qxw (sz := 1) (φ := [_, _]) (cs := mkC n p (vG vIs 1 L)) (off := 7) rfl rfl
   generalize rwsN n k p s = y at *
   have op : Qg2 [Qct [.cells (Qaa n), .cells plZ, .cells (mkC n p (vG vIs 1 L))] (.ptr 2 7)] [.cells (Qaa n), .cells plZ, .cells (mkC n p (vSl vIs (slo L)))] [.cells (Qaa n), .cells plZ, .cells (mkC n y.2 (vK vIs L))] = some [.cells (Qaa n), .cells plZ, .cells (mkC n y.2 (vSl vIs (slo L)))] := by
    exact Waq (sz := 1) (φ := [_, _]) (φ' := [_, _]) (cs := mkC n p (vG vIs 1 L)) (ds := mkC n y.2 (vK vIs L)) (off := 7) rfl rfl rfl rfl rfl
   have a1 : ∀ σ, appV false false 1 24 σ (vG vIs 1 L) (.sl [vIs y.1] .no) = some (vG vIs 1 (L ++ [y.1])) := fun σ => by
    refine Qkl (f := vIs) (fun _ => by rw [Qbw]; rfl) (fun x => by rw [Qbw, Qcg, Qc4]; rfl) (fun _ => Qrz) ?_
    unfold Qb0
    omega
   have b1 : Qau false 1 1 .nils [(0, vIs y.1)] = some (.sl [vIs y.1] .fx) := by
    generalize hs : slo y.1 = z
    unfold vIs
    rw [hs]
    cases z <;> rfl
   have s1 : stV [.cells (Qaa n), .cells plZ, .cells (mkC n y.2 (vSl vIs (slo L)))] 1 (.ptr 2 7) (vSl vIs (slo (L ++ [y.1]))) (vG vIs 1 (L ++ [y.1])) = some (.undef, [.cells (Qaa n), .cells plZ, .cells (mkC n y.2 (vG vIs 1 (L ++ [y.1])))]) := We9 (φ := [_, _]) (cs := mkC n y.2 (vSl vIs (slo L))) rfl (show 7 < 9 by decide)
   have c3q := c3 y.2 (L ++ [y.1])
   have hZ : V.rb 0 (vSl vIs (slo L)) = true := Qam fun n x => Qgj
   clear c3 cl3 k1 rbL
   generalize Qh2 n y.2 (L ++ [y.1]) (q.length + 1) r = RES at *
   generalize mkC n y.2 (vG vIs 1 (L ++ [y.1])) = M5 at *
   generalize mkC n y.2 (vSl vIs (slo L)) = M4 at *
   generalize mkC n y.2 (vK vIs L) = M3 at *
   generalize mkC n p (vK vIs L) = M2 at *
   generalize mkC n p (vSl vIs (slo L)) = M1 at *
   generalize mkC n p (vG vIs 1 L) = M at *
   generalize Qaa n = N at *
   generalize L ++ [y.1] = L' at *
   generalize plZ = Z at *
   simp +contextual -implicitDefEqProofs (disch := first | assumption | omega | (simp -implicitDefEqProofs only [go_sem]; try omega)) only [↓reduceIte, go_sem, iP, iN, w64, w8, w32, b_Z10_0, e1, i1, i2, l0, k1', k2, ld, lk, op, a1, b1, s1, c3q, f2, Qah, n_vG, ih]
  ·rw [if_neg c1]
   have eG : LL.l.getD q.length .nil = s := by rw [hq]; simp
   simp only [eG]
   have k2 := Wio q.length (chkS n s) _ w3
   have ne : errZ (chkS n s) = errN (chkS n s) := by unfold errZ; rw [if_neg c1]
   rw [ne] at k1 k2
   unfold errN at k1 k2
   have s1 : stV [.cells (Qaa n), .cells plZ, .cells (mkC n p (vG vIs 1 L))] 5 (.ptr 1 0) (.agg plZ) (.agg plZ) = some (.undef, [.cells (Qaa n), .cells plZ, .cells (mkC n p (vG vIs 1 L))]) := rfl
   have b1 : Qa4 [.nils, .nils, .nils, .nils, .int .i64 0] [] = some (.agg plZ) := rfl
   have r1 : ∀ (O1 O3 : O), resC [O1, .cells plZ, O3] true 5 (.ptr 1 0) = some (.agg plZ) := fun O1 O3 => rfl
   have fW : ∀ σ, fz 3 σ fzD (errW q.length (chkS n s)) = some (errW q.length (chkS n s)) := fun σ => Qax Qnd
   have nW : (errW q.length (chkS n s)).ng = errW q.length (chkS n s) := rfl
   have e0 : V.rb 0 (.tup [.agg plZ, errW q.length (chkS n s)]) = true := by
    show V.rbs 0 [.agg plZ, errW q.length (chkS n s)] = true
    simp only [Qaf, Qa3, Qnd]; rfl
   clear c3 cl3 rbL
   generalize errW q.length (chkS n s) = W at *
   generalize mkC n p (vG vIs 1 L) = M at *
   generalize Qaa n = N at *
   generalize plZ = Z at *
   simp +contextual -implicitDefEqProofs (disch := first | assumption | omega | (simp -implicitDefEqProofs only [go_sem]; try omega)) only [↓reduceIte, go_sem, iP, iN, w64, w8, w32, b_Z10_0, e1, i1, i2, l0, k1, k2, b1, s1, r1, c3p, fW, nW, f2, Qah]
theorem Wb6 (LL : Sl (Sl (Cx k))) (hLL : LL.l.length ≤ 4) (hB : ∀ s ∈ LL.l, Bd 41 k s) (hw : wA LL.l ≤ 800000) : ∃ x, War n LL.l x ∧ ∀ σ, Wf σ → E cx 8 [vSl (vSl (vCx k)) LL, .agg (Qaa n)] σ = some (x, σ) := by
 have h1 : boxV [] (.agg (Qaa n)) = some (.ptr 0 0, [.cells (Qaa n)]) := Qa0 ok_n no_n
 have l0 : ∀ τ : Objs, eL (.cells (Qaa n) :: τ) true 4 (.ptr 0 0) = some (.agg (Qaa n)) := fun τ => Qbx rfl rfl no_n
 have w2 : Wf [.cells (Qaa n), .cells [.nils, .nils, .nils, .nils, .int .i64 0]] := Qc6 (Qag Qai (Qag rfl Qa5))
 have k1 := Qi3 hn _ w2
 have k1' : E cx 29 [.agg (Qaa n)] [.cells (Qaa n), .cells [.nils, .nils, .nils, .nils, .int .i64 0]] = _ := k1
 have hargs : V.rbs 0 [vSl (vSl (vCx k)) LL, .agg (Qaa n)] = true := by simp only [Qaf, Qa3, Qai, Qam (fun _ _ => Qc5 (k := k))]; rfl
 clear k1
 cases c1 : okN n with
 | false =>
  refine ⟨.tup [.agg plZ, errN 11], .inl ⟨c1, _, _, _, rfl, rfl⟩, fun σ hσ => Qbv Qbm ?_ hargs rfl σ hσ⟩
  rw [c1, if_neg (by decide)] at k1'
  unfold errN at *
  rw [e_Z10]
  unfold plZ
  generalize Qaa n = N at *
  simp +contextual -implicitDefEqProofs (disch := first | assumption | omega | (simp -implicitDefEqProofs only [go_sem]; try omega)) only [↓reduceIte, go_sem, iP, iN, w64, w8, w32, s_Z10, h1, l0, k1']
 | true =>
  rw [c1, if_pos rfl] at k1'
  have lp := Qsj hn LL hLL hB LL.l [] p0 0 [] rfl ⟨Nat.le_refl _, Nat.le_refl _, Nat.le_refl _, Int.le_refl _, Int.le_refl _⟩ (by omega) rfl
  have lp' : l_Z10_0 (Mi cx) 0 3 [.ptr 0 0, .ptr 1 0, .ptr 2 0, vSl (vSl (vCx k)) LL, .int .i64 LL.l.length, .int .i64 0] [.cells (Qaa n), .cells [.nils, .nils, .nils, .nils, .int .i64 0], .cells (mkC n p0 .nils)] = _ := lp
  clear lp
  have b1 : Qa4 [.bool false, .str [], .nils, .nils, .nils, .nils, .nils, .nils, .int .i64 0] [(0, 4, .agg (Qaa n))] = some (.agg (mkC n p0 .nils)) := by
   rw [Qmg, Qmh (by rfl) (by decide) (by rw [Qb5]; exact ok_n), Qpx, Qb5, no_n]
   rfl
  have o1 : Qal (mkC n p0 .nils) = true := by
   show Qal [.bool n.has, .str n.dflt, Qcb n.pres, Qcb n.spaces, .nils, .nils, .nils, .nils, .int .i64 0] = true
   simp only [Qcg, Qdk, Qde, Qhn, Qhm, Qc4, Bool.and_true]; rfl
  have n1 : (mkC n p0 .nils).map V.ng = mkC n p0 .nils := by
   show List.map V.ng [.bool n.has, .str n.dflt, Qcb n.pres, Qcb n.spaces, .nils, .nils, .nils, .nils, .int .i64 0] = [.bool n.has, .str n.dflt, Qcb n.pres, Qcb n.spaces, .nils, .nils, .nils, .nils, .int .i64 0]
   simp only [List.map_cons, List.map_nil, Qs4, Qyy, Qre, Qah]; rfl
  have h2 : boxV [.cells (Qaa n), .cells [.nils, .nils, .nils, .nils, .int .i64 0]] (.agg (mkC n p0 .nils)) = some (.ptr 2 0, [.cells (Qaa n), .cells [.nils, .nils, .nils, .nils, .int .i64 0], .cells (mkC n p0 .nils)]) := Qa0 o1 n1
  have f2 : ∀ k' σ, fz k' σ fzD (vSl (vSl (vCx k)) LL) = some (vSl (vSl (vCx k)) LL) := fun k' σ => Qax (Qam fun _ _ => Qc5)
  have fin : ∀ x, War n LL.l x → V.rb 0 x = true → l_Z10_0 (Mi cx) 0 3 [.ptr 0 0, .ptr 1 0, .ptr 2 0, vSl (vSl (vCx k)) LL, .int .i64 LL.l.length, .int .i64 0] [.cells (Qaa n), .cells [.nils, .nils, .nils, .nils, .int .i64 0], .cells (mkC n p0 .nils)] = some (x, []) → ∃ x, War n LL.l x ∧ ∀ σ, Wf σ → E cx 8 [vSl (vSl (vCx k)) LL, .agg (Qaa n)] σ = some (x, σ) := by
   intro x hx hrx hl
   refine ⟨x, hx, fun σ hσ => Qbv Qbm ?_ hargs hrx σ hσ⟩
   rw [e_Z10]
   clear lp' hx
   generalize mkC n p0 .nils = M at *
   generalize Qaa n = N at *
   simp +contextual -implicitDefEqProofs (disch := first | assumption | omega | (simp -implicitDefEqProofs only [go_sem]; try omega)) only [↓reduceIte, go_sem, iP, iN, w64, w8, w32, s_Z10, h1, l0, k1', b1, h2, f2, Qah, Qae, hl]
  cases c2 : Qh2 n p0 [] 0 LL.l with
  | inl q =>
   refine fin _ (.inr ⟨c1, .inr ⟨q, c2, rfl⟩⟩) (by show V.rbs 0 [.agg (plC q.1 q.2), .nili] = true; simp only [Qaf, Qa3, Qkr]; rfl) ?_
   rw [lp']
   have c2' : Qh2 n p0 [] ([] : List (Sl (Cx k))).length LL.l = .inl q := c2
   rw [c2']
  | inr i =>
   have c2' : Qh2 n p0 [] ([] : List (Sl (Cx k))).length LL.l = .inr i := c2
   rw [c2'] at lp'
   have hx : War n LL.l (.tup [.agg plZ, errW i (chkS n (LL.l.getD i .nil))]) := .inr ⟨c1, .inl ⟨i, c2, _, _, rfl⟩⟩
   refine fin (.tup [.agg plZ, errW i (chkS n (LL.l.getD i .nil))]) hx ?_ lp'
   show V.rbs 0 [.agg plZ, errW i _] = true
   simp only [Qaf, Qa3, Qnd]; rfl
end
end Go.Proofs.YtapnplljnpconaaGreatDoor
namespace Go.Proofs.YtapnplljnpconaaGreatDoor
open Go.Ev
set_option maxRecDepth 100000
set_option maxHeartbeats 4000000
def OkK (A : Nat) (C : List Ctr) (row : Int) (k i : Int) (len : Nat) : Prop := len ≤ 800000 ∧
 ((k = 1 ∧ 0 ≤ i ∧ i < A) ∨ (k = 2 ∧ 0 ≤ i ∧ i < row) ∨ (k = 3 ∧ len = 1) ∨ (k = 5 ∧ 0 ≤ i ∧ ∃ c, C[i.toNat]? = some c ∧ c.rows.length ≤ 800000 ∧ ∀ r ∈ c.rows, 0 ≤ r ∧ r < row) ∨ k = 4 ∨ k = 6 ∨ k = 7)
def OkD (A : Nat) (C : List Ctr) (row : Int) : Nat → Trm → Prop
 | 0, _ => False
 | d + 1, .mk k i ts => OkK A C row k i ts.length ∧ ∀ t ∈ ts, OkD A C row d t
section
variable {p : Pln} {L : List (List Int)} {row : Int}
end
end Go.Proofs.YtapnplljnpconaaGreatDoor
namespace Go.Proofs.YtapnplljnpconaaGreatDoor
open Go.Ev
set_option maxRecDepth 100000
set_option maxHeartbeats 4000000
theorem Qo3 (s : Sl (List UInt8)) (t : List UInt8) (hs : s.l.length ≤ 1000000000) : ∀ (r q : List (List UInt8)), s.l = q ++ r →
  l_Z2u_0 (Mi cx) 0 0 [Qcb s, .str t, .int .i64 q.length] [] = some (.bool (hasS r t), [])
 | [], q, hq => by
  have hlen : s.l.length = q.length := by rw [hq]; simp
  have e1 : ¬ (q.length : Int) < s.l.length := by omega
  rw [u_Z2u_0]
  show _ = some (V.bool false, [])
  simp +contextual -implicitDefEqProofs (disch := first | assumption | omega | (simp -implicitDefEqProofs only [go_sem]; try omega)) only [↓reduceIte, go_sem, iP, iN, w64, w8, w32, b_Z2u_0, Qae, Qah, e1]
 | x :: r, q, hq => by
  have hlen : s.l.length = q.length + r.length + 1 := by rw [hq]; simp; omega
  have e1 : (q.length : Int) < s.l.length := by omega
  have i1 : eI 1 (.int .i64 q.length) (Qcb s) = some (.eptr [.str x] 0) := Qav (f := V.str) hq rfl rfl
  have ih := Qo3 s t hs r (q ++ [x]) (by rw [hq]; simp)
  rw [show ((q ++ [x]).length : Int) = q.length + 1 by simp] at ih
  rw [u_Z2u_0]
  show _ = some (V.bool (decide (t = x) || hasS r t), [])
  by_cases c : x = t
  ·subst c
   rw [decide_eq_true rfl, Bool.true_or]
   simp +contextual -implicitDefEqProofs (disch := first | assumption | omega | (simp -implicitDefEqProofs only [go_sem]; try omega)) only [↓reduceIte, go_sem, iP, iN, w64, w8, w32, b_Z2u_0, Qae, Qah, e1, i1]
  ·rw [decide_eq_false (fun h => c h.symm), Bool.false_or]
   simp +contextual -implicitDefEqProofs (disch := first | assumption | omega | (simp -implicitDefEqProofs only [go_sem]; try omega)) only [↓reduceIte, go_sem, iP, iN, w64, w8, w32, b_Z2u_0, Qae, Qah, e1, i1, c, ih]
theorem Qjl (s : Sl (List UInt8)) (t : List UInt8) (hs : s.l.length ≤ 1000000000) (σ : Objs) (hσ : Wf σ) : E cx 39 [Qcb s, .str t] σ = some (.bool (hasS s.l t), σ) := by
 refine Qbv Qbm ?_ (by rw [Qaf, Qg6]; rfl) rfl σ hσ
 have h : l_Z2u_0 (Mi cx) 0 0 [Qcb s, .str t, .int .i64 0] [] = some (.bool (hasS s.l t), []) := Qo3 s t hs s.l [] rfl
 rw [e_Z2u]
 simp +contextual -implicitDefEqProofs (disch := first | assumption | omega | (simp -implicitDefEqProofs only [go_sem]; try omega)) only [↓reduceIte, go_sem, iP, iN, w64, w8, w32, s_Z2u, h]
theorem Qty (t : List UInt8) (σ : Objs) (hσ : Wf σ) : E cx 34 [.str t] σ = some (.bool (Qgr t), σ) := by
 have b1 : Qau false 1 10 (.str []) [(0, .str [104, 111, 118, 101, 114]), (1, .str [97, 99, 116, 105, 118, 101]), (2, .str [102, 111, 99, 117, 115]), (3, .str [102, 111, 99, 117, 115, 45, 118, 105, 115, 105, 98, 108, 101]), (4, .str [118, 105, 115, 105, 116, 101, 100]), (5, .str [108, 105, 110, 107]), (6, .str [99, 104, 101, 99, 107, 101, 100]), (7, .str [100, 105, 115, 97, 98, 108, 101, 100]), (8, .str [101, 110, 97, 98, 108, 101, 100]), (9, .str [116, 97, 114, 103, 101, 116])] = some (.sl (Qb7.map V.str) .fx) := rfl
 have h2 : ∀ σ, Wf σ → E cx 39 [.sl (Qb7.map V.str) .no, .str t] σ = some (.bool (Qgr t), σ) := fun σ hσ => Qjl (.row Qb7) t (by decide) σ hσ
 have n1 : (V.sl (Qb7.map V.str) .fx).ng = .sl (Qb7.map V.str) .no := rfl
 rw [e_Z2y]
 generalize Qb7.map V.str = S at *
 simp +contextual -implicitDefEqProofs (disch := first | assumption | omega | (simp -implicitDefEqProofs only [go_sem]; try omega)) only [↓reduceIte, go_sem, iP, iN, w64, w8, w32, s_Z2y, b1, h2]
def AtOk (a : Atm) : Prop := a.space.length ≤ 1000 ∧ a.text.length ≤ 1000 ∧ a.name.length ≤ 1000 ∧ Qd1 a.space = true ∧ Qd1 a.text = true ∧ Qd1 a.name = true ∧
 (a.kind = 1 ∨ (a.kind = 2 ∧ ¬ a.name = []) ∨ (a.kind = 3 ∧ Qgr a.name = true))
end Go.Proofs.YtapnplljnpconaaGreatDoor
namespace Go.Proofs.YtapnplljnpconaaGreatDoor
open Go.Ev
set_option maxRecDepth 100000
set_option maxHeartbeats 4000000
section
variable {n : Nms} (hn : NmB n)
include hn
theorem Qsk (hl : n.pres.l.length = n.spaces.l.length) : ∀ (f i : Nat), n.pres.l.length < f + i → i ≤ n.pres.l.length →
  l_Z2v_0 (Mi cx) 0 1 [.ptr 0 0, .int .i64 i] [.cells (Qaa n)] = some (.bool (okF n f i), [])
 | 0, i, hf, hi => by omega
 | f + 1, i, hf, hi => by
  obtain ⟨b1, b2, b3, b4, b5⟩ := id hn
  have h2 : eL [.cells (Qaa n)] false 1 (.ptr 0 2) = some (Qcb n.pres) := by
   show Option.map V.ng (some (Qcb n.pres)) = _
   rw [Qak, Qah]
  have h3 : eL [.cells (Qaa n)] false 1 (.ptr 0 3) = some (Qcb n.spaces) := by
   show Option.map V.ng (some (Qcb n.spaces)) = _
   rw [Qak, Qah]
  have hw : V.rbs 1 (Qaa n) = true := Qai
  have hW : Wf [.cells (Qaa n)] := by rw [Qd5]; exact hw
  rw [u_Z2v_0]
  unfold okF
  by_cases c1 : (i : Int) < n.pres.l.length
  ·have c1' : i < n.pres.l.length := by omega
   have hx := Qd8 (f := V.str) (s := n.pres) (k := .i64) (i := (i : Int)) (Qin (by omega) []) (by omega) (sz := 1) rfl
   rw [Int.toNat_natCast] at hx
   have hy := Qd8 (f := V.str) (s := n.spaces) (k := .i64) (i := (i : Int)) (Qin (by omega) []) (by omega) (sz := 1) rfl
   rw [Int.toNat_natCast] at hy
   rw [if_pos c1']
   have k1 := Qor (n.pres.l.getD i []) (Qm2 b4 i) _ hW
   have k2 := Qjl (n.pres.take i) (n.pres.l.getD i []) (by rw [Sl.take_l, List.length_take]; omega) _ hW
   rw [Sl.take_l] at k2
   have k3 := Qge (n.spaces.l.getD i []) (Qm2 b5 i) _ hW
   have hc := Qll (f := V.str) (s := n.pres) (sz := 1) (fun _ => rfl) (k := .i64) (b := (i : Int)) (by omega)
   rw [Int.toNat_natCast] at hc
   have ih := Qsk hl f (i + 1) (by omega) (by omega)
   rw [Int.natCast_succ] at ih
   unfold okAt
   generalize okF n f (i + 1) = R at *
   generalize Qaa n = N at *
   generalize n.pres.take i = TK at *
   generalize hasS (n.pres.l.take i) (n.pres.l.getD i []) = g2 at *
   generalize n.pres.l.getD i [] = px at *
   generalize n.spaces.l.getD i [] = sx at *
   cases g1 : Qhy px with
   | false =>
    rw [g1] at k1
    simp +contextual -implicitDefEqProofs (disch := first | assumption | omega | (simp -implicitDefEqProofs only [go_sem]; try omega)) only [↓reduceIte, go_sem, iP, iN, w64, w8, w32, b_Z2v_0, Qae, Qah, h2, h3, c1, hx, k1]
   | true =>
    rw [g1] at k1
    cases g2 with
    | true => simp +contextual -implicitDefEqProofs (disch := first | assumption | omega | (simp -implicitDefEqProofs only [go_sem]; try omega)) only [↓reduceIte, go_sem, iP, iN, w64, w8, w32, b_Z2v_0, Qae, Qah, h2, h3, c1, hx, hc, k1, k2]
    | false =>
     cases g3 : Qd1 sx with
     | false =>
      rw [g3] at k3
      simp +contextual -implicitDefEqProofs (disch := first | assumption | omega | (simp -implicitDefEqProofs only [go_sem]; try omega)) only [↓reduceIte, go_sem, iP, iN, w64, w8, w32, b_Z2v_0, Qae, Qah, h2, h3, c1, hx, hy, hc, k1, k2, k3]
     | true =>
      rw [g3] at k3
      simp +contextual -implicitDefEqProofs (disch := first | assumption | omega | (simp -implicitDefEqProofs only [go_sem]; try omega)) only [↓reduceIte, go_sem, iP, iN, w64, w8, w32, b_Z2v_0, Qae, Qah, h2, h3, c1, hx, hy, hc, k1, k2, k3, ih]
  ·have c1' : ¬ i < n.pres.l.length := by omega
   rw [if_neg c1']
   generalize Qaa n = N at *
   simp +contextual -implicitDefEqProofs (disch := first | assumption | omega | (simp -implicitDefEqProofs only [go_sem]; try omega)) only [↓reduceIte, go_sem, iP, iN, w64, w8, w32, b_Z2v_0, Qae, Qah, h2, h3, c1]
theorem Qtz (σ : Objs) (hσ : Wf σ) : E cx 14 [.agg (Qaa n)] σ = some (.bool (okN n), σ) := by
 refine Qbv Qbm ?_ (by simp only [Qaf, Qa3, Qai]; rfl) rfl σ hσ
 have h1 : boxV [] (.agg (Qaa n)) = some (.ptr 0 0, [.cells (Qaa n)]) := Qa0 ok_n no_n
 have h2 : eL [.cells (Qaa n)] false 1 (.ptr 0 2) = some (Qcb n.pres) := by
  show Option.map V.ng (some (Qcb n.pres)) = _
  rw [Qak, Qah]
 have h3 : eL [.cells (Qaa n)] false 1 (.ptr 0 3) = some (Qcb n.spaces) := by
  show Option.map V.ng (some (Qcb n.spaces)) = _
  rw [Qak, Qah]
 have l1 : eL [.cells (Qaa n)] false 1 (.ptr 0 1) = some (.str n.dflt) := rfl
 have hw : V.rbs 1 (Qaa n) = true := Qai
 have hW : Wf [.cells (Qaa n)] := by rw [Qd5]; exact hw
 have k1 := Qge n.dflt (by have := hn.1; omega) _ hW
 have lp := fun hl => Qsk hn hl (n.pres.l.length + 1) 0 (by omega) (by omega)
 rw [e_Z2v]
 unfold okN okN0
 by_cases c : (n.pres.l.length : Int) = n.spaces.l.length
 ·have c' : n.pres.l.length = n.spaces.l.length := by omega
  have lp' : l_Z2v_0 (Mi cx) 0 1 [.ptr 0 0, .int .i64 0] [.cells (Qaa n)] = some (.bool (okF n (n.pres.l.length + 1) 0), []) := lp c'
  rw [decide_eq_true c', Bool.true_and]
  clear lp
  generalize okF n (n.pres.l.length + 1) 0 = R at *
  generalize Qaa n = N at *
  cases g : Qd1 n.dflt <;> rw [g] at k1 <;> simp +contextual -implicitDefEqProofs (disch := first | assumption | omega | (simp -implicitDefEqProofs only [go_sem]; try omega)) only [↓reduceIte, go_sem, iP, iN, w64, w8, w32, s_Z2v, h1, h2, h3, l1, Qae, Qah, c, k1, lp']
 ·have c' : ¬ n.pres.l.length = n.spaces.l.length := by omega
  rw [decide_eq_false c', Bool.false_and, Bool.false_and]
  clear lp
  generalize Qaa n = N at *
  simp +contextual -implicitDefEqProofs (disch := first | assumption | omega | (simp -implicitDefEqProofs only [go_sem]; try omega)) only [↓reduceIte, go_sem, iP, iN, w64, w8, w32, s_Z2v, h1, h2, h3, Qae, Qah, c]
end
theorem Qo4 (t : List UInt8) (σ : Objs) (hσ : Wf σ) : E cx 82 [.str t] σ = some (.bool (Qm5 t), σ) := by
 have b1 : Qau false 1 8 (.str []) [(0, .str [98, 101, 102, 111, 114, 101]), (1, .str [97, 102, 116, 101, 114]), (2, .str [102, 105, 114, 115, 116, 45, 108, 105, 110, 101]), (3, .str [102, 105, 114, 115, 116, 45, 108, 101, 116, 116, 101, 114]), (4, .str [109, 97, 114, 107, 101, 114]), (5, .str [115, 101, 108, 101, 99, 116, 105, 111, 110]), (6, .str [112, 108, 97, 99, 101, 104, 111, 108, 100, 101, 114]), (7, .str [98, 97, 99, 107, 100, 114, 111, 112])] = some (.sl (Qbg.map V.str) .fx) := rfl
 have h2 : ∀ σ, Wf σ → E cx 39 [.sl (Qbg.map V.str) .no, .str t] σ = some (.bool (Qm5 t), σ) := fun σ hσ => Qjl (.row Qbg) t (by decide) σ hσ
 rw [e_Z2s]
 generalize Qbg.map V.str = S at *
 simp +contextual -implicitDefEqProofs (disch := first | assumption | omega | (simp -implicitDefEqProofs only [go_sem]; try omega)) only [↓reduceIte, go_sem, iP, iN, w64, w8, w32, s_Z2s, b1, h2]
def Qfx (a : Int) : Bool := decide (-1000000 ≤ a) && decide (a ≤ 1000000)
theorem Qx2 (a : Int) (σ : Objs) (hσ : Wf σ) : E cx 83 [.int .i64 a] σ = some (.bool (Qfx a), σ) := by
 rw [e_Z34]
 unfold Qfx
 by_cases c1 : -1000000 ≤ a
 ·simp +contextual -implicitDefEqProofs (disch := first | assumption | omega | (simp -implicitDefEqProofs only [go_sem]; try omega)) only [↓reduceIte, go_sem, iP, iN, w64, w8, w32, s_Z34, c1]
 ·simp +contextual -implicitDefEqProofs (disch := first | assumption | omega | (simp -implicitDefEqProofs only [go_sem]; try omega)) only [↓reduceIte, go_sem, iP, iN, w64, w8, w32, s_Z34, c1]
section
variable {α : Type} {v : α → V} (hv : ∀ n x, V.rb n (v x) = true) {n : Nms} (hn : NmB n)
include hv
theorem Qx3 (s : Sm α) (hs : SmB s) (σ : Objs) (hσ : Wf σ) : E cx 81 [.agg (smC v s)] σ = some (.bool (Qm6 s), σ) := by
 refine Qbv Qbm ?_ (by simp only [Qaf, Qa3, Qba hv]; rfl) rfl σ hσ
 have h1 : boxV [] (.agg (smC v s)) = some (.ptr 0 0, [.cells (smC v s)]) := Qa0 Qft Qcy
 have hw : V.rbs 1 (smC v s) = true := Qba hv
 have hW : Wf [.cells (smC v s)] := by rw [Qd5]; exact hw
 have h4 := Qge s.text (by have := hs.2.2; omega) _ hW
 have l4 : eL [.cells (smC v s)] false 1 (.ptr 0 4) = some (.int .i64 s.op) := rfl
 have l5 : eL [.cells (smC v s)] false 1 (.ptr 0 5) = some (.str s.text) := rfl
 have l6 : eL [.cells (smC v s)] false 1 (.ptr 0 6) = some (.bool s.fold) := rfl
 have l7 : eL [.cells (smC v s)] false 1 (.ptr 0 7) = some (.int .i64 s.mark) := rfl
 rw [e_Z2z]
 unfold Qm6
 generalize smC v s = S at *
 obtain ⟨kind, ns, pre, name, op, text, fold, mark, a, b, of⟩ := s
 simp only at *
 by_cases c1 : op < 1
 case pos => simp +contextual -implicitDefEqProofs (disch := first | assumption | omega | (simp -implicitDefEqProofs only [go_sem]; try omega)) only [↓reduceIte, go_sem, iP, iN, w64, w8, w32, s_Z2z, h1, l4, c1, true_or]
 by_cases c2 : 7 < op
 case pos => simp +contextual -implicitDefEqProofs (disch := first | assumption | omega | (simp -implicitDefEqProofs only [go_sem]; try omega)) only [↓reduceIte, go_sem, iP, iN, w64, w8, w32, s_Z2z, h1, l4, c1, c2, true_or, or_true]
 cases c3 : Qd1 text with
 | false =>
  rw [c3] at h4
  simp +contextual -implicitDefEqProofs (disch := first | assumption | omega | (simp -implicitDefEqProofs only [go_sem]; try omega)) only [↓reduceIte, go_sem, iP, iN, w64, w8, w32, s_Z2z, h1, l4, l5, h4, c1, c2, true_or, or_true]
 | true =>
  rw [c3] at h4
  by_cases c4 : mark < 0
  case pos => simp +contextual -implicitDefEqProofs (disch := first | assumption | omega | (simp -implicitDefEqProofs only [go_sem]; try omega)) only [↓reduceIte, go_sem, iP, iN, w64, w8, w32, s_Z2z, h1, l4, l5, l7, h4, c1, c2, c4, true_or, or_true]
  by_cases c5 : 2 < mark
  case pos => simp +contextual -implicitDefEqProofs (disch := first | assumption | omega | (simp -implicitDefEqProofs only [go_sem]; try omega)) only [↓reduceIte, go_sem, iP, iN, w64, w8, w32, s_Z2z, h1, l4, l5, l7, h4, c1, c2, c4, c5, true_or, or_true]
  by_cases c6 : op = 1
  case neg => simp +contextual -implicitDefEqProofs (disch := first | assumption | omega | (simp -implicitDefEqProofs only [go_sem]; try omega)) only [↓reduceIte, go_sem, iP, iN, w64, w8, w32, s_Z2z, h1, l4, l5, l6, l7, h4, c1, c2, c4, c5, c6]
  subst c6
  by_cases c7 : text = []
  case neg => simp +contextual -implicitDefEqProofs (disch := first | assumption | omega | (simp -implicitDefEqProofs only [go_sem]; try omega)) only [↓reduceIte, go_sem, iP, iN, w64, w8, w32, s_Z2z, h1, l4, l5, l6, l7, h4, c4, c5, c7]
  subst c7
  by_cases c8 : mark = 0
  case neg => simp +contextual -implicitDefEqProofs (disch := first | assumption | omega | (simp -implicitDefEqProofs only [go_sem]; try omega)) only [↓reduceIte, go_sem, iP, iN, w64, w8, w32, s_Z2z, h1, l4, l5, l6, l7, h4, c4, c5, c8]
  subst c8
  simp +contextual -implicitDefEqProofs (disch := first | assumption | omega | (simp -implicitDefEqProofs only [go_sem]; try omega)) only [↓reduceIte, go_sem, iP, iN, w64, w8, w32, s_Z2z, h1, l4, l5, l6, l7, h4]
def pNs (s : Sm α) : Bool := !(decide (s.ns = 0) && decide (s.pre = []))
def Qfy (s : Sm α) : Bool := !(decide (s.op = 0) && decide (s.text = []) && decide (s.fold = false) && decide (s.mark = 0))
def pAb (s : Sm α) : Bool := !(decide (s.a = 0) && decide (s.b = 0))
theorem Wfe (s : Sm α) (σ : Objs) (hσ : Wf σ) : E cx 79 [.agg (smC v s)] σ = some (.tup [.bool (pNs s), .bool (!decide (s.name = [])), .bool (Qfy s), .bool (pAb s), .bool (decide (0 < (s.of.l.length : Int)))], σ) := by
 refine Qbv Qbm ?_ (by simp only [Qaf, Qa3, Qba hv]; rfl) rfl σ hσ
 have h1 : boxV [] (.agg (smC v s)) = some (.ptr 0 0, [.cells (smC v s)]) := Qa0 Qft Qcy
 have hw : V.rbs 1 (smC v s) = true := Qba hv
 have l1 : eL [.cells (smC v s)] false 1 (.ptr 0 1) = some (.int .i64 s.ns) := rfl
 have l2 : eL [.cells (smC v s)] false 1 (.ptr 0 2) = some (.str s.pre) := rfl
 have l3 : eL [.cells (smC v s)] false 1 (.ptr 0 3) = some (.str s.name) := rfl
 have l4 : eL [.cells (smC v s)] false 1 (.ptr 0 4) = some (.int .i64 s.op) := rfl
 have l5 : eL [.cells (smC v s)] false 1 (.ptr 0 5) = some (.str s.text) := rfl
 have l6 : eL [.cells (smC v s)] false 1 (.ptr 0 6) = some (.bool s.fold) := rfl
 have l7 : eL [.cells (smC v s)] false 1 (.ptr 0 7) = some (.int .i64 s.mark) := rfl
 have l8 : eL [.cells (smC v s)] false 1 (.ptr 0 8) = some (.int .i64 s.a) := rfl
 have l9 : eL [.cells (smC v s)] false 1 (.ptr 0 9) = some (.int .i64 s.b) := rfl
 have l10 : eL [.cells (smC v s)] false 1 (.ptr 0 10) = some (vSl v s.of) := by
  show Option.map V.ng (some (vSl v s.of)) = _
  rw [Qak, Qah]
 rw [e_Z32]
 unfold pNs Qfy pAb
 generalize smC v s = S at *
 obtain ⟨kind, ns, pre, name, op, text, fold, mark, a, b, of⟩ := s
 simp only at *
 by_cases c1 : ns = 0 <;> by_cases c2 : op = 0 <;> by_cases c3 : text = [] <;> cases fold <;> by_cases c4 : a = 0 <;> simp +contextual -implicitDefEqProofs (disch := first | assumption | omega | (simp -implicitDefEqProofs only [go_sem]; try omega)) only [↓reduceIte, go_sem, iP, iN, w64, w8, w32, s_Z32, h1, l1, l2, l3, l4, l5, l6, l7, l8, l9, l10, Qae, Qah, c1, c2, c3, c4, decide_not]
include hn
theorem Qt0 (s : Sm α) (σ : Objs) (hσ : Wf σ) : E cx 80 [.agg (smC v s), .agg (Qaa n)] σ = some (.bool (Qfu n s), σ) := by
 refine Qbv Qbm ?_ (by simp only [Qaf, Qa3, Qba hv, Qai]; rfl) rfl σ hσ
 have h1 : boxV [] (.agg (smC v s)) = some (.ptr 0 0, [.cells (smC v s)]) := Qa0 Qft Qcy
 have h2 : boxV [.cells (smC v s)] (.agg (Qaa n)) = some (.ptr 1 0, [.cells (smC v s), .cells (Qaa n)]) := Qa0 ok_n no_n
 have hw : Wf [.cells (smC v s), .cells (Qaa n)] := by rw [Qfq]; exact ⟨Qba hv, Qai⟩
 have h3 := Qjl n.pres s.pre (by have := hn.2.1; omega) _ hw
 have l1 : eL [.cells (smC v s), .cells (Qaa n)] false 1 (.ptr 0 1) = some (.int .i64 s.ns) := rfl
 have l2 : eL [.cells (smC v s), .cells (Qaa n)] false 1 (.ptr 0 2) = some (.str s.pre) := rfl
 have l3 : eL [.cells (smC v s), .cells (Qaa n)] false 1 (.ptr 1 2) = some (Qcb n.pres) := by
  show Option.map V.ng (some (Qcb n.pres)) = _
  rw [Qak, Qah]
 rw [e_Z35]
 unfold Qfu
 generalize hasS n.pres.l s.pre = g at *
 generalize Qaa n = N at *
 generalize smC v s = S at *
 generalize s.ns = ns at *
 generalize s.pre = pre at *
 by_cases c1 : ns = 3
 case pos =>
  subst c1
  simp +contextual -implicitDefEqProofs (disch := first | assumption | omega | (simp -implicitDefEqProofs only [go_sem]; try omega)) only [↓reduceIte, go_sem, iP, iN, w64, w8, w32, s_Z35, h1, h2, h3, l1, l2, l3, Qah]
 by_cases c2 : 0 ≤ ns
 case neg => simp +contextual -implicitDefEqProofs (disch := first | assumption | omega | (simp -implicitDefEqProofs only [go_sem]; try omega)) only [↓reduceIte, go_sem, iP, iN, w64, w8, w32, s_Z35, h1, h2, l1, c1, c2]
 by_cases c3 : ns < 3
 case neg => simp +contextual -implicitDefEqProofs (disch := first | assumption | omega | (simp -implicitDefEqProofs only [go_sem]; try omega)) only [↓reduceIte, go_sem, iP, iN, w64, w8, w32, s_Z35, h1, h2, l1, c1, c2, c3]
 simp +contextual -implicitDefEqProofs (disch := first | assumption | omega | (simp -implicitDefEqProofs only [go_sem]; try omega)) only [↓reduceIte, go_sem, iP, iN, w64, w8, w32, s_Z35, h1, h2, l1, l2, c1, c2, c3]
end
end Go.Proofs.YtapnplljnpconaaGreatDoor
namespace Go.Proofs.YtapnplljnpconaaGreatDoor
open Go.Ev
set_option maxRecDepth 100000
set_option maxHeartbeats 4000000
def refB (kind : Int) (q1 q2 q3 q4 q5 q6 q7 p1 p2 p3 p4 p5 ok : Bool) : Bool :=
 if kind = 1 then q1 && q2 && !p3 && !p4 && !p5
 else if kind = 2 then q1 && p2 && !p3 && !p4 && !p5
 else if kind = 5 then q1 && q2 && q5 && !p4 && !p5
 else if (p1 || p3) = true then false
 else if kind = 3 ∨ kind = 4 then q2 && !p4 && !p5
 else if kind = 11 then q3 && !p4 && !p5
 else if kind = 13 then q4 && !p4 && !p5
 else if p2 = false then false
 else if kind = 6 ∨ kind = 12 then !p4 && !p5
 else if kind = 7 then q6 && q7 && (!p5 || ok)
 else if kind = 8 ∨ kind = 9 ∨ kind = 10 then !p4 && ok
 else false
section
variable {α : Type} {v : α → V} (hv : ∀ n x, V.rb n (v x) = true) {n : Nms} (hn : NmB n)
theorem Qx4 (a b : Int) : nthS a b = (Qfx a && Qfx b) := by
 unfold nthS Qfx
 generalize decide (a ≤ 1000000) = x
 generalize decide (b ≤ 1000000) = y
 generalize decide (-1000000 ≤ a) = z
 generalize decide (-1000000 ≤ b) = w
 revert x y z w
 decide
theorem Wat (s : Sm α) (ok : Bool) : Qdy n ok s = refB s.kind (Qfu n s) (Qhy s.name) (Qgr s.name) (Qm5 s.name) (Qm6 s) (Qfx s.a) (Qfx s.b) (pNs s) (decide (s.name = [])) (Qfy s) (pAb s) (decide (0 < (s.of.l.length : Int))) ok := by
 have e0 : decide (0 < (s.of.l.length : Int)) = !decide ((s.of.l.length : Int) = 0) := by
  by_cases c : (s.of.l.length : Int) = 0
  ·rw [decide_eq_true c, decide_eq_false (by omega)]; rfl
  ·rw [decide_eq_false c, decide_eq_true (by omega)]; rfl
 have d1 : Qcn (rOne s) = (!Qfy s && !pAb s && decide ((s.of.l.length : Int) = 0)) := by
  unfold Qcn Qfy pAb
  simp only [rOne, decide_true, Bool.true_and]
  generalize decide (s.op = 0) = x1; generalize decide (s.text = []) = x2; generalize decide (s.fold = false) = x3; generalize decide (s.mark = 0) = x4; generalize decide (s.a = 0) = x5; generalize decide (s.b = 0) = x6; generalize decide ((s.of.l.length : Int) = 0) = x7
  revert x1 x2 x3 x4 x5 x6 x7
  decide
 have d2 : Qcn (Qdx s) = (decide (s.name = []) && !Qfy s && !pAb s && decide ((s.of.l.length : Int) = 0)) := by
  unfold Qcn Qfy pAb
  simp only [Qdx, decide_true, Bool.true_and]
  generalize decide (s.name = []) = x0; generalize decide (s.op = 0) = x1; generalize decide (s.text = []) = x2; generalize decide (s.fold = false) = x3; generalize decide (s.mark = 0) = x4; generalize decide (s.a = 0) = x5; generalize decide (s.b = 0) = x6; generalize decide ((s.of.l.length : Int) = 0) = x7
  revert x0 x1 x2 x3 x4 x5 x6 x7
  decide
 have d3 : Qcn (Qeq s) = (!pNs s && !Qfy s && !pAb s && decide ((s.of.l.length : Int) = 0)) := by
  unfold Qcn pNs Qfy pAb
  simp only [Qeq, decide_true, Bool.and_true]
  generalize decide (s.ns = 0) = y0; generalize decide (s.pre = []) = x0; generalize decide (s.op = 0) = x1; generalize decide (s.text = []) = x2; generalize decide (s.fold = false) = x3; generalize decide (s.mark = 0) = x4; generalize decide (s.a = 0) = x5; generalize decide (s.b = 0) = x6; generalize decide ((s.of.l.length : Int) = 0) = x7
  revert y0 x0 x1 x2 x3 x4 x5 x6 x7
  decide
 have d4 : Qcn (rTwo s) = (!pAb s && decide ((s.of.l.length : Int) = 0)) := by
  unfold Qcn pAb
  simp only [rTwo, decide_true, Bool.true_and]
  generalize decide (s.a = 0) = x5; generalize decide (s.b = 0) = x6; generalize decide ((s.of.l.length : Int) = 0) = x7
  revert x5 x6 x7
  decide
 have d5 : Qcn s = (!pNs s && decide (s.name = []) && !Qfy s && !pAb s && decide ((s.of.l.length : Int) = 0)) := by
  unfold Qcn pNs Qfy pAb
  generalize decide (s.name = []) = z0; generalize decide (s.ns = 0) = y0; generalize decide (s.pre = []) = x0; generalize decide (s.op = 0) = x1; generalize decide (s.text = []) = x2; generalize decide (s.fold = false) = x3; generalize decide (s.mark = 0) = x4; generalize decide (s.a = 0) = x5; generalize decide (s.b = 0) = x6; generalize decide ((s.of.l.length : Int) = 0) = x7
  revert z0 y0 x0 x1 x2 x3 x4 x5 x6 x7
  decide
 have d6 : Qcn (Qm3 s) = (!pNs s && decide (s.name = []) && !Qfy s) := by
  unfold Qcn pNs Qfy
  have e : decide ((((Qm3 s).of).l.length : Int) = 0) = true := rfl
  rw [e]
  simp only [Qm3, decide_true, Bool.and_true]
  generalize decide (s.name = []) = z0; generalize decide (s.ns = 0) = y0; generalize decide (s.pre = []) = x0; generalize decide (s.op = 0) = x1; generalize decide (s.text = []) = x2; generalize decide (s.fold = false) = x3; generalize decide (s.mark = 0) = x4
  revert z0 y0 x0 x1 x2 x3 x4
  decide
 have d7 : Qcn (Qgq s) = (!pNs s && decide (s.name = []) && !Qfy s && !pAb s) := by
  unfold Qcn pNs Qfy pAb
  have e : decide ((((Qgq s).of).l.length : Int) = 0) = true := rfl
  rw [e]
  simp only [Qgq, Bool.and_true]
  generalize decide (s.name = []) = z0; generalize decide (s.ns = 0) = y0; generalize decide (s.pre = []) = x0; generalize decide (s.op = 0) = x1; generalize decide (s.text = []) = x2; generalize decide (s.fold = false) = x3; generalize decide (s.mark = 0) = x4; generalize decide (s.a = 0) = x5; generalize decide (s.b = 0) = x6
  revert z0 y0 x0 x1 x2 x3 x4 x5 x6
  decide
 unfold Qdy refB
 rw [d1, d2, d3, d4, d5, d6, d7, e0, Qx4]
 generalize Qfu n s = q1; generalize Qhy s.name = q2; generalize Qgr s.name = q3; generalize Qm5 s.name = q4; generalize Qm6 s = q5; generalize Qfx s.a = q6; generalize Qfx s.b = q7
 generalize pNs s = p1; generalize decide (s.name = []) = p2; generalize Qfy s = p3; generalize pAb s = p4; generalize decide ((s.of.l.length : Int) = 0) = p5
 generalize s.kind = kind
 clear d1 d2 d3 d4 d5 d6 d7 e0
 by_cases c1 : kind = 1
 ·rw [if_pos c1, if_pos c1]; revert q1 q2 p3 p4 p5; decide
 rw [if_neg c1, if_neg c1]
 by_cases c2 : kind = 2
 ·rw [if_pos c2, if_pos c2]; revert q1 p2 p3 p4 p5; decide
 rw [if_neg c2, if_neg c2]
 by_cases c34 : kind = 3 ∨ kind = 4
 ·rw [if_pos c34, if_neg (show ¬ kind = 5 by omega), if_pos c34]; revert q2 p1 p3 p4 p5; decide
 rw [if_neg c34]
 by_cases c11 : kind = 11
 ·rw [if_pos c11, if_neg (show ¬ kind = 5 by omega), if_neg c34, if_pos c11]; revert q3 p1 p3 p4 p5; decide
 rw [if_neg c11]
 by_cases c13 : kind = 13
 ·rw [if_pos c13, if_neg (show ¬ kind = 5 by omega), if_neg c34, if_neg c11, if_pos c13]; revert q4 p1 p3 p4 p5; decide
 rw [if_neg c13]
 by_cases c5 : kind = 5
 ·rw [if_pos c5, if_pos c5]; revert q1 q2 q5 p4 p5; decide
 rw [if_neg c5, if_neg c5, if_neg c34, if_neg c11, if_neg c13]
 by_cases c6 : kind = 6 ∨ kind = 12
 ·rw [if_pos c6, if_pos c6]; revert p1 p2 p3 p4 p5; decide
 rw [if_neg c6, if_neg c6]
 by_cases c7 : kind = 7
 ·rw [if_pos c7, if_pos c7]; revert q6 q7 p1 p2 p3 p5 ok; decide
 rw [if_neg c7, if_neg c7]
 by_cases c8 : kind = 8 ∨ kind = 9 ∨ kind = 10
 ·rw [if_pos c8, if_pos c8]; revert p1 p2 p3 p4 ok; decide
 rw [if_neg c8, if_neg c8]
 revert p1 p2 p3
 decide
include hv hn
theorem Qql (s : Sm α) (hs : SmB s) (ok : Bool) (hL : ∀ σ, Wf σ → E cx 36 [vSl v s.of, .agg (Qaa n), .bool false] σ = some (.bool ok, σ)) (σ : Objs) (hσ : Wf σ) :
  E cx 57 [.agg (smC v s), .agg (Qaa n)] σ = some (.bool (Qdy n ok s), σ) := by
 refine Qbv Qbm ?_ (by simp only [Qaf, Qa3, Qba hv, Qai]; rfl) rfl σ hσ
 have h1 : boxV [] (.agg (smC v s)) = some (.ptr 0 0, [.cells (smC v s)]) := Qa0 Qft Qcy
 have h2 : boxV [.cells (smC v s)] (.agg (Qaa n)) = some (.ptr 1 0, [.cells (smC v s), .cells (Qaa n)]) := Qa0 ok_n no_n
 have hw : Wf [.cells (smC v s), .cells (Qaa n)] := by rw [Qfq]; exact ⟨Qba hv, Qai⟩
 have l11 : eL [.cells (smC v s), .cells (Qaa n)] true 11 (.ptr 0 0) = some (.agg (smC v s)) := Qbx rfl rfl Qcy
 have l4 : eL [.cells (smC v s), .cells (Qaa n)] true 4 (.ptr 1 0) = some (.agg (Qaa n)) := Qbx rfl rfl no_n
 have l0 : eL [.cells (smC v s), .cells (Qaa n)] false 1 (.ptr 0 0) = some (.int .i64 s.kind) := rfl
 have l3 : eL [.cells (smC v s), .cells (Qaa n)] false 1 (.ptr 0 3) = some (.str s.name) := rfl
 have l8 : eL [.cells (smC v s), .cells (Qaa n)] false 1 (.ptr 0 8) = some (.int .i64 s.a) := rfl
 have l9 : eL [.cells (smC v s), .cells (Qaa n)] false 1 (.ptr 0 9) = some (.int .i64 s.b) := rfl
 have l10 : eL [.cells (smC v s), .cells (Qaa n)] false 1 (.ptr 0 10) = some (vSl v s.of) := by
  show Option.map V.ng (some (vSl v s.of)) = _
  rw [Qak, Qah]
 have kp := Wfe hv s _ hw
 have k1 := Qt0 hv hn s _ hw
 have k2 := Qor s.name (by have := hs.2.1; omega) _ hw
 have k3 := Qty s.name _ hw
 have k4 := Qo4 s.name _ hw
 have k5 := Qx3 hv s hs _ hw
 have k6 := Qx2 s.a _ hw
 have k7 := Qx2 s.b _ hw
 have kr := hL _ hw
 have nOF : (vSl v s.of).ng = vSl v s.of := Qah
 rw [e_Z2x, Wat]
 clear hL hs
 unfold refB
 generalize Qfu n s = q1 at *; generalize Qhy s.name = q2 at *; generalize Qgr s.name = q3 at *; generalize Qm5 s.name = q4 at *; generalize Qm6 s = q5 at *; generalize Qfx s.a = q6 at *; generalize Qfx s.b = q7 at *
 generalize pNs s = p1 at *; generalize decide (s.name = []) = p2 at *; generalize Qfy s = p3 at *; generalize pAb s = p4 at *; generalize decide (0 < (s.of.l.length : Int)) = p5 at *
 generalize s.kind = kind at *
 generalize smC v s = S at *
 generalize Qaa n = N at *
 generalize vSl v s.of = OF at *
 by_cases c1 : kind = 1
 ·subst c1
  cases q1 <;> cases q2 <;> cases p3 <;> cases p4 <;> simp +contextual -implicitDefEqProofs (disch := first | assumption | omega | (simp -implicitDefEqProofs only [go_sem]; try omega)) only [↓reduceIte, go_sem, iP, iN, w64, w8, w32, s_Z2x, h1, h2, l11, l4, l0, l3, kp, k1, k2]
 by_cases c2 : kind = 2
 ·subst c2
  cases q1 <;> cases p2 <;> cases p3 <;> cases p4 <;> simp +contextual -implicitDefEqProofs (disch := first | assumption | omega | (simp -implicitDefEqProofs only [go_sem]; try omega)) only [↓reduceIte, go_sem, iP, iN, w64, w8, w32, s_Z2x, h1, h2, l11, l4, l0, l3, kp, k1]
 by_cases c5 : kind = 5
 ·subst c5
  cases q1 <;> cases q2 <;> cases q5 <;> cases p4 <;> simp +contextual -implicitDefEqProofs (disch := first | assumption | omega | (simp -implicitDefEqProofs only [go_sem]; try omega)) only [↓reduceIte, go_sem, iP, iN, w64, w8, w32, s_Z2x, h1, h2, l11, l4, l0, l3, kp, k1, k2, k5]
 cases p1 with
 | true => simp +contextual -implicitDefEqProofs (disch := first | assumption | omega | (simp -implicitDefEqProofs only [go_sem]; try omega)) only [↓reduceIte, go_sem, iP, iN, w64, w8, w32, s_Z2x, h1, h2, l11, l4, l0, kp, c1, c2, c5]
 | false =>
 cases p3 with
 | true => simp +contextual -implicitDefEqProofs (disch := first | assumption | omega | (simp -implicitDefEqProofs only [go_sem]; try omega)) only [↓reduceIte, go_sem, iP, iN, w64, w8, w32, s_Z2x, h1, h2, l11, l4, l0, kp, c1, c2, c5]
 | false =>
 by_cases c3 : kind = 3
 ·subst c3
  cases q2 <;> cases p4 <;> simp +contextual -implicitDefEqProofs (disch := first | assumption | omega | (simp -implicitDefEqProofs only [go_sem]; try omega)) only [↓reduceIte, go_sem, iP, iN, w64, w8, w32, s_Z2x, h1, h2, l11, l4, l0, l3, kp, k2]
 by_cases c4 : kind = 4
 ·subst c4
  cases q2 <;> cases p4 <;> simp +contextual -implicitDefEqProofs (disch := first | assumption | omega | (simp -implicitDefEqProofs only [go_sem]; try omega)) only [↓reduceIte, go_sem, iP, iN, w64, w8, w32, s_Z2x, h1, h2, l11, l4, l0, l3, kp, k2]
 by_cases c11 : kind = 11
 ·subst c11
  cases q3 <;> cases p4 <;> simp +contextual -implicitDefEqProofs (disch := first | assumption | omega | (simp -implicitDefEqProofs only [go_sem]; try omega)) only [↓reduceIte, go_sem, iP, iN, w64, w8, w32, s_Z2x, h1, h2, l11, l4, l0, l3, kp, k3]
 by_cases c13 : kind = 13
 ·subst c13
  cases q4 <;> cases p4 <;> simp +contextual -implicitDefEqProofs (disch := first | assumption | omega | (simp -implicitDefEqProofs only [go_sem]; try omega)) only [↓reduceIte, go_sem, iP, iN, w64, w8, w32, s_Z2x, h1, h2, l11, l4, l0, l3, kp, k4]
 cases p2 with
 | false => simp +contextual -implicitDefEqProofs (disch := first | assumption | omega | (simp -implicitDefEqProofs only [go_sem]; try omega)) only [↓reduceIte, go_sem, iP, iN, w64, w8, w32, s_Z2x, h1, h2, l11, l4, l0, kp, c1, c2, c5, c3, c4, c11, c13]
 | true =>
 by_cases c6 : kind = 6
 ·subst c6
  cases p4 <;> simp +contextual -implicitDefEqProofs (disch := first | assumption | omega | (simp -implicitDefEqProofs only [go_sem]; try omega)) only [↓reduceIte, go_sem, iP, iN, w64, w8, w32, s_Z2x, h1, h2, l11, l4, l0, kp]
 by_cases c12 : kind = 12
 ·subst c12
  cases p4 <;> simp +contextual -implicitDefEqProofs (disch := first | assumption | omega | (simp -implicitDefEqProofs only [go_sem]; try omega)) only [↓reduceIte, go_sem, iP, iN, w64, w8, w32, s_Z2x, h1, h2, l11, l4, l0, kp]
 by_cases c7 : kind = 7
 ·subst c7
  cases q6 <;> cases q7 <;> cases p5 <;> simp +contextual -implicitDefEqProofs (disch := first | assumption | omega | (simp -implicitDefEqProofs only [go_sem]; try omega)) only [↓reduceIte, go_sem, iP, iN, w64, w8, w32, s_Z2x, h1, h2, l11, l4, l0, l8, l9, l10, kp, k6, k7, kr, nOF]
 by_cases c8 : kind = 8
 ·subst c8
  cases p4 <;> simp +contextual -implicitDefEqProofs (disch := first | assumption | omega | (simp -implicitDefEqProofs only [go_sem]; try omega)) only [↓reduceIte, go_sem, iP, iN, w64, w8, w32, s_Z2x, h1, h2, l11, l4, l0, l10, kp, kr, nOF]
 by_cases c9 : kind = 9
 ·subst c9
  cases p4 <;> simp +contextual -implicitDefEqProofs (disch := first | assumption | omega | (simp -implicitDefEqProofs only [go_sem]; try omega)) only [↓reduceIte, go_sem, iP, iN, w64, w8, w32, s_Z2x, h1, h2, l11, l4, l0, l10, kp, kr, nOF]
 by_cases c10 : kind = 10
 ·subst c10
  cases p4 <;> simp +contextual -implicitDefEqProofs (disch := first | assumption | omega | (simp -implicitDefEqProofs only [go_sem]; try omega)) only [↓reduceIte, go_sem, iP, iN, w64, w8, w32, s_Z2x, h1, h2, l11, l4, l0, l10, kp, kr, nOF]
 simp +contextual -implicitDefEqProofs (disch := first | assumption | omega | (simp -implicitDefEqProofs only [go_sem]; try omega)) only [↓reduceIte, go_sem, iP, iN, w64, w8, w32, s_Z2x, h1, h2, l11, l4, l0, kp, c1, c2, c5, c3, c4, c11, c13, c6, c12, c7, c8, c9, c10]
end
end Go.Proofs.YtapnplljnpconaaGreatDoor
namespace Go.Proofs.YtapnplljnpconaaGreatDoor
open Go.Ev
set_option maxRecDepth 100000
set_option maxHeartbeats 4000000
section
variable {α : Type} {v : α → V} (hv : ∀ n x, V.rb n (v x) = true) {n : Nms} (hn : NmB n)
def SmR (v : α → V) (n : Nms) (okl : Sl α → Bool) (s : Sm α) : Prop := SmB s ∧ ∀ σ, Wf σ → E cx 36 [vSl v s.of, .agg (Qaa n), .bool false] σ = some (.bool (okl s.of), σ)
def CpR (v : α → V) (n : Nms) (okl : Sl α → Bool) (x : Cp α) : Prop := x.list.l.length ≤ 1000 ∧ ∀ s ∈ x.list.l, SmR v n okl s
def CoR (v : α → V) (n : Nms) (okl : Sl α → Bool) (c : Co α) : Prop := c.list.l.length ≤ 1000 ∧ ∀ x ∈ c.list.l, CpR v n okl x
include hv hn
theorem Wip (okl : Sl α → Bool) (outer : Bool) (c : Co α) (hcl : c.list.l.length ≤ 1000) (LV : V) (hLV : ∀ k, V.rb k LV = true) (hLn : LV.ng = LV) (i : Int) (k : Int) (x : Cp α) (hk : 0 ≤ k ∧ k ≤ 1000)
  (hic : eI 2 (.int .i64 k) (vSl (vCp v) c.list) = some (.eptr (cpC v x) 0)) (hx : CpR v n okl x) (hne : 0 < x.list.l.length) (r1 r2 : Rk) : ∀ (r q : List (Sm α)), x.list.l = q ++ r →
  l_Z2w_2 (Mi cx) 0 1 r1 1 r2 1 [LV, .bool outer, .ptr 0 0, .int .i64 i, vSl (vCp v) c.list, .int .i64 k, .int .i64 q.length] [.cells (Qaa n)] =
   if cmpR n okl (outer && decide (k = (c.list.l.length : Int) - 1)) x.list.l.length q.length r = true then r2 [LV, .bool outer, .ptr 0 0, .int .i64 i, vSl (vCp v) c.list, .int .i64 (k + 1)] [.cells (Qaa n)] else some (.bool false, [])
 | [], q, hq => by
  have hlen : x.list.l.length = q.length := by rw [hq]; simp
  have e1 : ¬ (q.length : Int) < x.list.l.length := by omega
  have e2 : cmpR n okl (outer && decide (k = (c.list.l.length : Int) - 1)) x.list.l.length q.length [] = true := decide_eq_true (by omega)
  have hN : V.rbs 1 (Qaa n) = true := Qai
  have l1 : ∀ σ, eL σ false 1 (.eptr (cpC v x) 1) = some (vSl (vSm v) x.list) := fun σ => by
   show Option.map V.ng (some (vSl (vSm v) x.list)) = _
   rw [Qak, Qah]
  have f1 : ∀ k σ, fz k σ fzD LV = some LV := fun k σ => Qax (hLV k)
  have f2 : ∀ k σ, fz k σ fzD (vSl (vCp v) c.list) = some (vSl (vCp v) c.list) := fun k σ => Qax (Qam (Qdg hv))
  rw [u_Z2w_2, e2, if_pos rfl]
  clear hx e2
  generalize Qaa n = N at *
  generalize cpC v x = Y at *
  simp +contextual -implicitDefEqProofs (disch := first | assumption | omega | (simp -implicitDefEqProofs only [go_sem]; try omega)) only [↓reduceIte, go_sem, iP, iN, w64, w8, w32, b_Z2w_2, e1, hic, l1, f1, f2, Qae, Qah]
 | s :: r, q, hq => by
  have hlen : x.list.l.length = q.length + r.length + 1 := by rw [hq]; simp; omega
  have hxl := hx.1
  obtain ⟨hs, hR⟩ := hx.2 s (by rw [hq]; simp)
  have e1 : (q.length : Int) < x.list.l.length := by omega
  have hN : V.rbs 1 (Qaa n) = true := Qai
  have l1 : ∀ σ, eL σ false 1 (.eptr (cpC v x) 1) = some (vSl (vSm v) x.list) := fun σ => by
   show Option.map V.ng (some (vSl (vSm v) x.list)) = _
   rw [Qak, Qah]
  have f1 : ∀ k σ, fz k σ fzD LV = some LV := fun k σ => Qax (hLV k)
  have f2 : ∀ k σ, fz k σ fzD (vSl (vCp v) c.list) = some (vSl (vCp v) c.list) := fun k σ => Qax (Qam (Qdg hv))
  have i1 : eI 11 (.int .i64 q.length) (vSl (vSm v) x.list) = some (.eptr (smC v s) 0) := Qav (f := vSm v) hq rfl rfl
  have i2 : ∀ σ, eL σ true 11 (.eptr (smC v s) 0) = some (.agg (smC v s)) := fun σ => Qdz rfl Qcy
  have y1 : (smC v s).length = 11 := rfl
  have y2 : Qal (smC v s) = true := Qft
  have y3 : (smC v s).map V.ng = smC v s := Qcy
  have hw : Wf [.cells (Qaa n), .cells (smC v s)] := by rw [Qfq]; exact ⟨Qai, Qba hv⟩
  have k1 := Qql hv hn s hs (okl s.of) hR _ hw
  have l4 : eL [.cells (Qaa n), .cells (smC v s)] true 4 (.ptr 0 0) = some (.agg (Qaa n)) := Qbx rfl rfl no_n
  have l11 : eL [.cells (Qaa n), .cells (smC v s)] true 11 (.ptr 1 0) = some (.agg (smC v s)) := Qbx rfl rfl Qcy
  have l0 : eL [.cells (Qaa n), .cells (smC v s)] false 1 (.ptr 1 0) = some (.int .i64 s.kind) := rfl
  have c1 : ∀ τ : Objs, cuO 1 (.cells (Qaa n) :: τ) = some [.cells (Qaa n)] := fun τ => Qc2 hN
  have ih := Wip okl outer c hcl LV hLV hLn i k x hk hic hx hne r1 r2 r (q ++ [s]) (by rw [hq]; simp)
  rw [show ((q ++ [s]).length : Int) = q.length + 1 by simp, show (q ++ [s]).length = q.length + 1 by simp] at ih
  rw [u_Z2w_2]
  unfold cmpR
  generalize Qdy n (okl s.of) s = sb at *
  clear hx hR hs
  have hQ : 0 ≤ (q.length : Int) ∧ (q.length : Int) ≤ 1000 := by omega
  have hl2 : (q.length : Int) ≤ x.list.l.length - 1 := by omega
  generalize cmpR n okl (outer && decide (k = (c.list.l.length : Int) - 1)) x.list.l.length (q.length + 1) r = CR at *
  generalize s.kind = kind at *
  generalize Qaa n = N at *
  generalize cpC v x = Y at *
  generalize smC v s = S at *
  cases sb with
  | false =>
   cases d5 : decide (k = (c.list.l.length : Int) - 1) <;> simp +contextual -implicitDefEqProofs (disch := first | assumption | omega | (simp -implicitDefEqProofs only [go_sem]; try omega)) only [↓reduceIte, go_sem, iP, iN, w64, w8, w32, b_Z2w_2, j_Z2w_1, j_Z2w_0, e1, hic, l1, f1, f2, Qae, Qah, hLn, i1, i2, k1, l4, l11, l0, c1, d5]
  | true =>
   by_cases g1 : 0 < (q.length : Int) ∧ (kind = 1 ∨ kind = 2)
   ·obtain ⟨g2, g3⟩ := g1
    rw [if_neg (show ¬ (true = false) by decide), if_pos (show 0 < (q.length : Int) ∧ (kind = 1 ∨ kind = 2) from ⟨g2, g3⟩)]
    cases d5 : decide (k = (c.list.l.length : Int) - 1) <;> rcases g3 with rfl | rfl <;> simp +contextual -implicitDefEqProofs (disch := first | assumption | omega | (simp -implicitDefEqProofs only [go_sem]; try omega)) only [↓reduceIte, go_sem, iP, iN, w64, w8, w32, b_Z2w_2, j_Z2w_1, j_Z2w_0, e1, hic, l1, f1, f2, Qae, Qah, hLn, i1, i2, k1, l4, l11, l0, c1, d5, g2]
   ·rw [if_neg (show ¬ (true = false) by decide), if_neg g1]
    by_cases g13 : kind = 13
    ·subst g13
     cases outer with
     | false =>
      rw [Bool.false_and, if_pos (show (13 : Int) = 13 ∧ (false = false ∨ (q.length : Int) < (x.list.l.length : Int) - 1) from ⟨rfl, .inl rfl⟩)]
      by_cases g2 : 0 < (q.length : Int) <;> cases d5 : decide (k = (c.list.l.length : Int) - 1) <;> simp +contextual -implicitDefEqProofs (disch := first | assumption | omega | (simp -implicitDefEqProofs only [go_sem]; try omega)) only [↓reduceIte, go_sem, iP, iN, w64, w8, w32, b_Z2w_2, j_Z2w_1, j_Z2w_0, e1, hic, l1, f1, f2, Qae, Qah, hLn, i1, i2, k1, l4, l11, l0, c1, d5, g2]
     | true =>
      rw [Bool.true_and] at *
      cases d5 : decide (k = (c.list.l.length : Int) - 1) with
      | false =>
       rw [if_pos (show (13 : Int) = 13 ∧ (false = false ∨ (q.length : Int) < (x.list.l.length : Int) - 1) from ⟨rfl, .inl rfl⟩)]
       by_cases g2 : 0 < (q.length : Int) <;> simp +contextual -implicitDefEqProofs (disch := first | assumption | omega | (simp -implicitDefEqProofs only [go_sem]; try omega)) only [↓reduceIte, go_sem, iP, iN, w64, w8, w32, b_Z2w_2, j_Z2w_1, j_Z2w_0, e1, hic, l1, f1, f2, Qae, Qah, hLn, i1, i2, k1, l4, l11, l0, c1, d5, g2]
      | true =>
       by_cases g6 : (q.length : Int) < x.list.l.length - 1
       ·rw [if_pos (show (13 : Int) = 13 ∧ (true = false ∨ (q.length : Int) < (x.list.l.length : Int) - 1) from ⟨rfl, .inr g6⟩)]
        have g7 : decide ((q.length : Int) = (x.list.l.length : Int) - 1) = false := decide_eq_false (by omega)
        by_cases g2 : 0 < (q.length : Int) <;> simp +contextual -implicitDefEqProofs (disch := first | assumption | omega | (simp -implicitDefEqProofs only [go_sem]; try omega)) only [↓reduceIte, go_sem, iP, iN, w64, w8, w32, b_Z2w_2, j_Z2w_1, j_Z2w_0, e1, hic, l1, f1, f2, Qae, Qah, hLn, i1, i2, k1, l4, l11, l0, c1, d5, g2, g7]
       ·rw [if_neg (show ¬ ((13 : Int) = 13 ∧ (true = false ∨ (q.length : Int) < (x.list.l.length : Int) - 1)) from fun h => h.2.elim (fun h => by cases h) g6)]
        have g7 : decide ((q.length : Int) = (x.list.l.length : Int) - 1) = true := decide_eq_true (by omega)
        by_cases g2 : 0 < (q.length : Int) <;> simp +contextual -implicitDefEqProofs (disch := first | assumption | omega | (simp -implicitDefEqProofs only [go_sem]; try omega)) only [↓reduceIte, go_sem, iP, iN, w64, w8, w32, b_Z2w_2, j_Z2w_1, j_Z2w_0, e1, hic, l1, f1, f2, Qae, Qah, hLn, i1, i2, k1, l4, l11, l0, c1, d5, g2, g7, ih]
    ·rw [if_neg (show ¬ (kind = 13 ∧ ((outer && decide (k = (c.list.l.length : Int) - 1)) = false ∨ (q.length : Int) < (x.list.l.length : Int) - 1)) from fun h => g13 h.1)]
     by_cases g2 : 0 < (q.length : Int)
     ·have g3 : ¬ kind = 1 := fun h => g1 ⟨g2, .inl h⟩
      have g4 : ¬ kind = 2 := fun h => g1 ⟨g2, .inr h⟩
      clear g1
      cases d5 : decide (k = (c.list.l.length : Int) - 1) <;> cases d6 : decide ((q.length : Int) = (x.list.l.length : Int) - 1) <;> simp +contextual -implicitDefEqProofs (disch := first | assumption | omega | (simp -implicitDefEqProofs only [go_sem]; try omega)) only [↓reduceIte, go_sem, iP, iN, w64, w8, w32, b_Z2w_2, j_Z2w_1, j_Z2w_0, e1, hic, l1, f1, f2, Qae, Qah, hLn, i1, i2, k1, l4, l11, l0, c1, d5, d6, g2, g3, g4, g13, ih]
     ·clear g1
      cases d5 : decide (k = (c.list.l.length : Int) - 1) <;> cases d6 : decide ((q.length : Int) = (x.list.l.length : Int) - 1) <;> simp +contextual -implicitDefEqProofs (disch := first | assumption | omega | (simp -implicitDefEqProofs only [go_sem]; try omega)) only [↓reduceIte, go_sem, iP, iN, w64, w8, w32, b_Z2w_2, j_Z2w_1, j_Z2w_0, e1, hic, l1, f1, f2, Qae, Qah, hLn, i1, i2, k1, l4, l11, l0, c1, d5, d6, g2, g13, ih]
end
end Go.Proofs.YtapnplljnpconaaGreatDoor
