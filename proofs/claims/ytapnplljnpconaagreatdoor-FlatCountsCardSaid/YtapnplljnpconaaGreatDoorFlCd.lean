/- Part of a proof: the small language, and functions of the program on it. -/
import Derived.Test.YtapnplljnpconaaGreatDoorFlCc
import Derived.Test.YtapnplljnpconaaGreatDoorChecked
import Derived.RangeFuncNested
import Derived.RangeFuncLeaves
import Derived.Shelf.Abstract
import Derived.WalkKit
import Derived.OwnWalkIn
import Derived.TacticsInMore
import Derived.LoopNIn
import Derived.LoopIn
import Derived.Shelf.RegionOpen
import Derived.Lib.Hide
import Derived.Test.YtapnplljnpconaaGreatDoorRows
import Derived.WalkSpells
import Derived.WalkLawsBesides
import Derived.Deep.QuietTactic
import Derived.BigQuiet
import Derived.Deep.RegionHeld3
import Derived.Deep.AppendLies
import Derived.Deep.RegionLaw
import Derived.Deep.DrawnRows
import Derived.Deep.DeepFit
import Derived.RegionTactic
import Derived.ProofKit
import Derived.Lib.SmallJoins
import Derived.ChangeSlices
import Derived.ChangeArms
import Derived.DataReads
set_option linter.unusedSimpArgs false
set_option linter.unusedVariables false
set_option linter.unusedSectionVars false
namespace Go.Ev
open Go
def rn (b k o : Nat) : Nat := if o < b then o else o + k
theorem Wd6 {b k o n : Nat} (hn : b ≤ n) : (rn b k o < n + k) ↔ o < n := by unfold rn; split <;> omega
theorem Wg5 {b k o p : Nat} : (rn b k o = rn b k p) ↔ o = p := by unfold rn; split <;> split <;> omega
mutual
def V.sh (b k : Nat) : V → V
 | .ptr o off => .ptr (rn b k o) off
 | .hs o off len sz ag => .hs (rn b k o) off len sz ag
 | .mp o => .mp (rn b k o)
 | .eptr cs off => .eptr (V.shs b k cs) off
 | .sl xs c => .sl (V.shs b k xs) c
 | .agg cs => .agg (V.shs b k cs)
 | .tup cs => .tup (V.shs b k cs)
 | .ifc t x => .ifc t (V.sh b k x)
 | .fn f xs ys => .fn f (V.shs b k xs) (V.shs b k ys)
 | .any => .any | .undef => .undef | .bool x => .bool x | .int j n => .int j n | .str s => .str s
 | .nilp => .nilp | .nils => .nils | .nili => .nili | .nilf => .nilf | .nilm => .nilm
def V.shs (b k : Nat) : List V → List V
 | [] => []
 | x :: xs => V.sh b k x :: V.shs b k xs
end
theorem Qap {b k : Nat} : ∀ {l : List V}, V.shs b k l = l.map (V.sh b k)
 | [] => rfl
 | x :: xs => by rw [V.shs, Qap]; rfl
mutual
theorem Qbu {b k : Nat} : ∀ {x : V}, V.rb 0 x = true → V.sh b k x = x
 | .ptr o off, h => by simp [V.rb] at h
 | .hs o off len sz ag, h => by simp [V.rb] at h
 | .mp o, h => by simp [V.rb] at h
 | .eptr cs off, h => by rw [V.sh, Qbk (by simpa [V.rb] using h)]
 | .sl xs c, h => by rw [V.sh, Qbk (by simpa [V.rb] using h)]
 | .agg cs, h => by rw [V.sh, Qbk (by simpa [V.rb] using h)]
 | .tup cs, h => by rw [V.sh, Qbk (by simpa [V.rb] using h)]
 | .ifc t x, h => by rw [V.sh, Qbu (by simpa [V.rb] using h)]
 | .fn f xs ys, h => by
  have h' : V.rbs 0 xs = true ∧ V.rbs 0 ys = true := by simpa [V.rb] using h
  rw [V.sh, Qbk h'.1, Qbk h'.2]
 | .any, _ => rfl | .undef, _ => rfl | .bool x, _ => rfl | .int j n, _ => rfl | .str s, _ => rfl
 | .nilp, _ => rfl | .nils, _ => rfl | .nili, _ => rfl | .nilf, _ => rfl | .nilm, _ => rfl
theorem Qbk {b k : Nat} : ∀ {l : List V}, V.rbs 0 l = true → V.shs b k l = l
 | [], _ => rfl
 | x :: xs, h => by
  rw [Qaf, Bool.and_eq_true] at h
  rw [V.shs, Qbu h.1, Qbk h.2]
end
mutual
theorem Qzr {b k n : Nat} (hn : b ≤ n) : ∀ {x : V}, V.rb (n + k) (V.sh b k x) = V.rb n x
 | .ptr o off => by simp [V.rb, V.sh, Wd6 hn]
 | .hs o off len sz ag => by simp [V.rb, V.sh, Wd6 hn]
 | .mp o => by simp [V.rb, V.sh, Wd6 hn]
 | .eptr cs off => by rw [V.sh, Qpv, Qpv, Qho hn]
 | .sl xs c => by rw [V.sh, Qzf, Qzf, Qho hn]
 | .agg cs => by rw [V.sh, Qa3, Qa3, Qho hn]
 | .tup cs => by rw [V.sh, Qvs, Qvs, Qho hn]
 | .ifc t x => by rw [V.sh, Qrm, Qrm, Qzr hn]
 | .fn f xs ys => by
  have h1 := Qho (k := k) hn (l := xs)
  have h2 := Qho (k := k) hn (l := ys)
  simp [V.rb, V.sh, h1, h2]
 | .any => rfl | .undef => rfl | .bool x => rfl | .int j n => rfl | .str s => rfl
 | .nilp => rfl | .nils => rfl | .nili => rfl | .nilf => rfl | .nilm => rfl
theorem Qho {b k n : Nat} (hn : b ≤ n) : ∀ {l : List V}, V.rbs (n + k) (V.shs b k l) = V.rbs n l
 | [] => rfl
 | x :: xs => by rw [V.shs, Qaf, Qaf, Qzr hn, Qho hn]
end
theorem Wg6 {b k o p : Nat} : (rn b k o == rn b k p) = (o == p) := by rw [Bool.eq_iff_iff]; simp [Wg5]
mutual
theorem Wba {b k : Nat} : ∀ {x y : V}, V.beq (V.sh b k x) (V.sh b k y) = V.beq x y
 | x, y => by
  cases x <;> cases y <;> first
   | rfl
   | (simp only [V.sh, V.beq, Qp0, Wba]; done)
   | (simp only [V.sh, V.beq, Wg6]; done)
theorem Qp0 {b k : Nat} : ∀ {l m : List V}, V.beqs (V.shs b k l) (V.shs b k m) = V.beqs l m
 | [], [] => rfl
 | [], _ :: _ => rfl
 | _ :: _, [] => rfl
 | x :: xs, y :: ys => by simp only [V.shs, V.beqs]; rw [Wba, Qp0]
end
section
variable {b k : Nat}
theorem Qfm {x : V} : (V.sh b k x).ng = V.sh b k x.ng := by cases x <;> rfl
theorem Wd7 {x : V} : (V.sh b k x).isLk = x.isLk := by
 cases x with
 | sl xs c => cases c <;> rfl
 | _ => rfl
theorem Qd6 {x : V} : (V.sh b k x).cells = x.cells.map (V.sh b k) := by
 cases x <;> first | rfl | (simp only [V.sh, V.cells, Qap, List.map_cons, List.map_nil]; done)
theorem Wbb {x : V} : V.one (V.sh b k x) = V.one x := by cases x <;> rfl
theorem Qv9 {ag : Bool} {x : V} : agOk ag (V.sh b k x) = agOk ag x := by cases x <;> rfl
theorem Qli {l : List V} : Qal (l.map (V.sh b k)) = Qal l := by
 unfold Qal
 rw [List.all_map]
 congr 1
 funext x
 exact Wbb
theorem Qb6 {l : List V} : (l.map (V.sh b k)).map V.ng = (l.map V.ng).map (V.sh b k) := by
 rw [List.map_map, List.map_map]
 congr 1
 funext x
 exact Qfm
theorem Qig {ag : Bool} {sz off : Nat} {cs : List V} : part ag sz (cs.map (V.sh b k)) off = (part ag sz cs off).map (V.sh b k) := by
 unfold part
 rw [List.length_map]
 cases ag with
 | true =>
  simp only [if_true]
  split
  ·simp only [Option.map_some, V.sh, Qap, ← List.map_drop, ← List.map_take, Qb6]
  ·rfl
 | false =>
  simp only [Bool.false_eq_true, if_false]
  split
  ·rw [List.getElem?_map]
   cases cs[off]? with
   | none => rfl
   | some x => simp only [Option.map_some, Qfm]
  ·rfl
theorem Qhp {ag : Bool} {sz : Nat} {cs : List V} : ∀ {n off : Nat}, chunks ag sz (cs.map (V.sh b k)) n off = (chunks ag sz cs n off).map (List.map (V.sh b k))
 | 0, _ => rfl
 | n + 1, off => by
  simp only [chunks, Qig, Qhp, Option.bind_eq_bind]
  cases part ag sz cs off with
  | none => rfl
  | some x =>
   simp only [Option.map_some, Option.bind_some]
   cases chunks ag sz cs n (off + sz) <;> rfl
theorem Qje : ∀ {cs : List V} {n : Nat} {xs : List V}, Qcd (cs.map (V.sh b k)) n (xs.map (V.sh b k)) = (Qcd cs n xs).map (V.sh b k)
 | cs, n, [] => by rw [List.map_nil, Qj9, Qj9]
 | [], n, x :: xs => by cases n <;> rfl
 | c :: cs, 0, x :: xs => by simp only [List.map_cons, Qv4, Qje]
 | c :: cs, n + 1, x :: xs => by
  have := Qje (cs := cs) (n := n) (xs := x :: xs)
  simp only [List.map_cons] at this
  simp only [List.map_cons, Qv5, this]
theorem Wbc : ∀ {ps : List (Nat × Nat × V)} {z : List V}, lay (z.map (V.sh b k)) (ps.map fun p => (p.1, p.2.1, V.sh b k p.2.2)) = (lay z ps).map (List.map (V.sh b k))
 | [], z => rfl
 | (off, sz, x) :: r, z => by
  simp only [List.map_cons, lay, Qd6, List.length_map, Qli, Qb6, Qje]
  split
  ·exact Wbc
  ·rfl
theorem Qmk {sz : Nat} : ∀ {ps : List (Nat × V)} {z : List V}, Qc9 sz (z.map (V.sh b k)) (ps.map fun p => (p.1, V.sh b k p.2)) = (Qc9 sz z ps).map (List.map (V.sh b k))
 | [], z => rfl
 | (i, x) :: r, z => by
  simp only [List.map_cons, Qc9, Qd6, List.length_map, Qli, Qfm, ← List.map_set]
  split
  ·exact Qmk
  ·rfl
theorem Qml {ag : Bool} {sz : Nat} {ys : List V} : Qcz ag sz (ys.map (V.sh b k)) = Qcz ag sz ys := by
 unfold Qcz
 rw [List.all_map]
 congr 1
 funext x
 simp only [Function.comp, Qd6, List.length_map, Qli, Qv9]
theorem Qp1 {xs : List V} : (xs.map (V.sh b k)).flatMap V.cells = (xs.flatMap V.cells).map (V.sh b k) := by
 rw [List.flatMap_map, List.map_flatMap]
 congr 1
 funext x
 exact Qd6
theorem Qp2 {f g : V → Option V} (h : ∀ x, g (V.sh b k x) = (f x).map (V.sh b k)) : ∀ {l : List V}, (l.map (V.sh b k)).mapM g = (l.mapM f).map (List.map (V.sh b k))
 | [] => rfl
 | x :: xs => by
  simp only [List.map_cons, List.mapM_cons, h, Qp2 h, Option.bind_eq_bind]
  cases f x with
  | none => rfl
  | some y =>
   simp only [Option.map_some, Option.bind_some]
   cases xs.mapM f <;> rfl
def O.sh (b k : Nat) : O → O
 | .cells cs => .cells (cs.map (V.sh b k))
 | .mp es => .mp (es.map fun p => (V.sh b k p.1, V.sh b k p.2))
end
def ins (b : Nat) (φ σ : Objs) : Objs := (σ.map (O.sh b φ.length)).take b ++ φ ++ (σ.map (O.sh b φ.length)).drop b
section
variable {b : Nat} {φ σ : Objs}
theorem Qp3 (hb : b ≤ σ.length) : (ins b φ σ).length = σ.length + φ.length := by simp [ins]; omega
theorem Qp4 (hb : b ≤ σ.length) (o : Nat) : (ins b φ σ)[rn b φ.length o]? = (σ[o]?).map (O.sh b φ.length) := by
 unfold ins rn
 split
 ·rename_i h
  rw [List.append_assoc, List.getElem?_append_left (by simp; omega), List.getElem?_take, if_pos h, List.getElem?_map]
 ·rename_i h
  rw [List.getElem?_append_right (by simp; omega), List.getElem?_drop, List.getElem?_map]
  congr 2
  simp; omega
theorem Qih (hb : b ≤ σ.length) (o : Nat) (x : O) : (ins b φ σ).set (rn b φ.length o) (x.sh b φ.length) = ins b φ (σ.set o x) := by
 unfold ins rn
 split
 ·rename_i h
  rw [List.append_assoc, List.set_append_left _ _ (by simp; omega), ← List.append_assoc, List.map_set, List.take_set, List.drop_set_of_lt h]
 ·rename_i h
  rw [List.set_append_right _ _ (by simp; omega), List.map_set, List.take_set_of_le (by omega), List.drop_set]
  rw [if_neg (by omega)]
  congr 2
  simp; omega
theorem Qg3 (hb : b ≤ σ.length) (x : O) : ins b φ σ ++ [x.sh b φ.length] = ins b φ (σ ++ [x]) := by
 unfold ins
 rw [List.map_append, List.take_append_of_le_length (by simpa using hb), List.drop_append_of_le_length (by simpa using hb), List.append_assoc]
 rfl
theorem Qc3 (hb : b ≤ σ.length) (o : Nat) : Objs.get (ins b φ σ) (rn b φ.length o) = (Objs.get σ o).map (List.map (V.sh b φ.length)) := by
 unfold Objs.get
 rw [Qp4 hb]
 cases σ[o]? with
 | none => rfl
 | some x => cases x <;> rfl
theorem Qfn (hb : b ≤ σ.length) : (ins b φ σ).length = rn b φ.length σ.length := by
 rw [Qp3 hb]; unfold rn; rw [if_neg (by omega)]
theorem Qzs (hb : b ≤ σ.length) {n : Nat} (hn : b ≤ n) : ∀ {d : Nat} {x : V}, fz (n + φ.length) (ins b φ σ) d (V.sh b φ.length x) = (fz n σ d x).map (V.sh b φ.length)
 | 0, x => by
  unfold fz
  rw [Qzr hn]
  split <;> rfl
 | d + 1, x => by
  have ih : ∀ y, fz (n + φ.length) (ins b φ σ) d (V.sh b φ.length y) = (fz n σ d y).map (V.sh b φ.length) := fun y => Qzs hb hn
  have ihm : ∀ l : List V, (l.map (V.sh b φ.length)).mapM (fz (n + φ.length) (ins b φ σ) d) = (l.mapM (fz n σ d)).map (List.map (V.sh b φ.length)) := fun l => Qp2 ih
  unfold fz
  rw [Qzr hn]
  split
  ·rfl
  ·cases x with
   | ptr o off =>
    simp only [V.sh, Qc3 hb, Option.bind_eq_bind]
    cases Objs.get σ o with
    | none => rfl
    | some cs =>
     simp only [Option.map_some, Option.bind_some, ihm]
     cases cs.mapM (fz n σ d) with
     | none => rfl
     | some ds => simp only [Option.map_some, Option.bind_some, Option.pure_def, V.sh, Qap]
   | hs o off len sz ag =>
    simp only [V.sh, Qc3 hb, Option.bind_eq_bind]
    cases Objs.get σ o with
    | none => rfl
    | some cs =>
     simp only [Option.map_some, Option.bind_some, Qhp]
     cases chunks ag sz cs len off with
     | none => rfl
     | some xs =>
      simp only [Option.map_some, Option.bind_some, ihm]
      cases xs.mapM (fz n σ d) with
      | none => rfl
      | some ds => simp only [Option.map_some, Option.bind_some, Option.pure_def, V.sh, Qap]
   | eptr cs off =>
    simp only [V.sh, Qap, ihm, Option.bind_eq_bind]
    cases cs.mapM (fz n σ d) with
    | none => rfl
    | some ds => simp only [Option.map_some, Option.bind_some, Option.pure_def, V.sh, Qap]
   | sl cs c =>
    simp only [V.sh, Qap, ihm, Option.bind_eq_bind]
    cases cs.mapM (fz n σ d) with
    | none => rfl
    | some ds => simp only [Option.map_some, Option.bind_some, Option.pure_def, V.sh, Qap]
   | agg cs =>
    simp only [V.sh, Qap, ihm, Option.bind_eq_bind]
    cases cs.mapM (fz n σ d) with
    | none => rfl
    | some ds => simp only [Option.map_some, Option.bind_some, Option.pure_def, V.sh, Qap]
   | tup cs =>
    simp only [V.sh, Qap, ihm, Option.bind_eq_bind]
    cases cs.mapM (fz n σ d) with
    | none => rfl
    | some ds => simp only [Option.map_some, Option.bind_some, Option.pure_def, V.sh, Qap]
   | ifc t x =>
    simp only [V.sh, ih, Option.bind_eq_bind]
    cases fz n σ d x with
    | none => rfl
    | some ds => simp only [Option.map_some, Option.bind_some, Option.pure_def, V.sh]
   | fn g xs ys =>
    simp only [V.sh, Qap, ihm, Option.bind_eq_bind]
    cases xs.mapM (fz n σ d) with
    | none => rfl
    | some us =>
     simp only [Option.map_some, Option.bind_some]
     cases ys.mapM (fz n σ d) with
     | none => rfl
     | some ds => simp only [Option.map_some, Option.bind_some, Option.pure_def, V.sh, Qap]
   | _ => rfl
end
end Go.Ev
namespace Go.Ev
open Go
section
variable {b k : Nat}
theorem Qob {x y : V} : Qk6 (V.sh b k x) (V.sh b k y) = Qk6 x y := by cases x <;> cases y <;> rfl
theorem Qtf {c : CK} {x y : V} : Qdp c (V.sh b k x) (V.sh b k y) = Qdp c x y := by cases c <;> cases x <;> cases y <;> rfl
theorem Qlj : ∀ {ks : List CK} {xs ys : List V}, Qa8 ks (xs.map (V.sh b k)) (ys.map (V.sh b k)) = Qa8 ks xs ys
 | [], [], [] => rfl
 | [], [], _ :: _ => rfl
 | [], _ :: _, _ => rfl
 | _ :: _, [], _ => rfl
 | _ :: _, _ :: _, [] => rfl
 | c :: ks, x :: xs, y :: ys => by simp only [List.map_cons, Qa8, Qtf, Qlj]
theorem Wg7 {e : EqK} {x y : V} : eqV e (V.sh b k x) (V.sh b k y) = eqV e x y := by
 cases e with
 | agg ks =>
  cases x <;> cases y <;> first | rfl | (simp only [V.sh, eqV, Qap, Qlj]; done)
 | _ => cases x <;> cases y <;> rfl
theorem Qwa {op : BinOp} {e : EqK} {x y : V} : eB op e (V.sh b k x) (V.sh b k y) = eB op e x y := by
 have h := @Wg7 b k e x y
 cases x <;> cases y <;> first | rfl | (simp only [V.sh] at h ⊢; simp only [eB, h]; done)
theorem Qwb {op : BinOp} {e : EqK} {x y v : V} (h : eB op e x y = some v) : V.rb 0 v = true := by
 unfold eB at h
 split at h
 ·split at h
  ·split at h <;> cases h; rfl
  ·split at h <;> cases h; rfl
  ·split at h
   ·split at h <;> first | (cases h; rfl) | (split at h <;> cases h; rfl) | cases h
   ·cases h
 ·split at h <;> first | (cases h; rfl) | (split at h <;> cases h; rfl) | cases h
 ·split at h
  ·rw [Option.map_eq_some_iff] at h; obtain ⟨a, _, rfl⟩ := h; rfl
  ·rw [Option.map_eq_some_iff] at h; obtain ⟨a, _, rfl⟩ := h; rfl
  ·cases h
theorem Qtg {x : Option V} (h : ∀ v, x = some v → V.rb 0 v = true) : x.map (V.sh b k) = x := by
 cases x with
 | none => rfl
 | some v => rw [Option.map_some, Qbu (h v rfl)]
theorem Qzt {op : BinOp} {e : EqK} {x y : V} : eB op e (V.sh b k x) (V.sh b k y) = (eB op e x y).map (V.sh b k) := by
 rw [Qwa, Qtg fun v h => Qwb h]
theorem Wd8 {op : UnOp} {x : V} : evUn op (V.sh b k x) = (evUn op x).map (V.sh b k) := by cases op <;> cases x <;> rfl
theorem Qf8 : ∀ {l : List V}, bytesOf (l.map (V.sh b k)) = bytesOf l
 | [] => rfl
 | x :: xs => by
  cases x with
  | int j n => cases j <;> simp only [List.map_cons, V.sh, bytesOf, Qf8]
  | _ => rfl
theorem Qzu {x : V} {hi : Nat} : bound (V.sh b k x) hi = bound x hi := by cases x <;> rfl
theorem Qfo {len : Nat} {lo hi mx : Option V} : bounds len (lo.map (V.sh b k)) (hi.map (V.sh b k)) (mx.map (V.sh b k)) = bounds len lo hi mx := by
 cases lo <;> cases hi <;> cases mx <;> simp only [bounds, Option.map_some, Option.map_none, Qzu]
theorem Qwc {x : V} {lo hi : Option V} : Qgk (V.sh b k x) (lo.map (V.sh b k)) (hi.map (V.sh b k)) = (Qgk x lo hi).map (V.sh b k) := by
 cases x with
 | str s =>
  have := @Qfo b k s.length lo hi none
  simp only [Option.map_none] at this
  simp only [V.sh, Qgk, this, Option.bind_eq_bind]
  cases bounds s.length lo hi none <;> rfl
 | _ => rfl
theorem Qwd {sz : Nat} {xs : List V} : (xs.map (V.sh b k)).all (fun y => decide (y.cells.length = sz)) = xs.all (fun y => decide (y.cells.length = sz)) := by
 rw [List.all_map]
 congr 1
 funext x
 simp only [Function.comp, Qd6, List.length_map]
theorem Qzv {sz : Nat} {x : V} {lo hi mx : Option V} : Qbb sz (V.sh b k x) (lo.map (V.sh b k)) (hi.map (V.sh b k)) (mx.map (V.sh b k)) = (Qbb sz x lo hi mx).map (V.sh b k) := by
 cases x with
 | nils =>
  simp only [V.sh, Qbb, Qfo, Option.bind_eq_bind]
  cases bounds 0 lo hi mx <;> rfl
 | sl xs c =>
  simp only [V.sh, Qbb, Qap, List.length_map, Qfo, Qwd, Option.bind_eq_bind]
  cases bounds xs.length lo hi mx with
  | none => rfl
  | some p =>
   obtain ⟨l, h, m⟩ := p
   simp only [Option.bind_some]
   split
   ·simp only [Option.map_some, V.sh, Qap, List.map_take, List.map_drop]
   ·rfl
 | hs o off len s ag =>
  simp only [V.sh, Qbb, Qfo, Option.bind_eq_bind]
  cases bounds len lo hi mx with
  | none => rfl
  | some p =>
   obtain ⟨l, h, m⟩ := p
   simp only [Option.bind_some]
   split
   ·split <;> rfl
   ·rfl
 | _ => rfl
theorem Qwe {n sz : Nat} {ag : Bool} {x : V} {lo hi : Option V} : Qe0 n sz ag (V.sh b k x) (lo.map (V.sh b k)) (hi.map (V.sh b k)) = (Qe0 n sz ag x lo hi).map (V.sh b k) := by
 have := @Qfo b k n lo hi none
 simp only [Option.map_none] at this
 unfold Qe0
 rw [this]
 cases bounds n lo hi none with
 | none => rfl
 | some p =>
  obtain ⟨l, h, m⟩ := p
  simp only [Option.bind_eq_bind, Option.bind_some]
  cases x with
  | ptr o off => simp only [V.sh]; split <;> rfl
  | eptr cs off =>
   simp only [V.sh, Qap, Qhp]
   cases chunks ag sz cs (h - l) (off + l * sz) with
   | none => rfl
   | some xs =>
    simp only [Option.map_some, Option.bind_some, Qli]
    split
    ·simp only [Option.map_some, V.sh, Qap]
    ·rfl
  | _ => rfl
theorem Qhq {x : V} {n : Nat} : index (V.sh b k x) n = index x n := by cases x <;> rfl
theorem Qth {ag : Bool} {off sz : Nat} {x : V} : Qgs ag off sz (V.sh b k x) = (Qgs ag off sz x).map (V.sh b k) := by
 cases x <;> first | rfl | (simp only [V.sh, Qgs, Qap, Qig]; done)
theorem Qti {off : Nat} {x : V} : eF off (V.sh b k x) = (eF off x).map (V.sh b k) := by cases x <;> rfl
theorem Qtj {sz : Nat} {i x : V} : eI sz (V.sh b k i) (V.sh b k x) = (eI sz i x).map (V.sh b k) := by
 cases x with
 | sl xs c =>
  simp only [V.sh, eI, Qhq, Qap, List.length_map, List.getElem?_map, Option.bind_eq_bind]
  cases index i xs.length with
  | none => rfl
  | some j =>
   simp only [Option.bind_some]
   cases xs[j]? with
   | none => rfl
   | some e =>
    simp only [Option.map_some, Option.bind_some, Qd6, List.length_map]
    split
    ·simp only [Option.map_some, V.sh, Qap]
    ·rfl
 | hs o off len s ag =>
  simp only [V.sh, eI, Qhq, Option.bind_eq_bind]
  cases index i len with
  | none => rfl
  | some j =>
   simp only [Option.bind_some]
   split <;> rfl
 | _ => rfl
theorem Qp5 {n sz : Nat} {i x : V} : Qcq n sz (V.sh b k i) (V.sh b k x) = (Qcq n sz i x).map (V.sh b k) := by
 simp only [Qcq, Qhq, Option.bind_eq_bind]
 cases index i n with
 | none => rfl
 | some j => cases x <;> rfl
theorem Qzw {i x : V} : Qlz (V.sh b k i) (V.sh b k x) = (Qlz i x).map (V.sh b k) := by
 cases x with
 | str s =>
  simp only [V.sh, Qlz, Qhq, Option.bind_eq_bind]
  cases index i s.length with
  | none => rfl
  | some j =>
   simp only [Option.bind_some]
   cases s[j]? <;> rfl
 | _ => rfl
theorem Qwf {n : Nat} {ag : Bool} {sz : Nat} {i x : V} : Qk7 n ag sz (V.sh b k i) (V.sh b k x) = (Qk7 n ag sz i x).map (V.sh b k) := by
 simp only [Qk7, Qhq, Option.bind_eq_bind]
 cases index i n with
 | none => rfl
 | some j => cases x <;> first | rfl | (simp only [V.sh, Qap, Qig, Option.bind_some]; done)
theorem Qwg {i : Nat} {x : V} : eX i (V.sh b k x) = (eX i x).map (V.sh b k) := by
 cases x <;> first | rfl | (simp only [V.sh, eX, Qap, List.getElem?_map]; done)
theorem Qwh {x : V} : Qe1 (V.sh b k x) = (Qe1 x).map (V.sh b k) := by cases x <;> rfl
theorem Qzx {x : V} : Qan (V.sh b k x) = (Qan x).map (V.sh b k) := by
 cases x <;> first | rfl | (simp only [V.sh, Qan, Qap, List.length_map, Option.map_some]; done)
theorem Qwi {x : V} : Qa9 (V.sh b k x) = (Qa9 x).map (V.sh b k) := by cases x <;> rfl
theorem Qrn {x : V} : Qe8 (V.sh b k x) = Qe8 x := by cases x <;> rfl
theorem Qro {mx : Bool} : ∀ {xs : List V} {x : V}, Qjm mx (V.sh b k x) (xs.map (V.sh b k)) = (Qjm mx x xs).map (V.sh b k)
 | [], x => rfl
 | y :: ys, x => by
  cases x with
  | int j a =>
   cases y with
   | int i c =>
    have := Qro (mx := mx) (xs := ys) (x := .int j (if mx then (if c > a then c else a) else (if c < a then c else a)))
    simp only [V.sh] at this
    simp only [List.map_cons, V.sh, Qjm]
    split
    ·exact this
    ·rfl
   | _ => simp only [List.map_cons, V.sh, Qjm, Option.map_none]
  | _ => simp only [List.map_cons, V.sh, Qjm, Option.map_none]
theorem Qrp {x : V} : ∀ {es : List (V × V)}, mfind (V.sh b k x) (es.map fun p => (V.sh b k p.1, V.sh b k p.2)) = (mfind x es).map (Option.map (V.sh b k))
 | [] => rfl
 | (y, z) :: r => by
  simp only [List.map_cons, mfind, Qob, Option.bind_eq_bind]
  cases Qk6 x y with
  | none => rfl
  | some t =>
   simp only [Option.bind_some]
   split
   ·rfl
   ·exact Qrp
theorem Qwj {x z : V} : ∀ {es : List (V × V)}, mput (V.sh b k x) (V.sh b k z) (es.map fun p => (V.sh b k p.1, V.sh b k p.2)) = (mput x z es).map (List.map fun p => (V.sh b k p.1, V.sh b k p.2))
 | [] => rfl
 | (y, u) :: r => by
  simp only [List.map_cons, mput, Qob, Option.bind_eq_bind]
  cases Qk6 x y with
  | none => rfl
  | some t =>
   simp only [Option.bind_some]
   split
   ·rfl
   ·rw [Qwj]
    cases mput x z r <;> rfl
theorem Qmm {ag : Bool} {sz bytes : Nat} {x : V} {ys : List V} : Qdi ag sz bytes (V.sh b k x) (ys.map (V.sh b k)) = (Qdi ag sz bytes x ys).map (V.sh b k) := by
 unfold Qdi
 rw [Qml]
 split
 ·cases x with
  | nils =>
   simp only [V.sh, List.map_eq_nil_iff, List.length_map]
   split
   ·rfl
   ·split
    ·simp only [Option.map_some, V.sh, Qap]
    ·rfl
  | sl xs c =>
   cases ys with
   | nil => simp only [V.sh, List.map_nil, Option.map_some]
   | cons y ys =>
    simp only [V.sh, List.map_cons, Qap, Qwd, List.length_map, List.length_cons]
    split
    ·simp only [Option.map_some, V.sh, Qap, List.map_append, List.map_cons]
    ·rfl
  | _ => rfl
 ·rfl
end
section
variable {b : Nat} {φ σ : Objs}
theorem Qwk (hb : b ≤ σ.length) {ag : Bool} {sz : Nat} {x : V} : eL (ins b φ σ) ag sz (V.sh b φ.length x) = (eL σ ag sz x).map (V.sh b φ.length) := by
 cases x with
 | ptr o off =>
  simp only [V.sh, eL, Qc3 hb, Option.bind_eq_bind]
  cases Objs.get σ o with
  | none => rfl
  | some cs => simp only [Option.map_some, Option.bind_some, Qig]
 | eptr cs off => simp only [V.sh, eL, Qap, Qig]
 | _ => rfl
theorem Qrq (hb : b ≤ σ.length) {x : V} : Qh3 (ins b φ σ) (V.sh b φ.length x) = (Qh3 σ x).map (List.map (V.sh b φ.length)) := by
 cases x with
 | sl xs c => simp only [V.sh, Qh3, Qap, Option.map_some]
 | hs o off len sz ag =>
  simp only [V.sh, Qh3, Qc3 hb, Option.bind_eq_bind]
  cases Objs.get σ o with
  | none => rfl
  | some cs => simp only [Option.map_some, Option.bind_some, Qhp]
 | _ => rfl
theorem Qii {c k : Nat} {s : List UInt8} : (Qad s).map (V.sh c k) = Qad s := by
 unfold Qad
 rw [List.map_map]
 congr 1
theorem Qrr (hb : b ≤ σ.length) {str : Bool} {x : V} : Qes str (ins b φ σ) (V.sh b φ.length x) = (Qes str σ x).map (List.map (V.sh b φ.length)) := by
 cases str with
 | true =>
  cases x with
  | str s => simp only [V.sh, Qes, if_true, Option.map_some, Qii]
  | _ => rfl
 | false => exact Qrq hb
theorem Qoc (hb : b ≤ σ.length) {c : Conv} {x : V} : eC (ins b φ σ) c (V.sh b φ.length x) = (eC σ c x).map (V.sh b φ.length) := by
 have hbs : ∀ y : Option (List UInt8), y.map V.str = (y.map V.str).map (V.sh b φ.length) := fun y => by cases y <;> rfl
 cases c with
 | toInt j => cases x <;> rfl
 | same => cases x <;> rfl
 | intStr => cases x <;> rfl
 | strBytes =>
  cases x with
  | str s => simp only [V.sh, eC, Option.map_some, Qap, Qii]
  | _ => rfl
 | bytesStr =>
  cases x with
  | sl xs c => simp only [V.sh, eC, Qap, Qf8]; exact hbs _
  | hs o off len sz ag =>
   have := Qrq hb (φ := φ) (x := .hs o off len sz ag)
   simp only [V.sh] at this
   simp only [V.sh, eC, this, Option.bind_eq_bind]
   cases Qh3 σ (.hs o off len sz ag) with
   | none => rfl
   | some xs => simp only [Option.map_some, Option.bind_some, Qf8]; exact hbs _
  | _ => rfl
 | bytesStrN =>
  cases x with
  | sl xs c => simp only [V.sh, eC, Qap, Qf8]; exact hbs _
  | _ => rfl
end
def Arg.cl : Arg → Bool
 | .c x => V.rb 0 x
 | _ => true
def oCl : Option Arg → Bool
 | none => true
 | some a => a.cl
def Ins.cl : Ins → Bool
 | .mv x _ | .box x | .loadT x | .nilc x | .un _ x | .conv _ x | .faddr _ x | .field _ _ _ x | .lenS x | .len x | .mkif _ x | .extr x _ | .bytesH x | .mark x | .load _ _ x => x.cl
 | .pick c a b => c.cl && a.cl && b.cl
 | .alloc z => V.rbs 0 z
 | .build z ps => V.rbs 0 z && ps.all fun p => p.2.2.cl
 | .buildSl _ _ _ z ps _ => V.rb 0 z && ps.all fun p => p.2.cl
 | .buildG _ _ _ z ps => V.rb 0 z && ps.all fun p => p.2.cl
 | .store _ p x _ => p.cl && x.cl
 | .bin _ _ x y => x.cl && y.cl
 | .cutS x lo hi => x.cl && oCl lo && oCl hi
 | .cut _ x lo hi mx => x.cl && oCl lo && oCl hi && oCl mx
 | .cutA _ _ _ x lo hi => x.cl && oCl lo && oCl hi
 | .iaddr _ x i | .iaddrA _ _ x i | .idx x i | .idxA _ _ _ x i => x.cl && i.cl
 | .app _ _ _ _ x y _ | .appH _ _ _ _ x y => x.cl && y.cl
 | .call _ az => az.all Arg.cl
 | .callv x az => x.cl && az.all Arg.cl
 | .mkfn _ a c => a.all Arg.cl && c.all Arg.cl
 | .mkSl _ _ _ z l c _ => V.rb 0 z && l.cl && c.cl
 | .mm _ az => az.all Arg.cl
 | .mkmp => true
 | .mset m k x => m.cl && k.cl && x.cl
 | .mget z m k _ => V.rb 0 z && m.cl && k.cl
section
variable {b : Nat} {φ σ : Objs} {A A' : Arg → V}
theorem Qij {k : Nat} (hA : ∀ a, a.cl = true → A' a = V.sh b k (A a)) : ∀ {az : List Arg}, az.all Arg.cl = true → az.map A' = (az.map A).map (V.sh b k)
 | [], _ => rfl
 | a :: az, h => by
  simp only [List.all_cons, Bool.and_eq_true] at h
  simp only [List.map_cons, hA a h.1, Qij hA h.2]
theorem Qg4 {k : Nat} (hA : ∀ a, a.cl = true → A' a = V.sh b k (A a)) {x : Option Arg} (h : oCl x = true) : x.map A' = (x.map A).map (V.sh b k) := by
 cases x with
 | none => rfl
 | some a => simp only [Option.map_some, hA a h]
theorem Qmn {k : Nat} (hA : ∀ a, a.cl = true → A' a = V.sh b k (A a)) : ∀ {ps : List (Nat × Arg)}, ps.all (fun p => p.2.cl) = true → (ps.map fun p => (p.1, A' p.2)) = (ps.map fun p => (p.1, A p.2)).map fun p => (p.1, V.sh b k p.2)
 | [], _ => rfl
 | p :: ps, h => by
  simp only [List.all_cons, Bool.and_eq_true] at h
  simp only [List.map_cons, hA p.2 h.1, Qmn hA h.2]
theorem Qod {k : Nat} (hA : ∀ a, a.cl = true → A' a = V.sh b k (A a)) : ∀ {ps : List (Nat × Nat × Arg)}, ps.all (fun p => p.2.2.cl) = true → (ps.map fun p => (p.1, p.2.1, A' p.2.2)) = (ps.map fun p => (p.1, p.2.1, A p.2.2)).map fun p => (p.1, p.2.1, V.sh b k p.2.2)
 | [], _ => rfl
 | p :: ps, h => by
  simp only [List.all_cons, Bool.and_eq_true] at h
  simp only [List.map_cons, hA p.2.2 h.1, Qod hA h.2]
theorem Wg8 {c k : Nat} {z : List V} (h : V.rbs 0 z = true) : z.map (V.sh c k) = z := by rw [← Qap, Qbk h]
theorem Qwl (hb : b ≤ σ.length) (hA : ∀ a, a.cl = true → A' a = V.sh b φ.length (A a)) {i : Ins} (hi : i.cl = true) : Qay A' (ins b φ σ) i = (Qay A σ i).map (V.sh b φ.length) := by
 cases i with
 | pick c x y =>
  simp only [Ins.cl, Bool.and_eq_true] at hi
  simp only [Qay, hA c hi.1.1, hA x hi.1.2, hA y hi.2]
  cases A c with
  | bool t => cases t <;> rfl
  | _ => rfl
 | build z ps =>
  simp only [Ins.cl, Bool.and_eq_true] at hi
  have h1 := @Wbc b φ.length (ps.map fun p => (p.1, p.2.1, A p.2.2)) z
  rw [← Qod hA hi.2, Wg8 hi.1] at h1
  simp only [Qay]
  rw [h1]
  cases lay z (ps.map fun p => (p.1, p.2.1, A p.2.2)) with
  | none => rfl
  | some cs => simp only [Option.map_some, V.sh, Qap]
 | nilc x => simp only [Qay, hA x hi, Qwi]
 | bin op e x y =>
  simp only [Ins.cl, Bool.and_eq_true] at hi
  simp only [Qay, hA x hi.1, hA y hi.2, Qzt]
 | un op x => simp only [Qay, hA x hi, Wd8]
 | conv c x => simp only [Qay, hA x hi, Qoc hb]
 | cutS x lo hi' =>
  simp only [Ins.cl, Bool.and_eq_true] at hi
  simp only [Qay, hA x hi.1.1, Qg4 hA hi.1.2, Qg4 hA hi.2, Qwc]
 | cut sz x lo hi' mx =>
  simp only [Ins.cl, Bool.and_eq_true] at hi
  simp only [Qay, hA x hi.1.1.1, Qg4 hA hi.1.1.2, Qg4 hA hi.1.2, Qg4 hA hi.2, Qzv]
 | cutA n sz ag x lo hi' =>
  simp only [Ins.cl, Bool.and_eq_true] at hi
  simp only [Qay, hA x hi.1.1, Qg4 hA hi.1.2, Qg4 hA hi.2, Qwe]
 | load ag sz x => simp only [Qay, hA x hi, Qwk hb]
 | faddr off x => simp only [Qay, hA x hi, Qti]
 | field ag off sz x => simp only [Qay, hA x hi, Qth]
 | iaddr sz x i =>
  simp only [Ins.cl, Bool.and_eq_true] at hi
  simp only [Qay, hA x hi.1, hA i hi.2, Qtj]
 | iaddrA n sz x i =>
  simp only [Ins.cl, Bool.and_eq_true] at hi
  simp only [Qay, hA x hi.1, hA i hi.2, Qp5]
 | idx x i =>
  simp only [Ins.cl, Bool.and_eq_true] at hi
  simp only [Qay, hA x hi.1, hA i hi.2, Qzw]
 | idxA n ag sz x i =>
  simp only [Ins.cl, Bool.and_eq_true] at hi
  simp only [Qay, hA x hi.1, hA i hi.2, Qwf]
 | lenS x => simp only [Qay, hA x hi, Qwh]
 | len x => simp only [Qay, hA x hi, Qzx]
 | mkfn f xs ys =>
  simp only [Ins.cl, Bool.and_eq_true] at hi
  simp only [Qay, Qij hA hi.1, Qij hA hi.2, Option.map_some, V.sh, Qap]
 | mkif t x => simp only [Qay, hA x hi, Option.map_some, V.sh]
 | extr x i => simp only [Qay, hA x hi, Qwg]
 | mm mx az =>
  simp only [Qay, Qij hA hi]
  cases az.map A with
  | nil => rfl
  | cons x r =>
   simp only [List.map_cons, Qrn, Qro]
   split <;> rfl
 | mget z m kk ok =>
  simp only [Ins.cl, Bool.and_eq_true] at hi
  have fin : ∀ r : Option (Option V), (r.map (Option.map (V.sh b φ.length))).bind (fun r => (some (if ok = true then V.tup [r.getD z, .bool r.isSome] else r.getD z) : Option V)) = (r.bind fun r => (some (if ok = true then V.tup [r.getD z, .bool r.isSome] else r.getD z) : Option V)).map (V.sh b φ.length) := by
   intro r
   cases r with
   | none => rfl
   | some r =>
    cases r with
    | none =>
     have hz := Qbu (b := b) (k := φ.length) hi.1.1
     cases ok
     ·simp [hz]
     ·simp [hz, V.sh, V.shs]
    | some v => cases ok <;> simp [V.sh, V.shs]
  simp only [Qay, hA m hi.1.2, hA kk hi.2]
  cases A m with
  | nilm => exact fin (some none)
  | mp o =>
   simp only [V.sh, Qp4 hb]
   cases σ[o]? with
   | none => rfl
   | some O =>
    cases O with
    | cells cs => rfl
    | mp es =>
     simp only [Option.map_some, O.sh, Qrp]
     exact fin _
  | _ => rfl
 | _ => rfl
end
end Go.Ev
namespace Go.Ev
open Go
section
variable {b : Nat} {φ : Objs}
def FrR (b : Nat) (φ : Objs) (x' x : Ro) : Prop := x' = x.map (fun p => (V.sh b φ.length p.1, ins b φ p.2)) ∧ ∀ p, x = some p → b ≤ p.2.length
theorem FrR.none : FrR b φ none none := ⟨rfl, fun _ h => by cases h⟩
theorem FrR.some {v : V} {σ : Objs} (h : b ≤ σ.length) : FrR b φ (some (V.sh b φ.length v, ins b φ σ)) (some (v, σ)) := ⟨rfl, fun _ h' => by cases h'; exact h⟩
def FrC (b : Nat) (φ : Objs) (call' call : FuncId → List V → Objs → Ro) : Prop := ∀ f args σ, b ≤ σ.length → FrR b φ (call' f (args.map (V.sh b φ.length)) (ins b φ σ)) (call f args σ)
theorem Qwm {x' x : Option V} {σ : Objs} (hb : b ≤ σ.length) (h : x' = x.map (V.sh b φ.length)) : FrR b φ (x'.bind fun v => Option.some (v, ins b φ σ)) (x.bind fun v => Option.some (v, σ)) := by
 subst h
 cases x with
 | none => exact .none
 | some v => exact .some hb
theorem Qmo {x' x : Option V} {σ : Objs} (hb : b ≤ σ.length) (h : x' = x.map (V.sh b φ.length)) : FrR b φ (x'.bind fun v => Option.some (v.ng, ins b φ σ)) (x.bind fun v => Option.some (v.ng, σ)) := by
 subst h
 cases x with
 | none => exact .none
 | some v =>
  show FrR b φ (Option.some ((V.sh b φ.length v).ng, ins b φ σ)) (Option.some (v.ng, σ))
  rw [Qfm]
  exact .some hb
theorem Wg9 {σ : Objs} (hb : b ≤ σ.length) {call call' : FuncId → List V → Objs → Ro} (hc : FrC b φ call' call) {A A' T T' : Arg → V} (hA : ∀ a, a.cl = true → A' a = V.sh b φ.length (A a)) (hT : ∀ a, a.cl = true → T' a = V.sh b φ.length (T a)) {i : Ins} (hi : i.cl = true) :
  FrR b φ (Qaw call' A' T' (ins b φ σ) i) (Qaw call A T σ i) := by
 have happ : ∀ x : O, b ≤ (σ ++ [x]).length := fun x => by simp; omega
 have hset : ∀ o (x : O), b ≤ (σ.set o x).length := fun o x => by simpa using hb
 have hp : Qay A' (ins b φ σ) i = (Qay A σ i).map (V.sh b φ.length) := Qwl hb hA hi
 have ptr0 : V.ptr (ins b φ σ).length 0 = V.sh b φ.length (.ptr σ.length 0) := by rw [Qfn hb]; rfl
 cases i with
 | mv x tk =>
  simp only [Qaw, hA x hi, hT x hi]
  cases tk <;> exact .some hb
 | alloc z =>
  simp only [Qaw]
  split
  ·have h1 := Qg3 (b := b) (φ := φ) hb (.cells z)
   rw [show (O.cells z).sh b φ.length = .cells z by rw [O.sh, Wg8 hi]] at h1
   rw [h1, ptr0]
   exact .some (happ _)
  ·exact .none
 | box x =>
  simp only [Qaw, hA x hi, Qd6, Qli, Qb6]
  split
  ·rw [ptr0]
   have h1 := Qg3 (b := b) (φ := φ) hb (.cells ((A x).cells.map V.ng))
   rw [show (O.cells ((A x).cells.map V.ng)).sh b φ.length = .cells (((A x).cells.map V.ng).map (V.sh b φ.length)) from rfl] at h1
   rw [h1]
   exact .some (happ _)
  ·exact .none
 | buildSl ag sz len z ps h =>
  simp only [Ins.cl, Bool.and_eq_true] at hi
  have h1 := @Qmk b φ.length sz (ps.map fun p => (p.1, A p.2)) (List.replicate len z)
  rw [← Qmn hA hi.2, List.map_replicate, Qbu hi.1] at h1
  simp only [Qaw]
  rw [h1]
  cases Qc9 sz (List.replicate len z) (ps.map fun p => (p.1, A p.2)) with
  | none => exact .none
  | some xs =>
   simp only [Option.map_some, Option.bind_eq_bind, Option.bind_some, Qml]
   split
   ·cases h with
    | true =>
     simp only [if_true, Qp1, Qb6]
     have h2 := Qg3 (b := b) (φ := φ) hb (.cells ((xs.flatMap V.cells).map V.ng))
     rw [show (O.cells ((xs.flatMap V.cells).map V.ng)).sh b φ.length = .cells (((xs.flatMap V.cells).map V.ng).map (V.sh b φ.length)) from rfl] at h2
     rw [h2, Qfn hb]
     exact .some (v := .hs σ.length 0 len sz ag) (happ _)
    | false =>
     simp only [Bool.false_eq_true, if_false]
     rw [← Qap]
     exact .some (v := .sl xs .fx) hb
   ·exact .none
 | buildG ag sz len z ps =>
  simp only [Ins.cl, Bool.and_eq_true] at hi
  have h1 := @Qmk b φ.length sz (ps.map fun p => (p.1, A p.2)) (List.replicate len z)
  rw [← Qmn hA hi.2, List.map_replicate, Qbu hi.1] at h1
  simp only [Qaw]
  rw [h1]
  cases Qc9 sz (List.replicate len z) (ps.map fun p => (p.1, A p.2)) with
  | none => exact .none
  | some xs =>
   simp only [Option.map_some, Option.bind_eq_bind, Option.bind_some, Qml]
   split
   ·rw [← Qap]
    exact .some (v := .sl xs (.gr sz)) hb
   ·exact .none
 | mark x =>
  simp only [Qaw, hT x hi]
  cases T x with
  | sl xs c =>
   cases c with
   | gr s => exact .some (v := .sl xs .no) hb
   | _ => exact .none
  | _ => exact .none
 | store sz p x tk =>
  simp only [Ins.cl, Bool.and_eq_true] at hi
  have hv : (if tk = true then T' x else A' x) = V.sh b φ.length (if tk = true then T x else A x) := by
   cases tk
   ·exact hA x hi.2
   ·exact hT x hi.2
  simp only [Qaw]
  simp only [hv]
  generalize (if tk = true then T x else A x) = tv
  simp only [hA p hi.1, hA x hi.2]
  cases A p with
  | ptr o off =>
   simp only [V.sh, Qc3 hb, Option.bind_eq_bind]
   cases Objs.get σ o with
   | none => exact .none
   | some cs =>
    simp only [Option.map_some, Option.bind_some, Qd6, List.length_map, Qli]
    split
    ·have plain : ∀ w, w = A x → (∀ cs, w ≠ .agg cs) → FrR b φ
       (if (V.sh b φ.length tv).isLk = true then Option.none else Option.some (V.undef, (ins b φ σ).set (rn b φ.length o) (.cells ((cs.map (V.sh b φ.length)).set off (V.sh b φ.length tv)))))
       (if tv.isLk = true then Option.none else Option.some (V.undef, List.set σ o (.cells (cs.set off tv)))) := by
      intro w _ _
      rw [Wd7]
      split
      ·exact .none
      ·rw [← List.map_set]
       have h2 := Qih (b := b) (φ := φ) hb o (.cells (cs.set off tv))
       rw [show (O.cells (cs.set off tv)).sh b φ.length = .cells ((cs.set off tv).map (V.sh b φ.length)) from rfl] at h2
       rw [h2]
       exact .some (v := .undef) (hset _ _)
     cases hx : A x with
     | agg ds =>
      simp only [V.sh, V.cells, Qb6, Qje]
      have h2 := Qih (b := b) (φ := φ) hb o (.cells (Qcd cs off (ds.map V.ng)))
      rw [show (O.cells (Qcd cs off (ds.map V.ng))).sh b φ.length = .cells ((Qcd cs off (ds.map V.ng)).map (V.sh b φ.length)) from rfl] at h2
      rw [h2]
      exact .some (v := .undef) (hset _ _)
     | _ => exact plain _ hx.symm (fun _ h => by cases h)
    ·exact .none
  | _ => exact .none
 | loadT x =>
  simp only [Qaw, hA x hi]
  cases A x with
  | ptr o off =>
   simp only [V.sh, Qc3 hb, Option.bind_eq_bind]
   cases Objs.get σ o with
   | none => exact .none
   | some cs =>
    simp only [Option.map_some, Option.bind_some, List.getElem?_map]
    cases cs[off]? with
    | none => exact .none
    | some v =>
     simp only [Option.map_some, Option.bind_some]
     cases v with
     | sl xs c =>
      cases c with
      | gr s =>
       simp only [V.sh]
       have h2 := Qih (b := b) (φ := φ) hb o (.cells (cs.set off (.sl xs .no)))
       rw [show (O.cells (cs.set off (.sl xs .no))).sh b φ.length = .cells ((cs.map (V.sh b φ.length)).set off (.sl (V.shs b φ.length xs) .no)) by rw [O.sh, List.map_set]; rfl] at h2
       rw [h2]
       exact .some (v := .sl xs (.gr s)) (hset _ _)
      | lk => exact .none
      | no => exact .some (v := .sl xs .no) hb
      | fx => exact .some (v := .sl xs .fx) hb
     | ptr o' i => exact .some (v := .ptr o' i) hb
     | eptr cs' i => exact .some (v := .eptr cs' i) hb
     | hs a1 a2 a3 a4 a5 => exact .some (v := .hs a1 a2 a3 a4 a5) hb
     | agg cs' => exact .some (v := .agg cs') hb
     | tup cs' => exact .some (v := .tup cs') hb
     | ifc t x' => exact .some (v := .ifc t x') hb
     | fn f a1 a2 => exact .some (v := .fn f a1 a2) hb
     | mp o' => exact .some (v := .mp o') hb
     | any => exact .some (v := .any) hb
     | undef => exact .some (v := .undef) hb
     | bool x' => exact .some (v := .bool x') hb
     | int j n => exact .some (v := .int j n) hb
     | str s => exact .some (v := .str s) hb
     | nilp => exact .some (v := .nilp) hb
     | nils => exact .some (v := .nils) hb
     | nili => exact .some (v := .nili) hb
     | nilf => exact .some (v := .nilf) hb
     | nilm => exact .some (v := .nilm) hb
  | eptr cs off =>
   simp only [V.sh, Qap, List.getElem?_map, Option.bind_eq_bind]
   cases cs[off]? with
   | none => exact .none
   | some v =>
    simp only [Option.map_some, Option.bind_some, Qfm]
    exact .some hb
  | _ => exact .none
 | app str ag sz bytes x y tk =>
  simp only [Ins.cl, Bool.and_eq_true] at hi
  have hv : (if tk = true then T' x else A' x) = V.sh b φ.length (if tk = true then T x else A x) := by
   cases tk
   ·exact hA x hi.1
   ·exact hT x hi.1
  simp only [Qaw, hv, hA y hi.2, Qrr hb, Option.bind_eq_bind]
  cases Qes str σ (A y) with
  | none => exact .none
  | some ys =>
   simp only [Option.map_some, Option.bind_some]
   exact Qwm hb Qmm
 | appH str ag sz bytes x y =>
  simp only [Ins.cl, Bool.and_eq_true] at hi
  simp only [Qaw, hA x hi.1, hA y hi.2, Qrr hb, Option.bind_eq_bind]
  cases Qes str σ (A y) with
  | none => exact .none
  | some ys =>
   simp only [Option.map_some, Option.bind_some]
   cases ys with
   | nil => exact Qmo hb (Qmm (ys := []))
   | cons y0 ys =>
    have h1 := @Qmm b φ.length ag sz bytes (A x) (y0 :: ys)
    simp only [List.map_cons] at h1 ⊢
    rw [h1]
    cases Qdi ag sz bytes (A x) (y0 :: ys) with
    | none => exact .none
    | some v =>
     simp only [Option.map_some, Option.bind_some]
     cases v with
     | sl xs c =>
      simp only [V.sh, Qap, Qp1, Qb6, List.length_map]
      have h2 := Qg3 (b := b) (φ := φ) hb (.cells ((xs.flatMap V.cells).map V.ng))
      rw [show (O.cells ((xs.flatMap V.cells).map V.ng)).sh b φ.length = .cells (((xs.flatMap V.cells).map V.ng).map (V.sh b φ.length)) from rfl] at h2
      rw [h2, Qfn hb]
      exact .some (v := .hs σ.length 0 xs.length sz ag) (happ _)
     | _ => exact .none
 | bytesH x =>
  simp only [Qaw, hA x hi]
  cases A x with
  | str s =>
   simp only [V.sh]
   have h2 := Qg3 (b := b) (φ := φ) hb (.cells (Qad s))
   rw [show (O.cells (Qad s)).sh b φ.length = .cells (Qad s) by rw [O.sh, Qii]] at h2
   rw [h2, Qfn hb]
   exact .some (v := .hs σ.length 0 s.length 1 false) (happ _)
  | _ => exact .none
 | mkSl ag sz bytes z l c h =>
  simp only [Ins.cl, Bool.and_eq_true] at hi
  simp only [Qaw, hA l hi.1.2, hA c hi.2, Qrn, Option.bind_eq_bind]
  cases Qe8 (A l) with
  | none => exact .none
  | some l =>
   cases Qe8 (A c) with
   | none => exact .none
   | some c =>
    simp only [Option.bind_some]
    split
    ·cases h with
     | true =>
      simp only [if_true]
      have hz : ((List.replicate c.toNat z).flatMap V.cells).map (V.sh b φ.length) = (List.replicate c.toNat z).flatMap V.cells := by
       rw [← Qp1, List.map_replicate, Qbu hi.1.1]
      have h2 := Qg3 (b := b) (φ := φ) hb (.cells ((List.replicate c.toNat z).flatMap V.cells))
      rw [show (O.cells ((List.replicate c.toNat z).flatMap V.cells)).sh b φ.length = .cells ((List.replicate c.toNat z).flatMap V.cells) by rw [O.sh, hz]] at h2
      rw [h2, Qfn hb]
      exact .some (v := .hs σ.length 0 l.toNat sz ag) (happ _)
     | false =>
      simp only [Bool.false_eq_true, if_false]
      have hz : V.sl (List.replicate l.toNat z) (if l = c then .fx else .gr sz) = V.sh b φ.length (.sl (List.replicate l.toNat z) (if l = c then .fx else .gr sz)) := by
       rw [V.sh, Qap, List.map_replicate, Qbu hi.1.1]
      refine ⟨?_, fun p hp => by cases hp; exact hb⟩
      show some (V.sl (List.replicate l.toNat z) (if l = c then .fx else .gr sz), ins b φ σ) = some (V.sh b φ.length (V.sl (List.replicate l.toNat z) (if l = c then .fx else .gr sz)), ins b φ σ)
      rw [← hz]
    ·exact .none
 | mkmp =>
  simp only [Qaw]
  have h2 := Qg3 (b := b) (φ := φ) hb (.mp [])
  rw [show (O.mp []).sh b φ.length = .mp [] from rfl] at h2
  rw [h2, Qfn hb]
  exact .some (v := .mp σ.length) (happ _)
 | mset m kk x =>
  simp only [Ins.cl, Bool.and_eq_true] at hi
  simp only [Qaw, hA m hi.1.1, hA kk hi.1.2, hA x hi.2]
  cases A m with
  | mp o =>
   simp only [V.sh, Qp4 hb]
   cases σ[o]? with
   | none => exact .none
   | some O =>
    cases O with
    | cells cs => exact .none
    | mp es =>
     simp only [Option.map_some, O.sh, Qwj, Option.bind_eq_bind]
     cases mput (A kk) (A x) es with
     | none => exact .none
     | some es' =>
      simp only [Option.map_some, Option.bind_some]
      have h2 := Qih (b := b) (φ := φ) hb o (.mp es')
      rw [show (O.mp es').sh b φ.length = .mp (es'.map fun p => (V.sh b φ.length p.1, V.sh b φ.length p.2)) from rfl] at h2
      rw [h2]
      exact .some (v := .undef) (hset _ _)
  | _ => exact .none
 | call f az =>
  simp only [Qaw, Qij hA hi]
  exact hc f _ σ hb
 | callv x az =>
  simp only [Ins.cl, Bool.and_eq_true] at hi
  simp only [Qaw, hA x hi.1, Qij hA hi.2]
  cases A x with
  | fn f first caps =>
   simp only [V.sh, Qap, ← List.map_append, Qb6]
   exact hc f _ σ hb
  | _ => exact .none
 | conv c x =>
  cases c with
  | strBytes =>
   simp only [Qaw, hA x hi, Option.bind_eq_bind]
   exact Qwm hb (Qoc hb)
  | _ => exact Qmo hb hp
 | _ => exact Qmo hb hp
end
section
variable {b : Nat} {φ : Objs} {G : GV} {call call' : FuncId → List V → Objs → Ro}
def GCl (G : GV) : Prop := ∀ n, V.rb 0 (G n) = true
theorem Qwn (hG : GCl G) {ρ : List V} {k : Nat} {a : Arg} (h : a.cl = true) : argT G (ρ.map (V.sh b k)) a = V.sh b k (argT G ρ a) := by
 cases a with
 | t n =>
  simp only [argT, List.getD_eq_getElem?_getD, List.getElem?_map]
  cases ρ[n]? <;> rfl
 | c x => exact (Qbu h).symm
 | g n => exact (Qbu (hG n)).symm
 | f id => rfl
theorem Qwo (hG : GCl G) {ρ : List V} {k : Nat} {a : Arg} (h : a.cl = true) : arg G (ρ.map (V.sh b k)) a = V.sh b k (arg G ρ a) := by
 unfold arg
 rw [Qwn hG h, Qfm]
theorem Qmp {ρ : List V} {k n : Nat} : (ρ.map (V.sh b k)).getD n .undef = V.sh b k (ρ.getD n .undef) := by
 simp only [List.getD_eq_getElem?_getD, List.getElem?_map]
 cases ρ[n]? <;> rfl
theorem Wbd {ρ : List V} {k : Nat} {d : Option Nat} {x : V} : put (ρ.map (V.sh b k)) d (V.sh b k x) = (put ρ d x).map (V.sh b k) := by
 cases d <;> simp [put, List.map_set]
theorem Qwp {ρ : List V} {k : Nat} {x : Arg} {tk : Bool} : unslot (ρ.map (V.sh b k)) x tk = (unslot ρ x tk).map (V.sh b k) := by
 cases x <;> cases tk <;> simp only [unslot, List.map_set, Qmp, Qfm]
def FrS (b : Nat) (φ : Objs) (x' x : Option (List V × Objs)) : Prop := x' = x.map (fun p => (p.1.map (V.sh b φ.length), ins b φ p.2)) ∧ ∀ p, x = some p → b ≤ p.2.length
theorem FrS.none : FrS b φ none none := ⟨rfl, fun _ h => by cases h⟩
theorem FrS.some {ρ : List V} {σ : Objs} (h : b ≤ σ.length) : FrS b φ (some (ρ.map (V.sh b φ.length), ins b φ σ)) (some (ρ, σ)) := ⟨rfl, fun _ h' => by cases h'; exact h⟩
theorem FrS.bind {x' x : Option (List V × Objs)} {f' f : List V × Objs → Option (List V × Objs)} (h : FrS b φ x' x) (hf : ∀ ρ σ, b ≤ σ.length → FrS b φ (f' (ρ.map (V.sh b φ.length), ins b φ σ)) (f (ρ, σ))) : FrS b φ (x'.bind f') (x.bind f) := by
 obtain ⟨rfl, h2⟩ := h
 cases x with
 | none => exact .none
 | some p => exact hf p.1 p.2 (h2 p rfl)
theorem Wha (hG : GCl G) (hc : FrC b φ call' call) {s : Step} (hs : s.ins.cl = true) {ρ : List V} {σ : Objs} (hb : b ≤ σ.length) : FrS b φ (ev1 G call' s (ρ.map (V.sh b φ.length)) (ins b φ σ)) (ev1 G call s ρ σ) := by
 unfold ev1
 have h := Wg9 hb hc (A := arg G ρ) (A' := arg G (ρ.map (V.sh b φ.length))) (T := argT G ρ) (T' := argT G (ρ.map (V.sh b φ.length))) (fun a ha => Qwo hG ha) (fun a ha => Qwn hG ha) hs
 obtain ⟨h1, h2⟩ := h
 rw [h1]
 cases he : Qaw call (arg G ρ) (argT G ρ) σ s.ins with
 | none => exact .none
 | some p =>
  simp only [Option.map_some, Option.bind_eq_bind, Option.bind_some, Qwp, Wbd]
  exact .some (h2 p he)
theorem Qoe {ρ : List V} {k : Nat} {g : Option (Nat × Bool)} : wanted (ρ.map (V.sh b k)) g = wanted ρ g := by
 cases g with
 | none => rfl
 | some p =>
  obtain ⟨g, t⟩ := p
  simp only [wanted, Qmp]
  cases ρ.getD g .undef <;> rfl
theorem Qwq (hG : GCl G) (hc : FrC b φ call' call) {s : Step} (hs : s.ins.cl = true) {ρ : List V} {σ : Objs} (hb : b ≤ σ.length) : FrS b φ (Qbq G call' s (ρ.map (V.sh b φ.length)) (ins b φ σ)) (Qbq G call s ρ σ) := by
 unfold Qbq
 rw [Qoe]
 cases wanted ρ s.gd with
 | none => exact .none
 | some t =>
  simp only [Option.bind_eq_bind, Option.bind_some]
  split
  ·exact Wha hG hc hs hb
  ·have : put (ρ.map (V.sh b φ.length)) s.dst .undef = (put ρ s.dst .undef).map (V.sh b φ.length) := Wbd (x := .undef)
   rw [this]
   exact .some hb
theorem Qrs (hG : GCl G) (hc : FrC b φ call' call) : ∀ {l : List Step}, l.all (fun s => s.ins.cl) = true → ∀ {ρ : List V} {σ : Objs}, b ≤ σ.length → FrS b φ (Qcr G call' l (ρ.map (V.sh b φ.length)) (ins b φ σ)) (Qcr G call l ρ σ)
 | [], _, ρ, σ, hb => .some hb
 | s :: r, h, ρ, σ, hb => by
  simp only [List.all_cons, Bool.and_eq_true] at h
  exact FrS.bind (Qwq hG hc h.1 hb) fun ρ' σ' hb' => Qrs hG hc h.2 hb'
def Rd.sh (b k : Nat) : Rd → Rd
 | .none => .none
 | .same ex o off n => .same ex (rn b k o) off n
 | .made o => .made (rn b k o)
 | .took o off => .took (rn b k o) off
theorem Qzy {A A' : Arg → V} {σ : Objs} (hb : b ≤ σ.length) (hA : ∀ a, a.cl = true → A' a = V.sh b φ.length (A a)) {i : Ins} (hi : i.cl = true) : reads A' (ins b φ σ) i = (reads A σ i).sh b φ.length := by
 cases i with
 | load ag sz x =>
  simp only [reads, hA x hi]
  cases A x <;> rfl
 | loadT x =>
  simp only [reads, hA x hi]
  cases A x with
  | ptr o off =>
   simp only [V.sh, Qc3 hb]
   cases Objs.get σ o with
   | none => rfl
   | some cs =>
    simp only [Option.map_some, Option.bind_some, List.getElem?_map]
    cases cs[off]? with
    | none => rfl
    | some v =>
     cases v with
     | sl xs c => cases c <;> rfl
     | _ => rfl
  | _ => rfl
 | alloc z => simp only [reads, Qfn hb]; rfl
 | box x => simp only [reads, Qfn hb]; rfl
 | _ => rfl
theorem Qrt {k : Nat} {l m : List V} : V.beqs (l.map (V.sh b k)) (m.map (V.sh b k)) = V.beqs l m := by rw [← Qap, ← Qap, Qp0]
theorem Qwr {σ σ' : Objs} (hb : b ≤ σ.length) (hb' : b ≤ σ'.length) {r : Rd} : stable (ins b φ σ) (ins b φ σ') (r.sh b φ.length) = stable σ σ' r := by
 cases r with
 | none => rfl
 | took o off => rfl
 | same ex o off n =>
  simp only [Rd.sh, stable, Qc3 hb, Qc3 hb']
  cases Objs.get σ o with
  | none => rfl
  | some cs =>
   cases Objs.get σ' o with
   | none => rfl
   | some ds =>
    simp only [Option.map_some, List.length_map, ← List.map_drop, ← List.map_take, Qb6, Qrt]
 | made o =>
  simp only [Rd.sh, stable, Qc3 hb, Qc3 hb']
  cases Objs.get σ o with
  | none => rfl
  | some cs =>
   cases Objs.get σ' o with
   | none => rfl
   | some ds => simp only [Option.map_some, Qrt]
def FrO (b : Nat) (φ : Objs) (x' x : Option Objs) : Prop := x' = x.map (ins b φ) ∧ ∀ σ, x = some σ → b ≤ σ.length
theorem Qru : ∀ {l : List (Nat × Nat)} {σ : Objs}, b ≤ σ.length → FrO b φ (Qgg (ins b φ σ) (l.map fun p => (rn b φ.length p.1, p.2))) (Qgg σ l)
 | [], σ, hb => ⟨rfl, fun _ h => by cases h; exact hb⟩
 | (o, off) :: r, σ, hb => by
  simp only [List.map_cons, Qgg, Qc3 hb]
  cases Objs.get σ o with
  | none => exact ⟨rfl, fun _ h => by cases h⟩
  | some cs =>
   simp only [Option.map_some, List.getElem?_map]
   cases cs[off]? with
   | none => exact ⟨rfl, fun _ h => by cases h⟩
   | some v =>
    cases v with
    | sl xs c =>
     simp only [Option.map_some, V.sh]
     have h2 := Qih (b := b) (φ := φ) hb o (.cells (cs.set off (.sl xs .lk)))
     rw [show (O.cells (cs.set off (.sl xs .lk))).sh b φ.length = .cells ((cs.map (V.sh b φ.length)).set off (.sl (V.shs b φ.length xs) .lk)) by rw [O.sh, List.map_set]; rfl] at h2
     rw [h2]
     exact Qru (by simpa using hb)
    | _ => exact ⟨rfl, fun _ h => by cases h⟩
theorem Qrv : ∀ {l : List (Nat × Nat)} {σ : Objs}, b ≤ σ.length → FrO b φ (Qef (ins b φ σ) (l.map fun p => (rn b φ.length p.1, p.2))) (Qef σ l)
 | [], σ, hb => ⟨rfl, fun _ h => by cases h; exact hb⟩
 | (o, off) :: r, σ, hb => by
  simp only [List.map_cons, Qef, Qc3 hb]
  cases Objs.get σ o with
  | none => exact ⟨rfl, fun _ h => by cases h⟩
  | some cs =>
   simp only [Option.map_some, List.getElem?_map]
   cases cs[off]? with
   | none => exact ⟨rfl, fun _ h => by cases h⟩
   | some v =>
    cases v with
    | sl xs c =>
     cases c with
     | lk =>
      simp only [Option.map_some, V.sh]
      have h2 := Qih (b := b) (φ := φ) hb o (.cells (cs.set off (.sl xs .no)))
      rw [show (O.cells (cs.set off (.sl xs .no))).sh b φ.length = .cells ((cs.map (V.sh b φ.length)).set off (.sl (V.shs b φ.length xs) .no)) by rw [O.sh, List.map_set]; rfl] at h2
      rw [h2]
      exact Qrv (by simpa using hb)
     | _ => exact ⟨rfl, fun _ h => by cases h⟩
    | _ => exact ⟨rfl, fun _ h => by cases h⟩
theorem Wd9 {l : List Rd} {k : Nat} : (l.map (Rd.sh b k)).filterMap Rd.cell = (l.filterMap Rd.cell).map fun p => (rn b k p.1, p.2) := by
 induction l with
 | nil => rfl
 | cons r l ih => cases r <;> simp [Rd.sh, List.filterMap_cons, Rd.cell, ih]
theorem Qzz {past : List Rd} {k n : Nat} : (past.map (Rd.sh b k)).getD n .none = (past.getD n .none).sh b k := by
 simp only [List.getD_eq_getElem?_getD, List.getElem?_map]
 cases past[n]? <;> rfl
theorem Wbe (hG : GCl G) (hc : FrC b φ call' call) : ∀ {l : List DS}, l.all (fun d => d.s.ins.cl) = true → ∀ {past : List Rd} {ρ : List V} {σ : Objs}, b ≤ σ.length → FrS b φ (Qgh G call' (past.map (Rd.sh b φ.length)) l (ρ.map (V.sh b φ.length)) (ins b φ σ)) (Qgh G call past l ρ σ)
 | [], _, past, ρ, σ, hb => .some hb
 | d :: r, h, past, ρ, σ, hb => by
  simp only [List.all_cons, Bool.and_eq_true] at h
  have hseen : (d.un.map fun k => (past.map (Rd.sh b φ.length)).getD k .none) = (d.un.map fun k => past.getD k .none).map (Rd.sh b φ.length) := by
   rw [List.map_map]
   congr 1
   funext k
   exact Qzz
  simp only [Qgh, hseen, Wd9, Qoe, Option.bind_eq_bind]
  obtain ⟨e0, l0⟩ := Qru (φ := φ) (l := (d.un.map fun k => past.getD k .none).filterMap Rd.cell) hb
  rw [e0]
  cases h0 : Qgg σ ((d.un.map fun k => past.getD k .none).filterMap Rd.cell) with
  | none => exact .none
  | some σ0 =>
   simp only [Option.map_some, Option.bind_some]
   obtain ⟨e1, l1⟩ := Qwq hG hc h.1 (ρ := ρ) (l0 σ0 h0)
   rw [e1]
   cases h1 : Qbq G call d.s ρ σ0 with
   | none => exact .none
   | some p =>
    obtain ⟨ρ', σ1⟩ := p
    simp only [Option.map_some, Option.bind_some]
    obtain ⟨e2, l2⟩ := Qrv (φ := φ) (l := (d.un.map fun k => past.getD k .none).filterMap Rd.cell) (l1 _ h1)
    rw [e2]
    cases h2 : Qef σ1 ((d.un.map fun k => past.getD k .none).filterMap Rd.cell) with
    | none => exact .none
    | some σ' =>
     simp only [Option.map_some, Option.bind_some]
     have hst : ((d.un.map fun k => past.getD k .none).map (Rd.sh b φ.length)).all (stable (ins b φ σ) (ins b φ σ')) = (d.un.map fun k => past.getD k .none).all (stable σ σ') := by
      rw [List.all_map]
      congr 1
      funext r
      exact Qwr hb (l2 _ h2)
     rw [hst]
     split
     ·have hp : (past.map (Rd.sh b φ.length)) ++ [if (wanted ρ d.s.gd).getD false = true then reads (arg G (ρ.map (V.sh b φ.length))) (ins b φ σ) d.s.ins else .none] = (past ++ [if (wanted ρ d.s.gd).getD false = true then reads (arg G ρ) σ d.s.ins else .none]).map (Rd.sh b φ.length) := by
       rw [List.map_append, List.map_singleton, Qzy hb (fun a ha => Qwo hG ha) h.1]
       congr 2
       split <;> rfl
      rw [hp]
      exact Wbe hG hc h.2 (l2 _ h2)
     ·exact .none
def FrW (b : Nat) (φ : Objs) : Prop := φ.all (O.rb (b + φ.length)) = true
mutual
theorem Wea {n m : Nat} (h : n ≤ m) : ∀ {x : V}, V.rb n x = true → V.rb m x = true
 | .ptr o off, hx => by simp [V.rb] at hx ⊢; omega
 | .hs o off len sz ag, hx => by simp [V.rb] at hx ⊢; omega
 | .mp o, hx => by simp [V.rb] at hx ⊢; omega
 | .eptr cs off, hx => Qhr h (l := cs) hx
 | .sl xs c, hx => Qhr h (l := xs) hx
 | .agg cs, hx => Qhr h (l := cs) hx
 | .tup cs, hx => Qhr h (l := cs) hx
 | .ifc t x, hx => Wea h (x := x) hx
 | .fn f xs ys, hx => by
  have h' : V.rbs n xs = true ∧ V.rbs n ys = true := by simpa [V.rb] using hx
  simp [V.rb, Qhr h h'.1, Qhr h h'.2]
 | .any, _ => rfl | .undef, _ => rfl | .bool x, _ => rfl | .int j n, _ => rfl | .str s, _ => rfl
 | .nilp, _ => rfl | .nils, _ => rfl | .nili, _ => rfl | .nilf, _ => rfl | .nilm, _ => rfl
theorem Qhr {n m : Nat} (h : n ≤ m) : ∀ {l : List V}, V.rbs n l = true → V.rbs m l = true
 | [], _ => rfl
 | x :: xs, hx => by
  rw [Qaf, Bool.and_eq_true] at hx
  rw [Qaf, Wea h hx.1, Qhr h hx.2]; rfl
end
theorem O.rb_mono {n m : Nat} (h : n ≤ m) {o : O} (ho : o.rb n = true) : o.rb m = true := by
 have hv : ∀ x : V, V.rb n x = true → V.rb m x = true := fun x hx => Wea h hx
 have hl : ∀ l : List V, V.rbs n l = true → V.rbs m l = true := fun l hx => Qhr h hx
 cases o with
 | cells cs => exact hl _ ho
 | mp es =>
  simp only [O.rb, Bool.and_eq_true] at ho ⊢
  exact ⟨hl _ ho.1, hl _ ho.2⟩
end
end Go.Ev
namespace Go.Ev
open Go
section
variable {b : Nat} {φ : Objs}
theorem Qz0 {σ : Objs} {n : Nat} (hb : b ≤ σ.length) (hn : b ≤ n) : (ins b φ σ).take (n + φ.length) = ins b φ (σ.take n) := by
 unfold ins
 rw [List.take_append, List.take_append]
 simp only [List.length_append, List.length_take, List.length_map, List.map_take]
 rw [List.take_take, List.take_take, List.take_of_length_le (l := φ) (by omega), List.drop_take]
 congr 2
 ·congr 1; omega
 ·omega
theorem Whb {σ : Objs} {n : Nat} (hb : b ≤ σ.length) (hn : b ≤ n) {o : O} : fzO (n + φ.length) (ins b φ σ) (o.sh b φ.length) = (fzO n σ o).map (O.sh b φ.length) := by
 cases o with
 | cells cs =>
  simp only [O.sh, fzO]
  rw [← Qap, Qho hn]
  split
  ·simp only [Option.map_some, O.sh, Qap]
  ·rw [Qap, Qp2 fun x => Qzs hb hn]
   cases cs.mapM (fz n σ fzD) <;> rfl
 | mp es =>
  have h1 : (es.map fun p => (V.sh b φ.length p.1, V.sh b φ.length p.2)).map Prod.fst = V.shs b φ.length (es.map Prod.fst) := by rw [Qap, List.map_map, List.map_map]; rfl
  have h2 : (es.map fun p => (V.sh b φ.length p.1, V.sh b φ.length p.2)).map Prod.snd = V.shs b φ.length (es.map Prod.snd) := by rw [Qap, List.map_map, List.map_map]; rfl
  simp only [O.sh, fzO, h1, h2, Qho hn]
  split <;> rfl
theorem Qrw {f g : O → Option O} {k : Nat} (h : ∀ x, g (O.sh b k x) = (f x).map (O.sh b k)) : ∀ {l : List O}, (l.map (O.sh b k)).mapM g = (l.mapM f).map (List.map (O.sh b k))
 | [] => rfl
 | x :: xs => by
  simp only [List.map_cons, List.mapM_cons, h, Qrw h, Option.bind_eq_bind]
  cases f x with
  | none => rfl
  | some y =>
   simp only [Option.map_some, Option.bind_some]
   cases xs.mapM f <;> rfl
theorem Qrx {g : O → Option O} : ∀ {l : List O}, (∀ x ∈ l, g x = some x) → l.mapM g = some l
 | [], _ => rfl
 | x :: xs, h => by
  rw [List.mapM_cons, h x (by simp), Qrx fun y hy => h y (by simp [hy])]
  rfl
theorem Qmq {g : O → Option O} {A B : List O} : (A ++ B).mapM g = (A.mapM g).bind fun a => (B.mapM g).bind fun c => some (a ++ c) := by
 rw [List.mapM_append]; rfl
theorem Qmr {g : O → Option O} : ∀ {A a : List O}, A.mapM g = some a → a.length = A.length
 | [], a, h => by cases h; rfl
 | x :: xs, a, h => by
  simp only [List.mapM_cons, Option.bind_eq_bind, Option.bind_eq_some_iff] at h
  obtain ⟨y, _, ys, hys, he⟩ := h
  cases he
  simp [Qmr hys]
theorem Qp6 (hφ : FrW b φ) {σ : Objs} {n : Nat} (hb : b ≤ σ.length) (hn : b ≤ n) : FrO b φ (cuO (n + φ.length) (ins b φ σ)) (cuO n σ) := by
 have hlen : ∀ τ, cuO n σ = some τ → b ≤ τ.length := by
  intro τ h
  have := Qmr (g := fzO n σ) h
  rw [this, List.length_take]; omega
 refine ⟨?_, hlen⟩
 have hid : φ.mapM (fzO (n + φ.length) (ins b φ σ)) = some φ := by
  refine Qrx fun x hx => Wa6 ?_
  have := List.all_eq_true.1 hφ x hx
  exact O.rb_mono (by omega) this
 unfold cuO
 rw [Qz0 hb hn]
 have hτ : b ≤ (σ.take n).length := by rw [List.length_take]; omega
 generalize hgen : σ.take n = τ at hτ
 have h1 := @Qrw b (fzO n σ) (fzO (n + φ.length) (ins b φ σ)) φ.length (fun x => Whb hb hn) τ
 rw [show τ.map (O.sh b φ.length) = (τ.map (O.sh b φ.length)).take b ++ (τ.map (O.sh b φ.length)).drop b from (List.take_append_drop _ _).symm, Qmq] at h1
 generalize fzO (n + φ.length) (ins b φ σ) = g at h1 hid ⊢
 unfold ins
 rw [Qmq, Qmq, hid]
 have hA : ((τ.map (O.sh b φ.length)).take b).length = b := by rw [List.length_take, List.length_map]; omega
 cases ha : ((τ.map (O.sh b φ.length)).take b).mapM g with
 | none =>
  rw [ha] at h1
  simp only [Option.bind_none] at h1 ⊢
  cases ht : τ.mapM (fzO n σ) with
  | none => rfl
  | some t => rw [ht] at h1; cases h1
 | some a =>
  rw [ha] at h1
  simp only [Option.bind_some] at h1 ⊢
  cases hc : ((τ.map (O.sh b φ.length)).drop b).mapM g with
  | none =>
   rw [hc] at h1
   simp only [Option.bind_none] at h1 ⊢
   cases ht : τ.mapM (fzO n σ) with
   | none => rfl
   | some t => rw [ht] at h1; cases h1
  | some c =>
   rw [hc] at h1
   simp only [Option.bind_some] at h1 ⊢
   cases ht : τ.mapM (fzO n σ) with
   | none => rw [ht] at h1; cases h1
   | some t =>
    rw [ht] at h1
    simp only [Option.map_some, Option.some.injEq] at h1
    have hal : a.length = b := (Qmr ha).trans hA
    rw [Option.map_some, ← h1, ← hal, List.take_left, List.drop_left]
theorem Qew {σ : Objs} (hb : b ≤ σ.length) {n : Nat} (hn : b ≤ n) {live : List Nat} : ∀ {ρ : List V} {i : Nat}, Qas (n + φ.length) (ins b φ σ) live i (ρ.map (V.sh b φ.length)) = (Qas n σ live i ρ).map (List.map (V.sh b φ.length))
 | [], i => rfl
 | x :: xs, i => by
  rw [List.map_cons, Qn0, Qn0, Qzs hb hn, Qew hb hn]
  split
  ·cases fz n σ fzD x with
   | none => rfl
   | some y =>
    simp only [Option.map_some, Option.bind_some]
    cases Qas n σ live (i + 1) xs <;> rfl
  ·simp only [Option.bind_some]
   cases Qas n σ live (i + 1) xs <;> rfl
def FrD (b : Nat) (φ : Objs) (x' x : Ran) : Prop := x' = x.map (fun p => (p.1, p.2.1.map (V.sh b φ.length), ins b φ p.2.2)) ∧ ∀ p, x = some p → b ≤ p.2.2.length
theorem FrD.none : FrD b φ none none := ⟨rfl, fun _ h => by cases h⟩
theorem FrD.some {e : Out} {ρ : List V} {σ : Objs} (h : b ≤ σ.length) : FrD b φ (some (e, ρ.map (V.sh b φ.length), ins b φ σ)) (some (e, ρ, σ)) := ⟨rfl, fun _ h' => by cases h'; exact h⟩
def Cd.cl : Cd → Bool
 | .ops _ l => l.all fun s => s.ins.cl
 | .drw _ l => l.all fun d => d.s.ins.cl
 | .seq a c => a.cl && c.cl
 | .cond x a c => x.cl && a.cl && c.cl
 | .block _ c => c.cl
 | .loop _ _ c => c.cl
 | _ => true
theorem Qws (hφ : FrW b φ) {lin lout : List Nat} {n : Nat} (hn : b ≤ n) {rd' rd : List V → Objs → Ran} (hrd : ∀ ρ σ, b ≤ σ.length → FrD b φ (rd' (ρ.map (V.sh b φ.length)) (ins b φ σ)) (rd ρ σ)) :
  ∀ {k : Nat} {ρ : List V} {σ : Objs}, b ≤ σ.length → FrD b φ (Qi5 lin lout (n + φ.length) rd' k (ρ.map (V.sh b φ.length)) (ins b φ σ)) (Qi5 lin lout n rd k ρ σ)
 | 0, ρ, σ, hb => .none
 | k + 1, ρ, σ, hb => by
  obtain ⟨e1, l1⟩ := hrd ρ σ hb
  unfold Qi5
  rw [e1]
  cases hr : rd ρ σ with
  | none => exact .none
  | some p =>
   obtain ⟨e, ρ', σ'⟩ := p
   have hb' : b ≤ σ'.length := l1 _ hr
   have out : ∀ (e : Out), FrD b φ ((Qas (n + φ.length) (ins b φ σ') lout 0 (ρ'.map (V.sh b φ.length))).bind fun ρ'' => (cuO (n + φ.length) (ins b φ σ')).bind fun σ'' => Option.some (e, ρ'', σ''))
     ((Qas n σ' lout 0 ρ').bind fun ρ'' => (cuO n σ').bind fun σ'' => Option.some (e, ρ'', σ'')) := by
    intro e
    rw [Qew hb' hn]
    obtain ⟨e2, l2⟩ := Qp6 hφ hb' hn
    rw [e2]
    cases Qas n σ' lout 0 ρ' with
    | none => exact .none
    | some ρ'' =>
     simp only [Option.map_some, Option.bind_some]
     cases hc : cuO n σ' with
     | none => exact .none
     | some σ'' => exact .some (l2 _ hc)
   cases e with
   | norm =>
    simp only [Option.map_some, Option.bind_eq_bind, Qew hb' hn]
    obtain ⟨e2, l2⟩ := Qp6 hφ hb' hn
    rw [e2]
    cases Qas n σ' lin 0 ρ' with
    | none => exact .none
    | some ρ'' =>
     simp only [Option.map_some, Option.bind_some]
     cases hc : cuO n σ' with
     | none => exact .none
     | some σ'' => exact Qws hφ hn hrd (l2 _ hc)
   | ex i => exact out (.ex i)
   | ret => exact out .ret
section
variable {G : GV} {call call' : FuncId → List V → Objs → Ro}
theorem Qp7 (hφ : FrW b φ) (hG : GCl G) (hc : FrC b φ call' call) {fuel : Nat} : ∀ {c : Cd}, c.cl = true → ∀ {ρ : List V} {σ : Objs}, b ≤ σ.length → FrD b φ (evCd G call' fuel c (ρ.map (V.sh b φ.length)) (ins b φ σ)) (evCd G call fuel c ρ σ)
 | .skip, _, ρ, σ, hb => .some hb
 | .ret, _, ρ, σ, hb => .some hb
 | .exit id, _, ρ, σ, hb => .some hb
 | .ops _ l, h, ρ, σ, hb => by
  simp only [evCd]
  obtain ⟨e1, l1⟩ := Qrs hG hc h hb (ρ := ρ)
  rw [e1]
  cases hr : Qcr G call l ρ σ with
  | none => exact .none
  | some p => exact .some (l1 _ hr)
 | .drw _ l, h, ρ, σ, hb => by
  simp only [evCd]
  obtain ⟨e1, l1⟩ := Wbe hG hc h hb (ρ := ρ) (past := [])
  rw [List.map_nil] at e1
  rw [e1]
  cases hr : Qgh G call [] l ρ σ with
  | none => exact .none
  | some p => exact .some (l1 _ hr)
 | .seq a c, h, ρ, σ, hb => by
  simp only [Cd.cl, Bool.and_eq_true] at h
  simp only [evCd]
  obtain ⟨e1, l1⟩ := Qp7 hφ hG hc (fuel := fuel) h.1 hb (ρ := ρ)
  rw [e1]
  cases hr : evCd G call fuel a ρ σ with
  | none => exact .none
  | some p =>
   obtain ⟨e, ρ', σ'⟩ := p
   have hb' : b ≤ σ'.length := l1 _ hr
   cases e with
   | norm => exact Qp7 hφ hG hc h.2 hb'
   | ex i => exact .some hb'
   | ret => exact .some hb'
 | .cond x a c, h, ρ, σ, hb => by
  simp only [Cd.cl, Bool.and_eq_true] at h
  simp only [evCd, Qwo hG h.1.1]
  cases arg G ρ x with
  | bool t =>
   cases t with
   | true => exact Qp7 hφ hG hc h.1.2 hb
   | false => exact Qp7 hφ hG hc h.2 hb
  | _ => exact .none
 | .block id c, h, ρ, σ, hb => by
  simp only [evCd]
  obtain ⟨e1, l1⟩ := Qp7 hφ hG hc (fuel := fuel) (c := c) h hb (ρ := ρ)
  rw [e1]
  cases hr : evCd G call fuel c ρ σ with
  | none => exact .none
  | some p =>
   obtain ⟨e, ρ', σ'⟩ := p
   have hb' : b ≤ σ'.length := l1 _ hr
   cases e with
   | norm => exact .some hb'
   | ex i =>
    simp only [Option.map_some]
    split <;> exact .some hb'
   | ret => exact .some hb'
 | .loop lin lout c, h, ρ, σ, hb => by
  simp only [evCd, Option.bind_eq_bind]
  rw [Qp3 hb, Qew hb hb]
  cases Qas σ.length σ lin 0 ρ with
  | none => exact .none
  | some ρ' =>
   simp only [Option.map_some, Option.bind_some]
   exact Qws hφ hb (fun ρ1 σ1 hb1 => Qp7 hφ hG hc (c := c) h hb1) hb
theorem Qwt {ρ : List V} {σ : Objs} (hb : b ≤ σ.length) {r : Res} : resV (ρ.map (V.sh b φ.length)) (ins b φ σ) r = (resV ρ σ r).map (V.sh b φ.length) := by
 cases r with
 | tmp t => simp only [resV, Qmp, Option.map_some]
 | cell t ag sz =>
  simp only [resV, Qmp]
  cases ρ.getD t .undef with
  | ptr o off =>
   simp only [V.sh, Qc3 hb, Option.bind_eq_bind]
   cases Objs.get σ o with
   | none => rfl
   | some cs => simp only [Option.map_some, Option.bind_some, Qig]
  | _ => rfl
theorem Qwu {ρ : List V} {σ : Objs} (hb : b ≤ σ.length) : ∀ {rs : List Res}, rs.mapM (resV (ρ.map (V.sh b φ.length)) (ins b φ σ)) = (rs.mapM (resV ρ σ)).map (List.map (V.sh b φ.length))
 | [] => rfl
 | r :: rs => by
  simp only [List.mapM_cons, Qwt hb, Qwu hb (rs := rs), Option.bind_eq_bind]
  cases resV ρ σ r with
  | none => rfl
  | some x =>
   simp only [Option.map_some, Option.bind_some]
   cases rs.mapM (resV ρ σ) <;> rfl
theorem Web {k : Nat} {keep : Bool} {x : V} : Qnf keep (V.sh b k x) = V.sh b k (Qnf keep x) := by
 cases keep
 ·exact Qfm
 ·rfl
theorem Qtk {ρ : List V} {σ : Objs} (hb : b ≤ σ.length) {keep : Bool} {rs : List Res} : Ev.results keep (ρ.map (V.sh b φ.length)) (ins b φ σ) rs = (Ev.results keep ρ σ rs).map (V.sh b φ.length) := by
 match rs with
 | [] => rfl
 | [r] =>
  simp only [Ev.results, Qwt hb, Option.bind_eq_bind]
  cases resV ρ σ r with
  | none => rfl
  | some x =>
   simp only [Option.map_some, Option.bind_some, Wbb, Qv9, Web]
   split <;> rfl
 | r1 :: r2 :: rs =>
  simp only [Ev.results, Qwu hb, Option.bind_eq_bind]
  cases (r1 :: r2 :: rs).mapM (resV ρ σ) with
  | none => rfl
  | some xs => simp only [Option.map_some, Option.bind_some, V.sh, Qap, Qb6]
theorem Wkd (hφ : FrW b φ) (hG : GCl G) (hc : FrC b φ call' call) {F : Fn} (hF : F.body.cl = true) (he : F.esc = false) {fuel : Nat} {args : List V} {σ : Objs} (hb : b ≤ σ.length) :
  FrR b φ (evFn G call' F fuel (args.map (V.sh b φ.length)) (ins b φ σ)) (evFn G call F fuel args σ) := by
 have hfin : ∀ (ρ : List V) (σ' : Objs), b ≤ σ'.length → FrR b φ
   ((Ev.results F.keep (ρ.map (V.sh b φ.length)) (ins b φ σ') F.res).bind fun r => (cuO (ins b φ σ).length (ins b φ σ')).bind fun σ'' => (fz (ins b φ σ).length (ins b φ σ') fzD r).bind fun r' => Option.some (r', σ''))
   ((Ev.results F.keep ρ σ' F.res).bind fun r => (cuO σ.length σ').bind fun σ'' => (fz σ.length σ' fzD r).bind fun r' => Option.some (r', σ'')) := by
  intro ρ σ' hb'
  rw [Qtk hb', Qp3 hb]
  obtain ⟨e2, l2⟩ := Qp6 hφ hb' hb
  rw [e2]
  cases Ev.results F.keep ρ σ' F.res with
  | none => exact .none
  | some r =>
   simp only [Option.map_some, Option.bind_some, Qzs hb' hb]
   cases hcut : cuO σ.length σ' with
   | none => exact .none
   | some σ'' =>
    simp only [Option.map_some, Option.bind_some]
    cases fz σ.length σ' fzD r with
    | none => exact .none
    | some r' => exact .some (l2 _ hcut)
 have hargs : (args.map (V.sh b φ.length)) ++ List.replicate (F.nt - (args.map (V.sh b φ.length)).length) V.undef = (args ++ List.replicate (F.nt - args.length) V.undef).map (V.sh b φ.length) := by
  rw [List.map_append, List.map_replicate, List.length_map]; rfl
 unfold evFn
 simp only [he, Option.bind_eq_bind]
 rw [hargs]
 obtain ⟨e1, l1⟩ := Qp7 hφ hG hc (fuel := fuel) hF hb (ρ := args ++ List.replicate (F.nt - args.length) .undef)
 rw [e1]
 cases hr : evCd G call fuel F.body (args ++ List.replicate (F.nt - args.length) .undef) σ with
 | none => exact .none
 | some p =>
  obtain ⟨e, ρ', σ'⟩ := p
  have hb' : b ≤ σ'.length := l1 _ hr
  simp only [Option.map_some, Option.bind_some]
  cases e with
  | norm => exact hfin ρ' σ' hb'
  | ret => exact hfin ρ' σ' hb'
  | ex i => exact .none
end
structure CtxCl (C : Ctx) : Prop where
 g : GCl C.G
 code : ∀ f F, C.code f = some F → F.body.cl = true ∧ F.esc = false
 prim : ∀ f h, C.prim f = some h → ∀ (b : Nat) (φ : Objs) args σ, b ≤ σ.length → FrR b φ (h (args.map (V.sh b φ.length)) (ins b φ σ)) (h args σ)
theorem Whc {C : Ctx} (hC : CtxCl C) (hφ : FrW b φ) : ∀ n, FrC b φ (ev C n) (ev C n)
 | 0 => fun f args σ hb => .none
 | n + 1 => fun f args σ hb => by
  simp only [ev]
  cases hp : C.prim f with
  | some h => exact hC.prim f h hp b φ args σ hb
  | none =>
   simp only
   cases hF : C.code f with
   | none => exact .none
   | some F => exact Wkd hφ hC.g (Whc hC hφ n) (hC.code f F hF).1 (hC.code f F hF).2 hb
theorem Qp8 {C : Ctx} (hC : CtxCl C) (hφ : FrW b φ) {f : FuncId} {args : List V} {σ : Objs} (hb : b ≤ σ.length) {r : V} {σ' : Objs} (h : E C f args σ = some (r, σ')) :
  E C f (args.map (V.sh b φ.length)) (ins b φ σ) = some (V.sh b φ.length r, ins b φ σ') := by
 have hesc : ∀ f F, C.code f = some F → F.esc = false := fun f F hF => (hC.code f F hF).2
 obtain ⟨n, hn⟩ := ev_of_E hesc h
 refine Wdc hesc (n := n) ?_
 rw [(Whc hC hφ n f args σ hb).1, hn]
 rfl
theorem Qbv {C : Ctx} (hC : CtxCl C) {f : FuncId} {args : List V} {r : V} (h : E C f args [] = some (r, [])) (ha : V.rbs 0 args = true) (hr : V.rb 0 r = true) (σ : Objs) (hσ : Wf σ) : E C f args σ = some (r, σ) := by
 have h1 := Qp8 hC (b := 0) (φ := σ) (by unfold FrW; rw [Nat.zero_add]; exact hσ) (Nat.zero_le _) h
 rw [← Qap, Qbk ha, Qbu hr] at h1
 simpa [ins] using h1
end
end Go.Ev
namespace Go.Ev
mutual
def V.hh : V → Nat
 | .sl xs _ => if xs.isEmpty then 0 else V.hhs xs + 1
 | .agg cs => V.hhs cs
 | _ => 0
def V.hhs : List V → Nat
 | [] => 0
 | x :: xs => max (V.hh x) (V.hhs xs)
end
mutual
def V.shp (k : Nat) : V → Bool
 | .nils => k == 0 || k == 2 || k == 4
 | .sl xs _ => decide (xs.length ≤ 1000000000) && if k == 0 then V.shpAll 1 xs else if k == 2 then V.shpAll 3 xs else if k == 4 then V.shpAll 5 xs else false
 | .agg cs => if k == 1 then V.shpEach [2] cs else if k == 3 then V.shpEach [6, 4] cs else if k == 5 then V.shpEach [6, 6, 8, 8, 6, 8, 7, 6, 6, 6, 0] cs else false
 | .int j _ => k == 6 && decide (j = .i64)
 | .bool _ => k == 7
 | .str _ => k == 8
 | _ => false
def V.shpAll (k : Nat) : List V → Bool
 | [] => true
 | x :: xs => V.shp k x && V.shpAll k xs
def V.shpEach (ks : List Nat) : List V → Bool
 | [] => ks.isEmpty
 | x :: xs => match ks with
  | [] => false
  | k :: ks => V.shp k x && V.shpEach ks xs
end
def dpI (x : V) : Int := (max 1 ((V.hh x + 2) / 3) : Nat)
def Qp9 : List V → Option V
 | [x] => if V.shp 0 x && decide (V.hh x ≤ 1000000) then some (.int .i64 (dpI x)) else none
 | _ => none
def Qqa (xs : List V) (σ : Objs) : Option (V × Objs) := (Qp9 xs).map fun v => (v, σ)
example : Qqa [.sl [.agg [.sl [.agg [.int .i64 0, .sl [.agg [.int .i64 0, .int .i64 0, .str [], .str [], .int .i64 0, .str [], .bool false, .int .i64 0, .int .i64 0, .int .i64 0, .sl [.agg [.nils]] .no]] .no]] .no]] .no] [] = some (.int .i64 2, []) := by rfl
mutual
theorem Whd {b k : Nat} : ∀ (x : V), V.hh (V.sh b k x) = V.hh x
 | .sl xs c => by
  have := Qwv (b := b) (k := k) xs
  cases xs with
  | nil => rfl
  | cons y ys => simp only [V.sh, V.shs, V.hh, List.isEmpty_cons] at this ⊢; rw [this]
 | .agg cs => by simp only [V.sh, V.hh]; exact Qwv cs
 | .ptr o off | .hs o off len sz ag | .mp o | .eptr cs off | .tup cs | .ifc t x | .fn f xs ys => by simp only [V.sh, V.hh]
 | .any | .undef | .bool x | .int j n | .str s | .nilp | .nils | .nili | .nilf | .nilm => rfl
theorem Qwv {b k : Nat} : ∀ (l : List V), V.hhs (V.shs b k l) = V.hhs l
 | [] => rfl
 | x :: xs => by simp only [V.shs, V.hhs, Whd x, Qwv xs]
end
theorem Wec {b k : Nat} (l : List V) : (V.shs b k l).length = l.length := by rw [Qap, List.length_map]
mutual
theorem Qww {b k : Nat} : ∀ (x : V) (j : Nat), V.shp j (V.sh b k x) = V.shp j x
 | .sl xs c, j => by simp only [V.sh, V.shp, Qof xs, Wec]
 | .agg cs, j => by simp only [V.sh, V.shp, Qlk cs]
 | .ptr o off, j | .hs o off len sz ag, j | .mp o, j | .eptr cs off, j | .tup cs, j | .ifc t x, j | .fn f xs ys, j => by simp only [V.sh, V.shp]
 | .any, j | .undef, j | .bool x, j | .int _ n, j | .str s, j | .nilp, j | .nils, j | .nili, j | .nilf, j | .nilm, j => rfl
theorem Qof {b k : Nat} : ∀ (l : List V) (j : Nat), V.shpAll j (V.shs b k l) = V.shpAll j l
 | [], j => rfl
 | x :: xs, j => by simp only [V.shs, V.shpAll, Qww x, Qof xs]
theorem Qlk {b k : Nat} : ∀ (l : List V) (js : List Nat), V.shpEach js (V.shs b k l) = V.shpEach js l
 | [], js => rfl
 | x :: xs, [] => rfl
 | x :: xs, j :: js => by simp only [V.shs, V.shpEach, Qww x, Qlk xs]
end
theorem Whe {h : List V → Objs → Option (V × Objs)} {g : List V → Option V} (hg : ∀ xs σ, h xs σ = (g xs).map fun v => (v, σ)) (hs : ∀ b k xs, g (xs.map (V.sh b k)) = g xs) (hc : ∀ xs v, g xs = some v → V.rb 0 v = true) :
  ∀ (b : Nat) (φ : Objs) (xs : List V) (σ : Objs), b ≤ σ.length → FrR b φ (h (xs.map (V.sh b φ.length)) (ins b φ σ)) (h xs σ) := by
 intro b φ xs σ hb
 rw [hg, hg, hs]
 cases he : g xs with
 | none => exact FrR.none
 | some v =>
  have := FrR.some (φ := φ) (v := v) hb
  rw [Qbu (hc _ _ he)] at this
  exact this
theorem Qz1 : ∀ (b : Nat) (φ : Objs) (xs : List V) (σ : Objs), b ≤ σ.length → FrR b φ (Qqa (xs.map (V.sh b φ.length)) (ins b φ σ)) (Qqa xs σ) := by
 refine Whe (g := Qp9) (fun xs σ => rfl) (fun b k xs => ?_) (fun xs v h => ?_)
 ·match xs with
  | [] => rfl
  | [x] => simp only [List.map_cons, List.map_nil, Qp9, Qww, dpI, Whd]
  | _ :: _ :: _ => rfl
 ·match xs with
  | [] => cases h
  | [x] =>
   simp only [Qp9] at h
   split at h
   ·cases h; rfl
   ·cases h
  | _ :: _ :: _ => cases h
end Go.Ev
set_option maxRecDepth 100000
set_option maxHeartbeats 4000000
namespace Go.Proofs.YtapnplljnpconaaGreatDoor
open Go.RowKit Go.Ev
attribute [local go_sem] Oper.semAt_some
structure SV where
 (i0 i1 : Int) (s2 s3 : ByteArray) (i4 : Int) (s5 : ByteArray) (b6 : Bool) (i7 i8 i9 : Int) (a : Option Addr) (len cap : Nat)
 h : Nat
@[reducible] def SV.of (x : SV) : Value := .slice x.a x.len x.cap
@[reducible] def SV.v (x : SV) : Value := .agg #[.int .i64 x.i0, .int .i64 x.i1, .string x.s2, .string x.s3, .int .i64 x.i4, .string x.s5, .bool x.b6, .int .i64 x.i7, .int .i64 x.i8, .int .i64 x.i9, .slice x.a x.len x.cap]
def SV.cs (x : SV) : List Value := [.int .i64 x.i0, .int .i64 x.i1, .string x.s2, .string x.s3, .int .i64 x.i4, .string x.s5, .bool x.b6, .int .i64 x.i7, .int .i64 x.i8, .int .i64 x.i9, .slice x.a x.len x.cap]
def R3 (n0 : Nat) (w : World) (v : Value) (ss : List SV) : Prop :=
 ∃ a cap, v = .slice a ss.length cap ∧ (ss.length : Int) ≤ 9223372036854775807 ∧ ∀ i (x : SV), ss[i]? = some x → ∃ (b off : Nat), a = some ⟨b, off, none⟩ ∧ b < n0 ∧ ∀ j u, x.cs[j]? = some u → w.cell? ⟨b, off + i * 11 + j, none⟩ = some u
def R2 (n0 : Nat) (w : World) (v : Value) (ps : List (List SV)) : Prop :=
 ∃ a cap, v = .slice a ps.length cap ∧ (ps.length : Int) ≤ 9223372036854775807 ∧ ∀ i ss, ps[i]? = some ss → ∃ (b off : Nat) (c : Int) (u : Value), a = some ⟨b, off, none⟩ ∧ b < n0 ∧ w.cell? ⟨b, off + i * 2, none⟩ = some (.int .i64 c) ∧ w.cell? ⟨b, off + i * 2 + 1, none⟩ = some u ∧ R3 n0 w u ss
def R1 (n0 : Nat) (w : World) (v : Value) (qs : List (List (List SV))) : Prop :=
 ∃ a cap, v = .slice a qs.length cap ∧ (qs.length : Int) ≤ 9223372036854775807 ∧ ∀ i ps, qs[i]? = some ps → ∃ (b off : Nat) (u : Value), a = some ⟨b, off, none⟩ ∧ b < n0 ∧ w.cell? ⟨b, off + i, none⟩ = some u ∧ R2 n0 w u ps
theorem R3.keep {n0 : Nat} {w w' : World} {v : Value} {ss : List SV} (h : R3 n0 w v ss) (hb : Below n0 w w') : R3 n0 w' v ss := by
 obtain ⟨a, cap, h1, h2, h3⟩ := h
 refine ⟨a, cap, h1, h2, fun i x hx => ?_⟩
 obtain ⟨b, off, g1, g4, g5⟩ := h3 i x hx
 exact ⟨b, off, g1, g4, fun j u hu => (hb.cell g4).trans (g5 j u hu)⟩
theorem R2.keep {n0 : Nat} {w w' : World} {v : Value} {ps : List (List SV)} (h : R2 n0 w v ps) (hb : Below n0 w w') : R2 n0 w' v ps := by
 obtain ⟨a, cap, h1, h2, h3⟩ := h
 refine ⟨a, cap, h1, h2, fun i x hx => ?_⟩
 obtain ⟨b, off, c, u, g1, g2, g3, g4, g6⟩ := h3 i x hx
 exact ⟨b, off, c, u, g1, g2, (hb.cell g2).trans g3, (hb.cell g2).trans g4, g6.keep hb⟩
theorem R1.keep {n0 : Nat} {w w' : World} {v : Value} {qs : List (List (List SV))} (h : R1 n0 w v qs) (hb : Below n0 w w') : R1 n0 w' v qs := by
 obtain ⟨a, cap, h1, h2, h3⟩ := h
 refine ⟨a, cap, h1, h2, fun i x hx => ?_⟩
 obtain ⟨b, off, u, g1, g2, g3, g4⟩ := h3 i x hx
 exact ⟨b, off, u, g1, g2, (hb.cell g2).trans g3, g4.keep hb⟩
theorem Qwx {α : Type} {l : List α} {i : Nat} {x : α} (h : l[i]? = some x) : l.take (i + 1) = l.take i ++ [x] := by rw [List.take_add_one, h]; rfl
theorem Qwy {α : Type} {l : List (List α)} {i : Nat} {x : List α} (h : l[i]? = some x) : l.flatten = (l.take i).flatten ++ x ++ (l.drop (i + 1)).flatten := by
 have h1 : l = l.take i ++ x :: l.drop (i + 1) := by
  obtain ⟨hl, rfl⟩ := List.getElem?_eq_some_iff.1 h
  simp
 conv => lhs; rw [h1]
 rw [List.flatten_append, List.flatten_cons, List.append_assoc]
theorem Whf {α : Type} {qs : List (List (List α))} {ps : List (List α)} {ss : List α} {x : α} {i k m : Nat} (h1 : qs[i]? = some ps) (h2 : ps[k]? = some ss) (h3 : ss[m]? = some x) :
  ∃ r, qs.flatten.flatten = ((qs.take i).flatten.flatten ++ (ps.take k).flatten ++ ss.take m) ++ x :: r := by
 have e3 : ss = ss.take m ++ x :: ss.drop (m + 1) := by
  obtain ⟨hl, rfl⟩ := List.getElem?_eq_some_iff.1 h3
  simp
 refine ⟨ss.drop (m + 1) ++ (ps.drop (k + 1)).flatten ++ (qs.drop (i + 1)).flatten.flatten, ?_⟩
 rw [Qwy h1, List.flatten_append, List.flatten_append, Qwy h2]
 conv => lhs; rw [e3]
 simp
theorem Wed {F : Fence} (h97 : F.fn 97) (hro : F.round = none) (n : Nat) (hn : 1 ≤ n) (l Bn n0 : Nat) (W : World) (v : Value) (qs : List (List (List SV))) (J Jx : List SV → World → Prop)
  (hab : AbidesFrom W.heap.size J) (hq : R1 n0 W v qs) (hn0 : n0 ≤ W.heap.size) (hBn : W.cell? ⟨Bn, 0, none⟩ = some v)
  (hY : ∀ pre (x : SV) W1, x ∈ qs.flatten.flatten → J pre W1 → pre.length < qs.flatten.flatten.length → YieldAt F (n - 1) Tryz.prog l #[x.v] W1 fun e W' => (e = .returned (.bool true) ∧ J (pre ++ [x]) W' ∧ Below n0 W1 W') ∨ (e = .returned (.bool false) ∧ Jx (pre ++ [x]) W'))
  (h0 : J [] W) :
  CallsIn F n Tryz.prog 97 #[.func (.yield l) #[] #[], .pointer (some ⟨Bn, 0, none⟩)] W fun e W' => (∃ v, e = .returned v) ∧ ((∃ ys, ys = qs.flatten.flatten ∧ J ys W') ∨ (∃ pre, pre <+: qs.flatten.flatten ∧ Jx pre W')) := by
 refine callsIn_of_wp Tryz.func97 rfl h97 ?_ hro
 obtain ⟨a, cap, rfl, hlen, hel⟩ := hq
 simp only [Tryz.ntmps97, List.size_toArray, List.length_cons, List.length_nil, Nat.reduceAdd, Nat.reduceSub, Array.replicate_succ, Array.replicate_zero, List.push_toArray, List.append_toArray, List.nil_append, List.cons_append]
 have keepJ : ∀ {pre A B}, J pre A → Below A.heap.size A B → J pre B := fun h hb => hab _ _ _ none h ⟨hb.os, hb.tape, hb.output, hb.size, fun k hk _ => hb.block k hk⟩ (fun r e => by cases e)
 gi_wp2
 gi_loopw [11] (fun p wr => ∃ (i : Nat), p = .int .i64 i ∧ i ≤ qs.length ∧ J (qs.take i).flatten.flatten wr ∧ Below n0 W wr)
  (fun p wr => qs.length - (match p with | .int _ i => i.toNat | _ => 0))
 case atStart =>
  exact ⟨0, rfl, by omega, h0, .refl _ _⟩
 case round =>
  obtain ⟨i, rfl, hi, hJ, hB⟩ := hrel
  by_cases hil : i < qs.length
  ·obtain ⟨ps, hps⟩ : ∃ ps, qs[i]? = some ps := ⟨_, List.getElem?_eq_getElem hil⟩
   obtain ⟨b, off, u, rfl, hb, hu, hr2⟩ := hel i ps hps
   have hu' : wr.cell? ⟨b, off + i, none⟩ = some u := (hB.cell hb).trans hu
   obtain ⟨a2, cap2, rfl, hlen2, hel2⟩ := hr2
   gi_wp2
   gi_loopw [18] (fun p wr2 => ∃ (k : Nat), p = .int .i64 k ∧ k ≤ ps.length ∧ J ((qs.take i).flatten.flatten ++ (ps.take k).flatten) wr2 ∧ Below n0 W wr2)
    (fun p wr => ps.length - (match p with | .int _ i => i.toNat | _ => 0))
   case atStart =>
    refine ⟨0, rfl, by omega, ?_, ?_⟩
    ·rw [List.take_zero, List.flatten_nil, List.append_nil]
     exact keepJ hJ ((Below.refl _ _).alloc (Nat.le_refl _) _)
    ·have hsz := hB.size
     exact hB.trans ((Below.refl _ _).alloc (by omega) _)
   case round =>
    obtain ⟨k, rfl, hk, hJ2, hB2⟩ := hrel
    by_cases hkl : k < ps.length
    ·obtain ⟨ss, hss⟩ : ∃ ss, ps[k]? = some ss := ⟨_, List.getElem?_eq_getElem hkl⟩
     obtain ⟨b2, off2, c2, u2, rfl, hb2, hc2, hu2, hr3⟩ := hel2 k ss hss
     have hc2' : wr.cell? ⟨b2, off2 + k * 2, none⟩ = some (.int .i64 c2) := (hB2.cell hb2).trans hc2
     have hu2' : wr.cell? ⟨b2, off2 + k * 2 + 1, none⟩ = some u2 := (hB2.cell hb2).trans hu2
     obtain ⟨a3, cap3, rfl, hlen3, hel3⟩ := hr3
     gi_wp2
     gi_loopw [25] (fun p wr2 => ∃ (m : Nat), p = .int .i64 m ∧ m ≤ ss.length ∧ J ((qs.take i).flatten.flatten ++ (ps.take k).flatten ++ ss.take m) wr2 ∧ Below n0 W wr2)
      (fun p wr => ss.length - (match p with | .int _ i => i.toNat | _ => 0))
     case atStart =>
      refine ⟨0, rfl, by omega, ?_, ?_⟩
      ·rw [List.take_zero, List.append_nil]
       exact keepJ hJ2 ((Below.refl _ _).alloc (Nat.le_refl _) _)
      ·have hsz := hB2.size
       exact hB2.trans ((Below.refl _ _).alloc (by omega) _)
     case round =>
      obtain ⟨m, rfl, hm, hJ3, hB3⟩ := hrel
      by_cases hml : m < ss.length
      ·obtain ⟨x, hx⟩ : ∃ x, ss[m]? = some x := ⟨_, List.getElem?_eq_getElem hml⟩
       obtain ⟨b3, off3, rfl, hb3, hcs⟩ := hel3 m x hx
       obtain ⟨x0, x1, x2, x3, x4, x5, x6, x7, x8, x9, a10, l10, c10, xh⟩ := x
       have y0 : wr.cell? ⟨b3, off3 + m * 11, none⟩ = some (.int .i64 x0) := (hB3.cell hb3).trans (hcs 0 _ rfl)
       have y1 : wr.cell? ⟨b3, off3 + m * 11 + 1, none⟩ = some (.int .i64 x1) := (hB3.cell hb3).trans (hcs 1 _ rfl)
       have y2 : wr.cell? ⟨b3, off3 + m * 11 + 2, none⟩ = some (.string x2) := (hB3.cell hb3).trans (hcs 2 _ rfl)
       have y3 : wr.cell? ⟨b3, off3 + m * 11 + 3, none⟩ = some (.string x3) := (hB3.cell hb3).trans (hcs 3 _ rfl)
       have y4 : wr.cell? ⟨b3, off3 + m * 11 + 4, none⟩ = some (.int .i64 x4) := (hB3.cell hb3).trans (hcs 4 _ rfl)
       have y5 : wr.cell? ⟨b3, off3 + m * 11 + 5, none⟩ = some (.string x5) := (hB3.cell hb3).trans (hcs 5 _ rfl)
       have y6 : wr.cell? ⟨b3, off3 + m * 11 + 6, none⟩ = some (.bool x6) := (hB3.cell hb3).trans (hcs 6 _ rfl)
       have y7 : wr.cell? ⟨b3, off3 + m * 11 + 7, none⟩ = some (.int .i64 x7) := (hB3.cell hb3).trans (hcs 7 _ rfl)
       have y8 : wr.cell? ⟨b3, off3 + m * 11 + 8, none⟩ = some (.int .i64 x8) := (hB3.cell hb3).trans (hcs 8 _ rfl)
       have y9 : wr.cell? ⟨b3, off3 + m * 11 + 9, none⟩ = some (.int .i64 x9) := (hB3.cell hb3).trans (hcs 9 _ rfl)
       have y10 : wr.cell? ⟨b3, off3 + m * 11 + 10, none⟩ = some (.slice a10 l10 c10) := (hB3.cell hb3).trans (hcs 10 _ rfl)
       have hsz := hB3.size
       have hBn3 : Below n0 wr (wr.alloc (.cells #[.int .i64 x0, .int .i64 x1, .string x2, .string x3, .int .i64 x4, .string x5, .bool x6, .int .i64 x7, .int .i64 x8, .int .i64 x9, .slice a10 l10 c10] 96)) := (Below.refl _ _).alloc (by omega) _
       obtain ⟨rr, hrr⟩ := Whf hps hss hx
       have hJ4 := keepJ hJ3 ((Below.refl _ wr).alloc (Nat.le_refl _) (.cells #[.int .i64 x0, .int .i64 x1, .string x2, .string x3, .int .i64 x4, .string x5, .bool x6, .int .i64 x7, .int .i64 x8, .int .i64 x9, .slice a10 l10 c10] 96))
       obtain ⟨fn, tmps, assign, body, hy, hR⟩ := hY _ ⟨x0, x1, x2, x3, x4, x5, x6, x7, x8, x9, a10, l10, c10, xh⟩ _ (by rw [hrr]; simp) hJ4 (by rw [hrr]; simp)
       dsimp only [SV.v] at hy
       gi_wp2
       refine hR.mono ?_
       rintro e W3 (⟨rfl, hJ5, hk5⟩ | ⟨rfl, hJx5⟩)
       ·gi_wp2
        go_roundw
        case rel =>
         refine ⟨m + 1, rfl, by omega, ?_, (hB3.trans hBn3).trans hk5⟩
         rw [Qwx hx, ← List.append_assoc]
         exact hJ5
        case measure => simp; omega
       ·gi_wp2
        refine bodyPost_ret (results_none rfl _ _ _) rfl ?_
        exact ⟨⟨_, rfl⟩, .inr ⟨_, ⟨rr, by rw [hrr]; simp⟩, hJx5⟩⟩
      ·have e : m = ss.length := by omega
       subst e
       gi_wp2
       go_roundw
       case rel =>
        refine ⟨k + 1, rfl, by omega, ?_, hB3⟩
        rw [Qwx hss, List.flatten_append, ← List.append_assoc]
        rw [List.take_length] at hJ3
        simpa using hJ3
       case measure => simp; omega
    ·have e : k = ps.length := by omega
     subst e
     gi_wp2
     go_roundw
     case rel =>
      refine ⟨i + 1, rfl, by omega, ?_, hB2⟩
      rw [Qwx hps, List.flatten_append, List.flatten_append]
      rw [List.take_length] at hJ2
      simpa using hJ2
     case measure => simp; omega
  ·have e : i = qs.length := by omega
   subst e
   gi_wp2
   go_end0
   rw [List.take_length] at hJ
   exact ⟨⟨_, rfl⟩, .inl ⟨_, rfl, hJ⟩⟩
end Go.Proofs.YtapnplljnpconaaGreatDoor
set_option maxRecDepth 100000
set_option maxHeartbeats 4000000
namespace Go.Proofs.YtapnplljnpconaaGreatDoor
open Go.RowKit Go.Ev Go.Shelf
attribute [local go_sem] Oper.semAt_some
theorem Qtl (F : Fence) (n : Nat) (h : F.fn 73) (hro : F.round = none) (va : Option Addr) (vl vc : Nat) (w : World) :
  CallsIn F n Tryz.prog 73 #[.slice va vl vc] w fun e w' => e = .returned (.func (.func 97) #[] #[.pointer (some ⟨w.heap.size, 0, none⟩)]) ∧ w' = w.alloc (.cells #[.slice va vl vc] 51) := by
 refine callsIn_of_wp Tryz.func73 rfl h ?_ hro
 simp only [Tryz.ntmps73, List.size_toArray, List.length_cons, List.length_nil, Nat.reduceAdd, Nat.reduceSub, Array.replicate_succ, Array.replicate_zero, List.push_toArray, List.append_toArray, List.nil_append, List.cons_append]
 gi_wp2
 go_ret
 exact ⟨rfl, rfl⟩
def mxN (g : SV → Nat) (xs : List SV) : Nat := xs.foldl (fun m x => if 0 < x.len then max m (g x) else m) 0
theorem Qjf (g : SV → Nat) (xs : List SV) (x : SV) : mxN g (xs ++ [x]) = if 0 < x.len then max (mxN g xs) (g x) else mxN g xs := by simp [mxN]
inductive Dp (n0 : Nat) (w : World) : Value → Nat → Prop
 | mk (v : Value) (qs : List (List (List SV))) (g : SV → Nat) (h : R1 n0 w v qs) (hg : ∀ x ∈ qs.flatten.flatten, 0 < x.len → Dp n0 w x.of (g x)) : Dp n0 w v (mxN g qs.flatten.flatten + 1)
theorem Whg (g : SV → Nat) : ∀ (xs ys : List SV), mxN g xs ≤ mxN g (xs ++ ys)
 | xs, [] => by simp
 | xs, y :: ys => by
  rw [show xs ++ y :: ys = (xs ++ [y]) ++ ys by simp]
  refine Nat.le_trans ?_ (Whg g _ _)
  rw [Qjf]
  split
  ·exact Nat.le_max_left ..
  ·exact Nat.le_refl _
theorem Whh (g : SV → Nat) {xs : List SV} {x : SV} (hx : x ∈ xs) (hl : 0 < x.len) : g x ≤ mxN g xs := by
 obtain ⟨p, r, rfl⟩ := List.append_of_mem hx
 refine Nat.le_trans ?_ (by rw [show p ++ x :: r = (p ++ [x]) ++ r by simp]; exact Whg g _ _)
 rw [Qjf, if_pos hl]
 exact Nat.le_max_right ..
theorem Qtm {n0 : Nat} {w : World} {v : Value} {d : Nat} (h : Dp n0 w v d) : d ≤ 1000000 → ∀ w', Below n0 w w' → n0 ≤ w'.heap.size →
  Calls Tryz.prog 53 #[v] w' fun e w'' => e = .returned (.int .i64 d) ∧ Below w'.heap.size w' w'' := by
 induction h with
 | mk v qs g hq hg ih =>
  intro hd w' hb hn
  refine (callsIn_wide (n := 10)).1 ?_
  obtain ⟨F, hFw⟩ : ∃ F, F = Fence.wide := ⟨_, rfl⟩
  have hro : F.round = none := by rw [hFw]; rfl
  have h53 : F.fn 53 := by rw [hFw]; trivial
  have h73 : F.fn 73 := by rw [hFw]; trivial
  have h97 : F.fn 97 := by rw [hFw]; trivial
  have hcw : ∀ (n f : Nat) (args : Array Value) (w : World) (R : Ending → World → Prop), Calls Tryz.prog f args w R → CallsIn F n Tryz.prog f args w R := fun n f args w R h => by rw [hFw]; exact callsIn_wide.2 h
  rw [← hFw]
  clear hFw
  refine callsIn_of_wp_marks Tryz.func53 rfl h53 ?_ hro
  have hv : ∃ a l c, v = .slice a l c := by obtain ⟨a, cap, rfl, _⟩ := hq; exact ⟨_, _, _, rfl⟩
  obtain ⟨va, vl, vc, rfl⟩ := hv
  simp only [Tryz.ntmps53, List.size_toArray, List.length_cons, List.length_nil, Nat.reduceAdd, Nat.reduceSub, Array.replicate_succ, Array.replicate_zero, List.push_toArray, List.append_toArray, List.nil_append, List.cons_append]
  gi_wp2_with (gi_at_call 73; refine (Qtl _ _ h73 hro _ _ _ _).mono ?_; rintro e w' ⟨rfl, rfl⟩)
  refine wpIn_rangeFunc_ownH hro (by omega) (gf := 97) (lb := #[.pointer (some ⟨w'.heap.size + 1, 0, none⟩)]) rfl h97 (enters_of Tryz.func97 (by kernel_rfl) rfl)
   (w0 := (w'.alloc (.cells #[.int .i64 0] 3)).alloc (.cells #[.slice va vl vc] 51)) (Kp := Below n0) (encs := fun x : {x : SV // x ∈ qs.flatten.flatten} => #[x.1.v]) (S := fun ys => ys.map Subtype.val = qs.flatten.flatten) (Sp := fun pre => pre.map Subtype.val <+: qs.flatten.flatten) (N := qs.flatten.flatten.length)
   ?seq belowK_t (belowK_b (by simp; omega)) (Below.refl _ _) (fun _ => rfl)
   (fun pre W => W.cell? ⟨w'.heap.size, 0, none⟩ = some (.int .i64 (mxN g (pre.map Subtype.val))) ∧ W.frozen? ⟨w'.heap.size, 0, none⟩ = false ∧ Below w'.heap.size w' W)
   (fun _ _ _ => False) ?hI (fun _ _ _ _ _ hs _ _ => hs) ?h0
   (fun x a' W => ∃ bb, a' = { tmps := #[.slice va vl vc, undef, .pointer (some ⟨w'.heap.size, 0, none⟩), .pointer (some ⟨bb, 0, none⟩), .slice va vl vc, .func (.func 97) #[] #[.pointer (some ⟨w'.heap.size + 1, 0, none⟩)], x.1.v, undef, undef, undef, undef, undef, undef, undef, undef, undef, undef, undef], defers := [] } ∧ W.cell? ⟨bb, 10, none⟩ = some x.1.of)
   ?hAx ?assign ?body ?done ?stop
  case seq =>
   intro l J Jx W hW hab habx hY h0
   have hq' : R1 n0 W (.slice va vl vc) qs := hq.keep (hb.trans ((((Below.refl _ w').alloc (by omega) _).alloc (by simp; omega) _).trans (hW.mono (by simp; omega))))
   have hsz := hW.size
   have hc : W.cell? ⟨w'.heap.size + 1, 0, none⟩ = some (.slice va vl vc) := by
    rw [hW.cell (p := ⟨w'.heap.size + 1, 0, none⟩) (by simp)]
    have := World.alloc_heap_new (w'.alloc (.cells #[.int .i64 0] 3)) (.cells #[.slice va vl vc] 51)
    rw [World.size_alloc] at this
    unfold World.cell?
    simp only
    rw [this]
    rfl
   refine (Wed (F := F) h97 hro _ (by omega) l (w'.heap.size + 1) n0 W (.slice va vl vc) qs (fun pre W => ∃ pre' : List {x : SV // x ∈ qs.flatten.flatten}, pre'.map Subtype.val = pre ∧ J pre' W) (fun pre W => ∃ pre' : List {x : SV // x ∈ qs.flatten.flatten}, pre'.map Subtype.val = pre ∧ Jx pre' W) ?_ hq' (by simp at hsz; omega) hc ?_ ⟨[], rfl, h0⟩).mono ?_
   ·rintro s A B row ⟨p', e, hs⟩ hg' hr
    exact ⟨p', e, hab p' A B row hs hg' hr⟩
   ·rintro pre x W1 hx ⟨p', rfl, hJ⟩ hlen
    obtain ⟨fn, tmps, assign, body, hy, hR⟩ := hY p' ⟨x, hx⟩ W1 hJ (by simpa using hlen)
    refine ⟨fn, tmps, assign, body, hy, hR.mono ?_⟩
    rintro e W' (⟨he, hJ', hk⟩ | ⟨he, hJ'⟩)
    ·exact .inl ⟨he, ⟨p' ++ [⟨x, hx⟩], by simp, hJ'⟩, hk⟩
    ·exact .inr ⟨he, p' ++ [⟨x, hx⟩], by simp, hJ'⟩
   ·rintro e W' ⟨he, ⟨ys, rfl, p', hp, hJ⟩ | ⟨pre, hpre, p', hp, hJ⟩⟩
    ·exact ⟨he, .inl ⟨p', hp, hJ⟩⟩
    ·exact ⟨he, .inr ⟨p', by show List.map Subtype.val p' <+: _; rw [hp]; exact hpre, hJ⟩⟩
  case hI =>
   rintro s A B row ⟨h1, h2, h3⟩ hgr hrow
   have hr2 : ∀ r, row = some r → ∃ o : Obj, A.heap[r]? = some o ∧ o.isCells = false := fun r e => (hrow r e).2
   refine ⟨cell_kept h1 hgr hr2, (frozen_kept h1 hgr hr2).trans h2, h3.grown hgr h3.size fun k e => ?_⟩
   have := (hrow k e).1
   simp at this
   omega
  case h0 =>
   have e1 := World.alloc_heap_new w' (.cells #[.int .i64 0] 3)
   have e2 : ((w'.alloc (.cells #[.int .i64 0] 3)).alloc (.cells #[.slice va vl vc] 51)).heap[w'.heap.size]? = some (.cells #[.int .i64 0] 3) := (Below.heap_alloc _ _ _ (by simp)).trans e1
   refine ⟨?_, ?_, ((Below.refl _ w').alloc (Nat.le_refl _) _).alloc (by simp) _⟩
   ·unfold World.cell?
    simp only
    rw [e2]
    rfl
   ·unfold World.frozen?
    simp only
    rw [e2]
    rfl
  case hAx =>
   rintro x a' _ A B row ⟨bb, rfl, h4⟩ hgr hrow
   exact ⟨bb, rfl, cell_kept h4 hgr fun r e => (hrow r e).2⟩
  case assign =>
   rintro l pre ⟨x, hx⟩ W K ⟨h1, h2, h3⟩ hK
   obtain ⟨x0, x1, x2, x3, x4, x5, x6, x7, x8, x9, a10, l10, c10, xh⟩ := x
   have hsz := h3.size
   gi_wp2
   refine hK _ _ ((KeepsOthers.alloc _ _).from _) ((Below.refl _ _).alloc (by omega) _) ⟨?_, ?_, h3.alloc hsz _⟩ ⟨W.heap.size, rfl, ?_⟩
   ·exact cell_kept h1 (World.grownBy_alloc W _ none) (fun r e => by cases e)
   ·exact (frozen_kept h1 (World.grownBy_alloc W _ none) (fun r e => by cases e)).trans h2
   ·have e := World.alloc_heap_new W (.cells #[.int .i64 x0, .int .i64 x1, .string x2, .string x3, .int .i64 x4, .string x5, .bool x6, .int .i64 x7, .int .i64 x8, .int .i64 x9, .slice a10 l10 c10] 96)
    unfold World.cell?
    simp only
    rw [e]
    rfl
  case body =>
   rintro l pre ⟨x, hx⟩ a' W hl hr ⟨h1, h2, h3⟩ ⟨bb, rfl, h4⟩ hlen
   have hd : 1 ≤ 10 - 1 - 1 := by omega
   have hmx : Tryz.prog.follows .mixedOrders = true := by kernel_rfl
   have hsz := h3.size
   simp only at h4
   gi_wp2
   ·have hxl : 0 < x.len := by assumption
    have hgx := Whh g hx hxl
    have IH := Lib.hid (fun W' (hB : Below n0 w W') hW => hcw 7 _ _ _ _ (ih x hx hxl (by omega) W' hB hW))
    have HB := Lib.hid (hb.trans (h3.mono hn))
    have hlt : w'.heap.size < W.heap.size := by
     rcases Nat.lt_or_ge w'.heap.size W.heap.size with h | h
     ·exact h
     ·simp [World.cell?, Array.getElem?_eq_none h] at h1
    have H1 := Lib.hid h1
    have H2 := Lib.hid h2
    have H3 := Lib.hid (⟨hsz, hn, hlt⟩ : _ ∧ _ ∧ _)
    have eN : mxN g ((pre ++ [(⟨x, hx⟩ : {x : SV // x ∈ qs.flatten.flatten})]).unattach) = max (mxN g pre.unattach) (g x) := by
     show mxN g ((pre ++ [(⟨x, hx⟩ : {x : SV // x ∈ qs.flatten.flatten})]).map Subtype.val) = _
     rw [List.map_append, List.map_cons, List.map_nil, Qjf, if_pos hxl]
     rfl
    have HE := Lib.hid (⟨fun h => by rw [eN]; omega, fun h => by rw [eN]; omega⟩ : (mxN g pre.unattach < g x → g x = mxN g ((pre ++ [(⟨x, hx⟩ : {x : SV // x ∈ qs.flatten.flatten})]).unattach)) ∧ (¬ mxN g pre.unattach < g x → mxN g pre.unattach = mxN g ((pre ++ [(⟨x, hx⟩ : {x : SV // x ∈ qs.flatten.flatten})]).unattach)))
    clear ih hq hg eN
    gi_region_with_o (gi_at_call 53; go_loud (refine (CallsIn.inRound l (IH.out _ (by exact HB.out.drew) (by show n0 ≤ W.heap.size; have := H3.out; omega))).mono ?_; rintro e w2 ⟨rfl, hb2⟩; have c1 : w2.cell? ⟨w'.heap.size, 0, none⟩ = some (.int .i64 (mxN g (pre.map Subtype.val))) := (hb2.cell (p := ⟨w'.heap.size, 0, none⟩) H3.out.2.2).trans H1.out; have c2 : w2.frozen? ⟨w'.heap.size, 0, none⟩ = false := (hb2.frozen (p := ⟨w'.heap.size, 0, none⟩) H3.out.2.2).trans H2.out))
    all_goals gi_wp2
    all_goals exact ⟨(⟨hb2.size, fun k o _ hk _ => (hb2.block k (Array.getElem?_eq_some_iff.1 hk).1).trans hk⟩ : KeepsFrom _ W w2).trans ((KeepsOthers.setCell _ _ _).from _), (((Below.refl n0 W).drew).trans (hb2.mono (by show n0 ≤ W.heap.size; omega))).setCell (by show n0 ≤ w'.heap.size; omega) _, (World.cell?_setCell_same' _ _ _ (by rw [c1]; rfl)).trans (by first | rw [HE.out.1 (by assumption)]; done | rw [HE.out.2 (by assumption)]; done | (rw [← HE.out.1 (by assumption)]; done) | (rw [← HE.out.2 (by assumption)]; done)), by rw [World.frozen?_setCell]; exact c2, ((h3.drew).trans (hb2.mono (by show w'.heap.size ≤ W.heap.size; omega))).setCell (Nat.le_refl _) _⟩
   ·have e : mxN g ((pre ++ [(⟨x, hx⟩ : {x : SV // x ∈ qs.flatten.flatten})]).map Subtype.val) = mxN g (pre.map Subtype.val) := by
     rw [List.map_append, List.map_cons, List.map_nil, Qjf, if_neg (by assumption)]
    exact ⟨KeepsFrom.refl _ _, Below.refl _ _, by rw [e]; exact h1, h2, h3⟩
  case done =>
   rintro D ys W hD hys ⟨h1, h2, h3⟩ hK
   rw [show ys.map Subtype.val = _ from hys] at h1
   have hlt : w'.heap.size < W.heap.size := by
    rcases Nat.lt_or_ge w'.heap.size W.heap.size with h | h
    ·exact h
    ·simp [World.cell?, Array.getElem?_eq_none h] at h1
   have hD' : w'.heap.size + 2 ≤ D := by simpa using hD
   have hw64 : wrap64 ((mxN g qs.flatten.flatten : Nat) + 1) = ((mxN g qs.flatten.flatten + 1 : Nat) : Int) := by simp only [wrap64]; omega
   clear ih hg hq hcw hys
   gi_wp2
   have hK' := (KeepsOthers.setCell W ⟨w'.heap.size, 0, none⟩ (.int .i64 (((mxN g qs.flatten.flatten : Nat) : Int) + 1))).same D _ hK rfl
   refine ⟨by simp, .inl ⟨_, _, rfl, run_takeDeferred hK', ?_⟩⟩
   have hc5 := cell_kept (World.cell?_setCell_same' W ⟨w'.heap.size, 0, none⟩ (.int .i64 (((mxN g qs.flatten.flatten : Nat) : Int) + 1)) (by rw [h1]; rfl)) (grownBy_putObj' _ D (.deferred none)) (fun r e => by cases e; exact ⟨_, hK', rfl⟩)
   refine ⟨.int .i64 (((mxN g qs.flatten.flatten : Nat) : Int) + 1), ?_, ?_, ?_⟩
   ·simp [results, Tryz.f53, go_sem, hc5]
   ·rw [show ((mxN g qs.flatten.flatten + 1 : Nat) : Int) = ((mxN g qs.flatten.flatten : Nat) : Int) + 1 by omega]
   ·exact (h3.setCell (p := ⟨w'.heap.size, 0, none⟩) (Nat.le_refl _) _).grown (grownBy_putObj' _ D (.deferred none)) (by simp [World.setCell]; omega) (fun k e => by cases e; omega)
  case stop =>
   rintro D c pre W _ _ h _
   exact h.elim
end Go.Proofs.YtapnplljnpconaaGreatDoor
set_option maxRecDepth 100000
set_option maxHeartbeats 4000000
namespace Go.Proofs.YtapnplljnpconaaGreatDoor
open Go.RowKit Go.Ev
def hm (L : List SV) : Nat := (L.map SV.h).foldr max 0
def h3 (L : List SV) : Nat := if L = [] then 0 else hm L + 1
def m3 (ps : List (List SV)) : Nat := (ps.map h3).foldr max 0
def h2 (ps : List (List SV)) : Nat := if ps = [] then 0 else m3 ps + 1
def m2 (qs : List (List (List SV))) : Nat := (qs.map h2).foldr max 0
def h1 (qs : List (List (List SV))) : Nat := if qs = [] then 0 else m2 qs + 1
theorem Wbf : ∀ (a b : List Nat), (a ++ b).foldr max 0 = max (a.foldr max 0) (b.foldr max 0)
 | [], b => by simp
 | x :: a, b => by simp only [List.cons_append, List.foldr_cons, Wbf a b]; omega
theorem Wbg (a b : List SV) : hm (a ++ b) = max (hm a) (hm b) := by simp only [hm, List.map_append, Wbf]
theorem Whi : ∀ (ps : List (List SV)), (ps.flatten = [] → m3 ps = 0) ∧ (ps.flatten ≠ [] → m3 ps = hm ps.flatten + 1)
 | [] => ⟨fun _ => rfl, fun h => absurd rfl h⟩
 | L :: ps => by
  obtain ⟨i1, i2⟩ := Whi ps
  have e : m3 (L :: ps) = max (h3 L) (m3 ps) := rfl
  rw [e, List.flatten_cons, Wbg]
  by_cases hL : L = []
  ·subst hL
   have e3 : h3 [] = 0 := rfl
   have eh : hm [] = 0 := rfl
   rw [List.nil_append, e3, eh]
   exact ⟨fun h => by rw [i1 h]; rfl, fun h => by rw [i2 h]; omega⟩
  ·have e3 : h3 L = hm L + 1 := if_neg hL
   rw [e3]
   refine ⟨fun h => absurd (List.append_eq_nil_iff.1 h).1 hL, fun _ => ?_⟩
   by_cases hp : ps.flatten = []
   ·rw [i1 hp, hp]; show max (hm L + 1) 0 = max (hm L) (hm []) + 1; have : hm [] = 0 := rfl; omega
   ·rw [i2 hp]; omega
theorem Whj : ∀ (qs : List (List (List SV))), (qs.flatten.flatten = [] → m2 qs ≤ 1) ∧ (qs.flatten.flatten ≠ [] → m2 qs = hm qs.flatten.flatten + 2)
 | [] => ⟨fun _ => Nat.zero_le _, fun h => absurd rfl h⟩
 | ps :: qs => by
  obtain ⟨i1, i2⟩ := Whj qs
  obtain ⟨k1, k2⟩ := Whi ps
  have e : m2 (ps :: qs) = max (h2 ps) (m2 qs) := rfl
  rw [e, List.flatten_cons, List.flatten_append, Wbg]
  have hz : hm [] = 0 := rfl
  by_cases hL : ps.flatten = []
  ·have e3 : h2 ps ≤ 1 := by
    unfold h2
    split
    ·omega
    ·rw [k1 hL]; omega
   rw [hL, List.nil_append, hz]
   exact ⟨fun h => by have := i1 h; omega, fun h => by rw [i2 h]; omega⟩
  ·have hne : ps ≠ [] := by rintro rfl; exact hL rfl
   have e3 : h2 ps = hm ps.flatten + 2 := by unfold h2; rw [if_neg hne, k2 hL]
   rw [e3]
   refine ⟨fun h => absurd (List.append_eq_nil_iff.1 h).1 hL, fun _ => ?_⟩
   by_cases hp : qs.flatten.flatten = []
   ·have := i1 hp; rw [hp, hz]; omega
   ·rw [i2 hp]; omega
theorem Wbh : ∀ (L : List SV), (∀ s ∈ L, s.len = 0 → s.h = 0) → ∀ (n : Nat), L.foldl (fun m x => if 0 < x.len then max m ((x.h + 2) / 3) else m) ((n + 2) / 3) = (max n (hm L) + 2) / 3
 | [], _, n => by
  have : hm [] = 0 := rfl
  rw [this, Nat.max_zero]; rfl
 | x :: L, hL, n => by
  have e : (if 0 < x.len then max ((n + 2) / 3) ((x.h + 2) / 3) else (n + 2) / 3) = (max n x.h + 2) / 3 := by
   split
   ·omega
   ·have := hL x (List.mem_cons_self ..) (by omega)
    rw [this, Nat.max_zero]
  rw [List.foldl_cons, e, Wbh L (fun s hs => hL s (List.mem_cons_of_mem _ hs))]
  have e2 : hm (x :: L) = max x.h (hm L) := rfl
  rw [e2]
  congr 2
  omega
theorem Whk (L : List SV) (hL : ∀ s ∈ L, s.len = 0 → s.h = 0) : mxN (fun s => (s.h + 2) / 3) L = (hm L + 2) / 3 := by
 have := Wbh L hL 0
 rw [Nat.zero_max] at this
 exact this
theorem Wke (qs : List (List (List SV))) : max 1 ((h1 qs + 2) / 3) = (hm qs.flatten.flatten + 2) / 3 + 1 := by
 obtain ⟨k1, k2⟩ := Whj qs
 unfold h1
 split
 ·rename_i h; subst h; rfl
 ·by_cases h : qs.flatten.flatten = []
  ·have := k1 h; rw [h]; have : hm [] = 0 := rfl; omega
  ·rw [k2 h]; omega
section
variable {M : Mem} {ι : Plc} {n0 : Nat} {w : World}
def Held (M : Mem) (n0 : Nat) (w : World) : Prop := ∀ b i u, M b i = some u → b < n0 ∧ w.cell? ⟨b, i, none⟩ = some u
theorem Qry : ∀ (xs : List V), V.hhs xs = (xs.map V.hh).foldr max 0
 | [] => rfl
 | x :: xs => by simp only [V.hhs, List.map_cons, List.foldr_cons, Qry xs]
theorem Qf9 {k : Nat} : ∀ {xs : List V}, V.shpAll k xs = true → ∀ x ∈ xs, V.shp k x = true
 | [], _, x, hx => by cases hx
 | y :: xs, h, x, hx => by
  simp only [V.shpAll, Bool.and_eq_true] at h
  rcases List.mem_cons.1 hx with rfl | hx
  ·exact h.1
  ·exact Qf9 h.2 x hx
theorem Qms {α : Type} (P : Nat → α → Prop) : ∀ n, (∀ i, i < n → ∃ x, P i x) → ∃ xs : List α, xs.length = n ∧ ∀ i x, xs[i]? = some x → P i x := by
 intro n
 induction n with
 | zero => intro _; exact ⟨[], rfl, fun i x hi => by cases hi⟩
 | succ n ih =>
  intro h
  obtain ⟨xs, hl, hx⟩ := ih (fun i hi => h i (by omega))
  obtain ⟨y, hy⟩ := h n (by omega)
  refine ⟨xs ++ [y], by simp [hl], fun i x hi => ?_⟩
  by_cases e : i < xs.length
  ·rw [List.getElem?_append_left e] at hi; exact hx i x hi
  ·have h1 := (List.getElem?_eq_some_iff.1 hi).1
   have e2 : i = n := by simp at h1; omega
   subst e2
   rw [List.getElem?_append_right (by omega), hl, Nat.sub_self] at hi
   cases hi
   exact hy
theorem Qtn {xs : List V} {sz : Nat} (hs : ∀ x ∈ xs, x.cells.length = sz) : ∀ (i : Nat) (x : V) (j : Nat), xs[i]? = some x → j < sz → (xs.flatMap V.cells)[i * sz + j]? = x.cells[j]? := by
 induction xs with
 | nil => intro i x j h; simp at h
 | cons y xs ih =>
  intro i x j h hj
  have hy := hs y (List.mem_cons_self ..)
  rw [List.flatMap_cons]
  cases i with
  | zero =>
   simp at h
   subst h
   rw [List.getElem?_append_left (by omega)]
   congr 1; omega
  | succ i =>
   have : (i + 1) * sz + j = sz + (i * sz + j) := by rw [Nat.succ_mul]; omega
   rw [List.getElem?_append_right (by omega), this, hy, Nat.add_sub_cancel_left]
   exact ih (fun z hz => hs z (List.mem_cons_of_mem _ hz)) i x j (by simpa using h) hj
theorem Qqb {v : Value} {x : V} (hx : x = .nils ∨ ∃ xs c, x = .sl xs c) (h : Rep M ι v x) (hM : Held M n0 w) :
  ∃ (xs : List V) (a : Option Addr) (cap : Nat), v = .slice a xs.length cap ∧ (x = .nils ∧ xs = [] ∨ ∃ c, x = .sl xs c) ∧
   ∀ i e, xs[i]? = some e → ∃ b off, a = some ⟨b, off, none⟩ ∧ ∀ j c, e.cells[j]? = some c → ∃ u, Rep M ι u c ∧ b < n0 ∧ w.cell? ⟨b, off + (i * e.cells.length + j), none⟩ = some u := by
 rcases hx with rfl | ⟨xs, c, rfl⟩
 ·cases h
  exact ⟨[], none, 0, rfl, .inl ⟨rfl, rfl⟩, fun i e he => by cases he⟩
 ·rcases h.inv_sl with ⟨b, off, cap, sz, us, rfl, hs, hr, hm, _, _⟩ | ⟨a, rfl, rfl, _⟩
  ·refine ⟨xs, _, cap, rfl, .inr ⟨c, rfl⟩, fun i e he => ⟨b, off, rfl, fun j c' hc => ?_⟩⟩
   have hsz := hs e (List.mem_of_getElem? he)
   have hj : j < sz := by rw [← hsz]; exact (List.getElem?_eq_some_iff.1 hc).1
   have h1 := Qtn hs i e j he hj
   rw [hc] at h1
   obtain ⟨u, hu, hru⟩ := hr.get h1
   have := hM b _ u (hm _ u hu)
   rw [hsz]
   refine ⟨u, hru, this.1, ?_⟩
   rw [← Nat.add_assoc] at this ⊢
   exact this.2
  ·exact ⟨[], some a, 0, rfl, .inr ⟨c, rfl⟩, fun i e he => by cases he⟩
theorem shp6 {x : V} (h : V.shp 6 x = true) : ∃ n, x = .int .i64 n := by
 cases x <;> simp [V.shp] at h
 subst h
 exact ⟨_, rfl⟩
theorem shp7 {x : V} (h : V.shp 7 x = true) : ∃ b, x = .bool b := by
 cases x <;> simp [V.shp] at h
 exact ⟨_, rfl⟩
theorem shp8 {x : V} (h : V.shp 8 x = true) : ∃ s, x = .str s := by
 cases x <;> simp [V.shp] at h
 exact ⟨_, rfl⟩
theorem shpR {k : Nat} {x : V} (hk : k = 0 ∨ k = 2 ∨ k = 4) (h : V.shp k x = true) : x = .nils ∨ ∃ xs c, x = .sl xs c ∧ xs.length ≤ 1000000000 ∧ V.shpAll (k + 1) xs = true := by
 rcases hk with rfl | rfl | rfl <;> cases x <;> simp [V.shp] at h <;> first | exact .inl rfl | exact .inr ⟨_, _, rfl, h.1, h.2⟩
def Pd (M : Mem) (ι : Plc) (n0 : Nat) (w : World) (x : V) : Prop := ∀ v, Rep M ι v x → V.shp 0 x = true → Dp n0 w v (max 1 ((V.hh x + 2) / 3))
theorem Qz2 (xs : List V) (c : Cap) : V.hh (.sl xs c) = if xs.isEmpty then 0 else V.hhs xs + 1 := by simp only [V.hh]
theorem mk_s (hM : Held M n0 w) {e : V} (hs : V.shp 5 e = true) (IH : ∀ o, SizeOf.sizeOf o < SizeOf.sizeOf e → Pd M ι n0 w o) {b off i : Nat}
  (he : ∀ j c, e.cells[j]? = some c → ∃ u, Rep M ι u c ∧ b < n0 ∧ w.cell? ⟨b, off + (i * e.cells.length + j), none⟩ = some u) :
  ∃ s : SV, b < n0 ∧ (∀ j u, s.cs[j]? = some u → w.cell? ⟨b, off + i * 11 + j, none⟩ = some u) ∧ (0 < s.len → Dp n0 w s.of ((s.h + 2) / 3)) ∧ (s.len = 0 → s.h = 0) ∧ s.h = V.hh e := by
 cases e <;> simp [V.shp] at hs
 rename_i cs
 match cs, hs with
 | [], hs => simp [V.shpEach] at hs
 | [_], hs => simp [V.shpEach] at hs
 | [_, _], hs => simp [V.shpEach] at hs
 | [_, _, _], hs => simp [V.shpEach] at hs
 | [_, _, _, _], hs => simp [V.shpEach] at hs
 | [_, _, _, _, _], hs => simp [V.shpEach] at hs
 | [_, _, _, _, _, _], hs => simp [V.shpEach] at hs
 | [_, _, _, _, _, _, _], hs => simp [V.shpEach] at hs
 | [_, _, _, _, _, _, _, _], hs => simp [V.shpEach] at hs
 | [_, _, _, _, _, _, _, _, _], hs => simp [V.shpEach] at hs
 | [_, _, _, _, _, _, _, _, _, _], hs => simp [V.shpEach] at hs
 | _ :: _ :: _ :: _ :: _ :: _ :: _ :: _ :: _ :: _ :: _ :: _ :: _, hs => simp [V.shpEach] at hs
 | [y0, y1, y2, y3, y4, y5, y6, y7, y8, y9, o], hs =>
  simp only [V.shpEach, Bool.and_eq_true, and_true, List.isEmpty_nil] at hs
  obtain ⟨p0, p1, p2, p3, p4, p5, p6, p7, p8, p9, po⟩ := hs
  obtain ⟨v0, rfl⟩ := shp6 p0
  obtain ⟨v1, rfl⟩ := shp6 p1
  obtain ⟨v2, rfl⟩ := shp8 p2
  obtain ⟨v3, rfl⟩ := shp8 p3
  obtain ⟨v4, rfl⟩ := shp6 p4
  obtain ⟨v5, rfl⟩ := shp8 p5
  obtain ⟨v6, rfl⟩ := shp7 p6
  obtain ⟨v7, rfl⟩ := shp6 p7
  obtain ⟨v8, rfl⟩ := shp6 p8
  obtain ⟨v9, rfl⟩ := shp6 p9
  obtain ⟨u0, r0, hb, g0⟩ := he 0 _ rfl
  obtain ⟨u1, r1, _, g1⟩ := he 1 _ rfl
  obtain ⟨u2, r2, _, g2⟩ := he 2 _ rfl
  obtain ⟨u3, r3, _, g3⟩ := he 3 _ rfl
  obtain ⟨u4, r4, _, g4⟩ := he 4 _ rfl
  obtain ⟨u5, r5, _, g5⟩ := he 5 _ rfl
  obtain ⟨u6, r6, _, g6⟩ := he 6 _ rfl
  obtain ⟨u7, r7, _, g7⟩ := he 7 _ rfl
  obtain ⟨u8, r8, _, g8⟩ := he 8 _ rfl
  obtain ⟨u9, r9, _, g9⟩ := he 9 _ rfl
  obtain ⟨u10, r10, _, g10⟩ := he 10 _ rfl
  cases r0.inv_int; cases r1.inv_int; cases r4.inv_int; cases r7.inv_int; cases r8.inv_int; cases r9.inv_int; cases r6.inv_bool
  obtain ⟨s2, rfl, _⟩ := r2.inv_str
  obtain ⟨s3, rfl, _⟩ := r3.inv_str
  obtain ⟨s5, rfl, _⟩ := r5.inv_str
  have hd := IH o (by simp; omega) u10 r10 po
  have hz : (∃ a l c, u10 = .slice a l c ∧ (0 < l → 1 ≤ V.hh o) ∧ (l = 0 → V.hh o = 0)) := by
   rcases shpR (.inl rfl) po with rfl | ⟨xs, c, rfl, _, _⟩
   ·cases r10; exact ⟨_, _, _, rfl, fun h => absurd h (by omega), fun _ => rfl⟩
   ·rw [Qz2]
    rcases r10.inv_sl with ⟨b, off, cap, sz, us, rfl, _⟩ | ⟨a, rfl, rfl, _⟩
    ·refine ⟨_, _, _, rfl, fun h => ?_, fun h => ?_⟩
     ·rw [if_neg (by cases xs with | nil => simp at h | cons _ _ => simp)]; omega
     ·rw [if_pos (by rw [List.length_eq_zero_iff.1 h]; rfl)]
    ·exact ⟨_, _, _, rfl, fun h => absurd h (by omega), fun _ => rfl⟩
  obtain ⟨a, l, c, rfl, z1, z2⟩ := hz
  have hhe : ∀ a b c d e f g h i j, V.hh (.agg [.int .i64 a, .int .i64 b, .str c, .str d, .int .i64 e, .str f, .bool g, .int .i64 h, .int .i64 i, .int .i64 j, o]) = V.hh o := fun a b c d e f g h i j => by simp [V.hh, V.hhs]
  refine ⟨⟨v0, v1, s2, s3, v4, s5, v6, v7, v8, v9, a, l, c, V.hh o⟩, hb, ?_, ?_, z2, (hhe _ _ _ _ _ _ _ _ _ _).symm⟩
  ·intro j u hu
   match j, hu with
   | 0, hu => cases hu; exact g0
   | 1, hu => cases hu; exact g1
   | 2, hu => cases hu; exact g2
   | 3, hu => cases hu; exact g3
   | 4, hu => cases hu; exact g4
   | 5, hu => cases hu; exact g5
   | 6, hu => cases hu; exact g6
   | 7, hu => cases hu; exact g7
   | 8, hu => cases hu; exact g8
   | 9, hu => cases hu; exact g9
   | 10, hu => cases hu; exact g10
   | j + 11, hu => simp [SV.cs] at hu
  ·intro hl
   have := z1 hl
   rw [show max 1 ((V.hh o + 2) / 3) = (V.hh o + 2) / 3 by omega] at hd
   exact hd
theorem Qmt {xs : List V} {x : V} {c : Cap} (h : x ∈ xs) : SizeOf.sizeOf x < SizeOf.sizeOf (V.sl xs c) := by
 have := List.sizeOf_lt_of_mem h
 simp; omega
theorem mk3 (hM : Held M n0 w) {v : Value} {x : V} (hr : Rep M ι v x) (hs : V.shp 4 x = true) (IH : ∀ o, SizeOf.sizeOf o < SizeOf.sizeOf x → Pd M ι n0 w o) :
  ∃ L : List SV, R3 n0 w v L ∧ (∀ s ∈ L, 0 < s.len → Dp n0 w s.of ((s.h + 2) / 3)) ∧ (∀ s ∈ L, s.len = 0 → s.h = 0) ∧ V.hh x = h3 L := by
 have hx := shpR (.inr (.inr rfl)) hs
 obtain ⟨xs, a, cap, rfl, hxx, hel⟩ := Qqb (by rcases hx with h | ⟨xs, c, h, _⟩; exact .inl h; exact .inr ⟨xs, c, h⟩) hr hM
 have hxs : (∀ e ∈ xs, V.shp 5 e = true ∧ SizeOf.sizeOf e < SizeOf.sizeOf x) ∧ xs.length ≤ 1000000000 ∧ V.hh x = if xs = [] then 0 else V.hhs xs + 1 := by
  rcases hxx with ⟨rfl, rfl⟩ | ⟨c, rfl⟩
  ·exact ⟨fun e he => (by cases he), by simp, rfl⟩
  ·rcases hx with h | ⟨ys, c', h, h1, h2⟩
   ·cases h
   ·cases h
    refine ⟨fun e he => ⟨Qf9 h2 e he, Qmt he⟩, h1, ?_⟩
    rw [Qz2]; cases xs <;> rfl
 obtain ⟨h1, h2, h3'⟩ := hxs
 obtain ⟨L, hL, hLe⟩ := Qms (fun i (s : SV) => ∃ b off, a = some ⟨b, off, none⟩ ∧ b < n0 ∧ (∀ j u, s.cs[j]? = some u → w.cell? ⟨b, off + i * 11 + j, none⟩ = some u) ∧ (0 < s.len → Dp n0 w s.of ((s.h + 2) / 3)) ∧ (s.len = 0 → s.h = 0) ∧ (xs[i]?).map V.hh = some s.h) xs.length (fun i hi => by
  obtain ⟨e, he⟩ : ∃ e, xs[i]? = some e := ⟨_, List.getElem?_eq_getElem hi⟩
  obtain ⟨g1, g2⟩ := h1 e (List.mem_of_getElem? he)
  obtain ⟨b, off, ha, hc⟩ := hel i e he
  obtain ⟨s, k1, k2, k3, k4, k5⟩ := mk_s hM g1 (fun o ho => IH o (by omega)) hc
  exact ⟨s, b, off, ha, k1, k2, k3, k4, by rw [he, k5]; rfl⟩)
 refine ⟨L, ⟨a, cap, by rw [hL], by omega, fun i s hs => ?_⟩, fun s hs => ?_, fun s hs => ?_, ?_⟩
 ·obtain ⟨b, off, k1, k2, k3, _⟩ := hLe i s hs
  exact ⟨b, off, k1, k2, k3⟩
 ·obtain ⟨i, hi⟩ := List.getElem?_of_mem hs
  obtain ⟨b, off, k1, k2, k3, k4, _⟩ := hLe i s hi
  exact k4
 ·obtain ⟨i, hi⟩ := List.getElem?_of_mem hs
  obtain ⟨b, off, k1, k2, k3, k4, k5, _⟩ := hLe i s hi
  exact k5
 ·have e : xs.map V.hh = L.map SV.h := by
   apply List.ext_getElem?
   intro i
   rw [List.getElem?_map, List.getElem?_map]
   cases hi : L[i]? with
   | none =>
    have : xs[i]? = none := by rw [List.getElem?_eq_none_iff] at hi ⊢; omega
    rw [this]; rfl
   | some s =>
    obtain ⟨b, off, k1, k2, k3, k4, k5, k6⟩ := hLe i s hi
    rw [k6]; rfl
  rw [h3', Qry, e]
  unfold h3 hm
  have : xs = [] ↔ L = [] := by rw [← List.length_eq_zero_iff, ← List.length_eq_zero_iff, hL]
  by_cases hz : L = []
  ·rw [if_pos (this.2 hz), if_pos hz]
  ·rw [if_neg (fun h => hz (this.1 h)), if_neg hz]
theorem Whl {e : V} (h : V.shp 1 e = true) : ∃ l, e = .agg [l] ∧ V.shp 2 l = true := by
 cases e <;> simp [V.shp] at h
 rename_i cs
 match cs, h with
 | [], h => simp [V.shpEach] at h
 | [l], h => simp only [V.shpEach, Bool.and_eq_true] at h; exact ⟨l, rfl, h.1⟩
 | _ :: _ :: _, h => simp [V.shpEach] at h
theorem Whm {e : V} (h : V.shp 3 e = true) : ∃ n l, e = .agg [.int .i64 n, l] ∧ V.shp 4 l = true := by
 cases e <;> simp [V.shp] at h
 rename_i cs
 match cs, h with
 | [], h => simp [V.shpEach] at h
 | [_], h => simp [V.shpEach] at h
 | [x, l], h =>
  simp only [V.shpEach, Bool.and_eq_true] at h
  obtain ⟨n, rfl⟩ := shp6 h.1
  exact ⟨n, l, rfl, h.2.1⟩
 | _ :: _ :: _ :: _, h => simp [V.shpEach] at h
theorem mk2 (hM : Held M n0 w) {v : Value} {x : V} (hr : Rep M ι v x) (hs : V.shp 2 x = true) (IH : ∀ o, SizeOf.sizeOf o < SizeOf.sizeOf x → Pd M ι n0 w o) :
  ∃ ps : List (List SV), R2 n0 w v ps ∧ (∀ L ∈ ps, (∀ s ∈ L, 0 < s.len → Dp n0 w s.of ((s.h + 2) / 3)) ∧ (∀ s ∈ L, s.len = 0 → s.h = 0)) ∧ V.hh x = h2 ps := by
 have hx := shpR (.inr (.inl rfl)) hs
 obtain ⟨xs, a, cap, rfl, hxx, hel⟩ := Qqb (by rcases hx with h | ⟨xs, c, h, _⟩; exact .inl h; exact .inr ⟨xs, c, h⟩) hr hM
 have hxs : (∀ e ∈ xs, V.shp 3 e = true ∧ SizeOf.sizeOf e < SizeOf.sizeOf x) ∧ xs.length ≤ 1000000000 ∧ V.hh x = if xs = [] then 0 else V.hhs xs + 1 := by
  rcases hxx with ⟨rfl, rfl⟩ | ⟨c, rfl⟩
  ·exact ⟨fun e he => (by cases he), by simp, rfl⟩
  ·rcases hx with h | ⟨ys, c', h, h1, h2⟩
   ·cases h
   ·cases h
    refine ⟨fun e he => ⟨Qf9 h2 e he, Qmt he⟩, h1, ?_⟩
    rw [Qz2]; cases xs <;> rfl
 obtain ⟨g1, g2, g3⟩ := hxs
 obtain ⟨ps, hL, hLe⟩ := Qms (fun i (L : List SV) => ∃ b off c u, a = some ⟨b, off, none⟩ ∧ b < n0 ∧ w.cell? ⟨b, off + i * 2, none⟩ = some (.int .i64 c) ∧ w.cell? ⟨b, off + i * 2 + 1, none⟩ = some u ∧ R3 n0 w u L ∧ (∀ s ∈ L, 0 < s.len → Dp n0 w s.of ((s.h + 2) / 3)) ∧ (∀ s ∈ L, s.len = 0 → s.h = 0) ∧ (xs[i]?).map V.hh = some (h3 L)) xs.length (fun i hi => by
  obtain ⟨e, he⟩ : ∃ e, xs[i]? = some e := ⟨_, List.getElem?_eq_getElem hi⟩
  obtain ⟨q1, q2⟩ := g1 e (List.mem_of_getElem? he)
  obtain ⟨n, l, rfl, hl⟩ := Whm q1
  obtain ⟨b, off, ha, hc⟩ := hel i _ he
  obtain ⟨u0, r0, hb, c0⟩ := hc 0 _ rfl
  obtain ⟨u1, r1, _, c1⟩ := hc 1 _ rfl
  cases r0.inv_int
  obtain ⟨L, k1, k2, k3, k4⟩ := mk3 hM r1 hl (fun o ho => IH o (by simp at q2; omega))
  refine ⟨L, b, off, n, u1, ha, hb, c0, c1, k1, k2, k3, ?_⟩
  rw [he, ← k4]
  simp [V.hh, V.hhs])
 refine ⟨ps, ⟨a, cap, by rw [hL], by omega, fun i s hs => ?_⟩, fun L hs => ?_, ?_⟩
 ·obtain ⟨b, off, c, u, k1, k2, k3, k4, k5, _⟩ := hLe i s hs
  exact ⟨b, off, c, u, k1, k2, k3, k4, k5⟩
 ·obtain ⟨i, hi⟩ := List.getElem?_of_mem hs
  obtain ⟨b, off, c, u, k1, k2, k3, k4, k5, k6, k7, _⟩ := hLe i L hi
  exact ⟨k6, k7⟩
 ·have e : xs.map V.hh = ps.map h3 := by
   apply List.ext_getElem?
   intro i
   rw [List.getElem?_map, List.getElem?_map]
   cases hi : ps[i]? with
   | none =>
    have : xs[i]? = none := by rw [List.getElem?_eq_none_iff] at hi ⊢; omega
    rw [this]; rfl
   | some s =>
    obtain ⟨b, off, c, u, k1, k2, k3, k4, k5, k6, k7, k8⟩ := hLe i s hi
    rw [k8]; rfl
  rw [g3, Qry, e]
  unfold h2 m3
  have : xs = [] ↔ ps = [] := by rw [← List.length_eq_zero_iff, ← List.length_eq_zero_iff, hL]
  by_cases hz : ps = []
  ·rw [if_pos (this.2 hz), if_pos hz]
  ·rw [if_neg (fun h => hz (this.1 h)), if_neg hz]
theorem mk1 (hM : Held M n0 w) {v : Value} {x : V} (hr : Rep M ι v x) (hs : V.shp 0 x = true) (IH : ∀ o, SizeOf.sizeOf o < SizeOf.sizeOf x → Pd M ι n0 w o) :
  ∃ qs : List (List (List SV)), R1 n0 w v qs ∧ (∀ ps ∈ qs, ∀ L ∈ ps, (∀ s ∈ L, 0 < s.len → Dp n0 w s.of ((s.h + 2) / 3)) ∧ (∀ s ∈ L, s.len = 0 → s.h = 0)) ∧ V.hh x = h1 qs := by
 have hx := shpR (.inl rfl) hs
 obtain ⟨xs, a, cap, rfl, hxx, hel⟩ := Qqb (by rcases hx with h | ⟨xs, c, h, _⟩; exact .inl h; exact .inr ⟨xs, c, h⟩) hr hM
 have hxs : (∀ e ∈ xs, V.shp 1 e = true ∧ SizeOf.sizeOf e < SizeOf.sizeOf x) ∧ xs.length ≤ 1000000000 ∧ V.hh x = if xs = [] then 0 else V.hhs xs + 1 := by
  rcases hxx with ⟨rfl, rfl⟩ | ⟨c, rfl⟩
  ·exact ⟨fun e he => (by cases he), by simp, rfl⟩
  ·rcases hx with h | ⟨ys, c', h, h1, h2⟩
   ·cases h
   ·cases h
    refine ⟨fun e he => ⟨Qf9 h2 e he, Qmt he⟩, h1, ?_⟩
    rw [Qz2]; cases xs <;> rfl
 obtain ⟨g1, g2, g3⟩ := hxs
 obtain ⟨qs, hL, hLe⟩ := Qms (fun i (ps : List (List SV)) => ∃ b off u, a = some ⟨b, off, none⟩ ∧ b < n0 ∧ w.cell? ⟨b, off + i, none⟩ = some u ∧ R2 n0 w u ps ∧ (∀ L ∈ ps, (∀ s ∈ L, 0 < s.len → Dp n0 w s.of ((s.h + 2) / 3)) ∧ (∀ s ∈ L, s.len = 0 → s.h = 0)) ∧ (xs[i]?).map V.hh = some (h2 ps)) xs.length (fun i hi => by
  obtain ⟨e, he⟩ : ∃ e, xs[i]? = some e := ⟨_, List.getElem?_eq_getElem hi⟩
  obtain ⟨q1, q2⟩ := g1 e (List.mem_of_getElem? he)
  obtain ⟨l, rfl, hl⟩ := Whl q1
  obtain ⟨b, off, ha, hc⟩ := hel i _ he
  obtain ⟨u0, r0, hb, c0⟩ := hc 0 _ rfl
  obtain ⟨ps, k1, k2, k3⟩ := mk2 hM r0 hl (fun o ho => IH o (by simp at q2; omega))
  refine ⟨ps, b, off, u0, ha, hb, by simpa [V.cells] using c0, k1, k2, ?_⟩
  rw [he, ← k3]
  simp [V.hh, V.hhs])
 refine ⟨qs, ⟨a, cap, by rw [hL], by omega, fun i s hs => ?_⟩, fun ps hs => ?_, ?_⟩
 ·obtain ⟨b, off, u, k1, k2, k3, k4, _⟩ := hLe i s hs
  exact ⟨b, off, u, k1, k2, k3, k4⟩
 ·obtain ⟨i, hi⟩ := List.getElem?_of_mem hs
  obtain ⟨b, off, u, k1, k2, k3, k4, k5, _⟩ := hLe i ps hi
  exact k5
 ·have e : xs.map V.hh = qs.map h2 := by
   apply List.ext_getElem?
   intro i
   rw [List.getElem?_map, List.getElem?_map]
   cases hi : qs[i]? with
   | none =>
    have : xs[i]? = none := by rw [List.getElem?_eq_none_iff] at hi ⊢; omega
    rw [this]; rfl
   | some s =>
    obtain ⟨b, off, u, k1, k2, k3, k4, k5, k6⟩ := hLe i s hi
    rw [k6]; rfl
  rw [g3, Qry, e]
  unfold h1 m2
  have : xs = [] ↔ qs = [] := by rw [← List.length_eq_zero_iff, ← List.length_eq_zero_iff, hL]
  by_cases hz : qs = []
  ·rw [if_pos (this.2 hz), if_pos hz]
  ·rw [if_neg (fun h => hz (this.1 h)), if_neg hz]
theorem Wbi (hM : Held M n0 w) : ∀ (n : Nat) (x : V), SizeOf.sizeOf x < n → Pd M ι n0 w x
 | 0, x, h => by omega
 | n + 1, x, h => fun v hr hs => by
  obtain ⟨qs, k1, k2, k3⟩ := mk1 hM hr hs (fun o ho => Wbi hM n o (by omega))
  have hz : ∀ s ∈ qs.flatten.flatten, s.len = 0 → s.h = 0 := fun s hs => by
   obtain ⟨L, hL, hs⟩ := List.mem_flatten.1 hs
   obtain ⟨ps, hps, hL⟩ := List.mem_flatten.1 hL
   exact (k2 ps hps L hL).2 s hs
  rw [k3, Wke, ← Whk _ hz]
  refine .mk v qs _ k1 fun s hs hl => ?_
  obtain ⟨L, hL, hs⟩ := List.mem_flatten.1 hs
  obtain ⟨ps, hps, hL⟩ := List.mem_flatten.1 hL
  exact (k2 ps hps L hL).1 s hs hl
end
theorem Qqc (G : GV) : Sound Tryz.prog G 53 Qqa := by
 refine Sound.of_below fun args σ r σ' he => ?_
 have hrun : ∀ vs w, (callFunc 53 vs).run Tryz.prog w = .ok (.enter 53 vs) w := fun vs w => Qfi Tryz.func53 rfl (by kernel_rfl) vs
 unfold Qqa at he
 rw [Option.map_eq_some_iff] at he
 obtain ⟨v0, hv0, he⟩ := he
 cases he
 unfold Qp9 at hv0
 split at hv0
 ·rename_i x
  split at hv0
  ·rename_i hc
   cases hv0
   simp only [Bool.and_eq_true, decide_eq_true_eq] at hc
   refine ⟨rfl, rfl, fun M ι X κ w vs h hG => ⟨hrun _ _, _, .int _ _, ?_⟩⟩
   have hl := h.rep.1
   obtain ⟨v, hv⟩ : ∃ v, vs.toList = [v] := List.length_eq_one_iff.1 (by simpa using hl)
   have hvs : vs = #[v] := by apply Array.ext'; simpa using hv
   have hr : Rep M ι v x := by have := h.rep; rw [hv] at this; exact this.head
   subst hvs
   have hM : Held M w.heap.size w := fun b i u hb => ⟨h.wd.lt hb, h.wd.mem b i u hb⟩
   exact Qtm (Wbi hM _ x (Nat.lt_succ_self _) v hr hc.1) (by omega) w (.refl _ _) (Nat.le_refl _)
  ·cases hv0
 ·cases hv0
end Go.Proofs.YtapnplljnpconaaGreatDoor
set_option maxRecDepth 100000
namespace Go.Proofs.YtapnplljnpconaaGreatDoor
open Go.Ev
def Qqd (f : FuncId) : Option (List V → Objs → Option (V × Objs)) :=
 if f = 53 then some Qqa else none
def Qb7 : List (List UInt8) := [[104, 111, 118, 101, 114], [97, 99, 116, 105, 118, 101], [102, 111, 99, 117, 115], [102, 111, 99, 117, 115, 45, 118, 105, 115, 105, 98, 108, 101], [118, 105, 115, 105, 116, 101, 100], [108, 105, 110, 107], [99, 104, 101, 99, 107, 101, 100], [100, 105, 115, 97, 98, 108, 101, 100], [101, 110, 97, 98, 108, 101, 100], [116, 97, 114, 103, 101, 116]]
def Qbg : List (List UInt8) := [[98, 101, 102, 111, 114, 101], [97, 102, 116, 101, 114], [102, 105, 114, 115, 116, 45, 108, 105, 110, 101], [102, 105, 114, 115, 116, 45, 108, 101, 116, 116, 101, 114], [109, 97, 114, 107, 101, 114], [115, 101, 108, 101, 99, 116, 105, 111, 110], [112, 108, 97, 99, 101, 104, 111, 108, 100, 101, 114], [98, 97, 99, 107, 100, 114, 111, 112]]
def Qe5 : List Nat := List.replicate 128 240 ++ List.replicate 66 241 ++ List.replicate 30 2 ++ [19] ++ List.replicate 12 3 ++ [35] ++ List.replicate 2 3 ++ [52] ++ List.replicate 3 4 ++ [68] ++ List.replicate 11 241
def accN : List (Nat × Nat) := [(128, 191), (160, 191), (128, 159), (144, 191), (128, 143)] ++ List.replicate 11 (0, 0)
def Qqe : List V := Qb7.map V.str
def Qka : List V := Qbg.map V.str
def Qhs : List V := Qe5.map fun (n : Nat) => V.int .u8 (n : Int)
def accV : List V := accN.flatMap fun p => [V.int .u8 (p.1 : Int), V.int .u8 (p.2 : Int)]
def gTab (n : Nat) : V := if n = 3 then .eptr Qqe 0 else if n = 4 then .eptr Qka 0 else if n = 1 then .eptr Qhs 0 else if n = 2 then .eptr accV 0 else .any
def cx : Ctx := ⟨⟨gTab, []⟩, Qvk, Qqd⟩
theorem Wee : ∀ f h, cx.prim f = some h → Sound Tryz.prog cx.G f h := by
 intro f h hh
 unfold cx Qqd at hh
 simp only at hh
 split at hh
 ·rename_i e; subst e; cases hh; exact Qqc _
 ·cases hh
theorem Whn {l : List (Nat × Ev.Fn)} (h : l.all (fun p => !p.2.esc) = true) : ∀ f F, Qn1 l f = some F → F.esc = false := by
 induction l with
 | nil => intro f F hF; cases hF
 | cons p r ih =>
  intro f F hF
  simp only [List.all_cons, Bool.and_eq_true, Bool.not_eq_true'] at h
  unfold Qn1 at hF
  split at hF
  ·cases hF; exact h.1
  ·exact ih h.2 f F hF
theorem Who : ∀ f F, cx.code f = some F → F.esc = false := Whn (l := Qme) (by kernel_rfl)
theorem Wkf {l : List (Nat × Ev.Fn)} (h : l.all (fun p => p.2.body.cl && !p.2.esc) = true) : ∀ f F, Qn1 l f = some F → F.body.cl = true ∧ F.esc = false := by
 induction l with
 | nil => intro f F hF; cases hF
 | cons p r ih =>
  intro f F hF
  simp only [List.all_cons, Bool.and_eq_true, Bool.not_eq_true'] at h
  unfold Qn1 at hF
  split at hF
  ·cases hF; exact h.1
  ·exact ih (by simpa using h.2) f F hF
theorem Qbm : CtxCl cx := by
 refine ⟨fun n => ?_, Wkf (l := Qme) (by kernel_rfl), ?_⟩
 ·show V.rb 0 (gTab n) = true
  unfold gTab
  split
  ·kernel_rfl
  ·split
   ·kernel_rfl
   ·split
    ·kernel_rfl
    ·split
     ·kernel_rfl
     ·rfl
 ·intro f h hh
  unfold cx Qqd at hh
  simp only at hh
  split at hh
  ·cases hh; exact Qz1
  ·cases hh
end Go.Proofs.YtapnplljnpconaaGreatDoor
set_option maxRecDepth 100000
namespace Go.Proofs.YtapnplljnpconaaGreatDoor
open Go.Ev
theorem e_Z1n (a0 a1 a2 : V) (σ : Objs) : E cx 4 [a0, a1, a2] σ = s_Z1n (Mi cx) a0 a1 a2 σ := (E_fn (F := c_Z1n) (by kernel_rfl) (by kernel_rfl) _ _).trans (k_Z1n ..)
theorem e_Z1p (a0 a1 a2 : V) (σ : Objs) : E cx 7 [a0, a1, a2] σ = s_Z1p (Mi cx) a0 a1 a2 σ := (E_fn (F := c_Z1p) (by kernel_rfl) (by kernel_rfl) _ _).trans (k_Z1p ..)
theorem u_Z1p_0 (n0 : Nat) (n1 : Nat) (z2 z16 z17 z18 : V) (σ : Objs) : l_Z1p_0 (Mi cx) n0 n1 [z2, z16, z17, z18] σ = b_Z1p_0 (Mi cx) n0 n1 (l_Z1p_0 (Mi cx) n0 n1) z2 z16 z17 z18 σ :=
 Qaz cx (seek (Mi cx) 26 [] [true, true, false, true] c_Z1p.body (topK c_Z1p n0)) n1 (B := fun rec vs σ => b_Z1p_0 (Mi cx) n0 n1 rec (vs.getD 0 .undef) (vs.getD 1 .undef) (vs.getD 2 .undef) (vs.getD 3 .undef) σ) (by kernel_rfl) (by kernel_rfl) _ _
theorem e_Z10 (a0 a1 : V) (σ : Objs) : E cx 8 [a0, a1] σ = s_Z10 (Mi cx) a0 a1 σ := (E_fn (F := c_Z10) (by kernel_rfl) (by kernel_rfl) _ _).trans (k_Z10 ..)
theorem u_Z10_0 (n0 : Nat) (n1 : Nat) (z3 z4 z7 z20 z21 z22 : V) (σ : Objs) : l_Z10_0 (Mi cx) n0 n1 [z3, z4, z7, z20, z21, z22] σ = b_Z10_0 (Mi cx) n0 n1 (l_Z10_0 (Mi cx) n0 n1) z3 z4 z7 z20 z21 z22 σ :=
 Qaz cx (seek (Mi cx) 55 [] [true, true, true, false, true] c_Z10.body (topK c_Z10 n0)) n1 (B := fun rec vs σ => b_Z10_0 (Mi cx) n0 n1 rec (vs.getD 0 .undef) (vs.getD 1 .undef) (vs.getD 2 .undef) (vs.getD 3 .undef) (vs.getD 4 .undef) (vs.getD 5 .undef) σ) (by kernel_rfl) (by kernel_rfl) _ _
theorem e_Z2q (a0 a1 : V) (σ : Objs) : E cx 11 [a0, a1] σ = s_Z2q (Mi cx) a0 a1 σ := (E_fn (F := c_Z2q) (by kernel_rfl) (by kernel_rfl) _ _).trans (k_Z2q ..)
theorem e_Z1r (a0 : V) (σ : Objs) : E cx 12 [a0] σ = s_Z1r (Mi cx) a0 σ := (E_fn (F := c_Z1r) (by kernel_rfl) (by kernel_rfl) _ _).trans (k_Z1r ..)
theorem u_Z1r_2 (n0 : Nat) (n1 : Nat) (r1 : Rk) (n2 : Nat) (r2 : Rk) (n3 : Nat) (z2 z3 z12 z13 z14 z21 z22 z23 z30 z31 z32 : V) (σ : Objs) : l_Z1r_2 (Mi cx) n0 n1 r1 n2 r2 n3 [z2, z3, z12, z13, z14, z21, z22, z23, z30, z31, z32] σ = b_Z1r_2 (Mi cx) n0 n1 r1 n2 r2 n3 (l_Z1r_2 (Mi cx) n0 n1 r1 n2 r2 n3) z2 z3 z12 z13 z14 z21 z22 z23 z30 z31 z32 σ :=
 Qaz cx (seek (Mi cx) 53 [(n1, r1), (n2, r2)] [true, false, true, true, true, false, true, true, true, true, true, false, true, true, true] c_Z1r.body (topK c_Z1r n0)) n3 (B := fun rec vs σ => b_Z1r_2 (Mi cx) n0 n1 r1 n2 r2 n3 rec (vs.getD 0 .undef) (vs.getD 1 .undef) (vs.getD 2 .undef) (vs.getD 3 .undef) (vs.getD 4 .undef) (vs.getD 5 .undef) (vs.getD 6 .undef) (vs.getD 7 .undef) (vs.getD 8 .undef) (vs.getD 9 .undef) (vs.getD 10 .undef) σ) (by kernel_rfl) (by kernel_rfl) _ _
theorem u_Z1r_1 (n0 : Nat) (n1 : Nat) (r1 : Rk) (n2 : Nat) (z2 z3 z12 z13 z14 z21 z22 z23 : V) (σ : Objs) : l_Z1r_1 (Mi cx) n0 n1 r1 n2 [z2, z3, z12, z13, z14, z21, z22, z23] σ = b_Z1r_1 (Mi cx) n0 n1 r1 n2 (l_Z1r_1 (Mi cx) n0 n1 r1 n2) z2 z3 z12 z13 z14 z21 z22 z23 σ :=
 Qaz cx (seek (Mi cx) 53 [(n1, r1)] [true, false, true, true, true, false, true, true, true] c_Z1r.body (topK c_Z1r n0)) n2 (B := fun rec vs σ => b_Z1r_1 (Mi cx) n0 n1 r1 n2 rec (vs.getD 0 .undef) (vs.getD 1 .undef) (vs.getD 2 .undef) (vs.getD 3 .undef) (vs.getD 4 .undef) (vs.getD 5 .undef) (vs.getD 6 .undef) (vs.getD 7 .undef) σ) (by kernel_rfl) (by kernel_rfl) _ _
theorem u_Z1r_0 (n0 : Nat) (n1 : Nat) (z2 z3 z12 z13 z14 : V) (σ : Objs) : l_Z1r_0 (Mi cx) n0 n1 [z2, z3, z12, z13, z14] σ = b_Z1r_0 (Mi cx) n0 n1 (l_Z1r_0 (Mi cx) n0 n1) z2 z3 z12 z13 z14 σ :=
 Qaz cx (seek (Mi cx) 53 [] [true, false, true] c_Z1r.body (topK c_Z1r n0)) n1 (B := fun rec vs σ => b_Z1r_0 (Mi cx) n0 n1 rec (vs.getD 0 .undef) (vs.getD 1 .undef) (vs.getD 2 .undef) (vs.getD 3 .undef) (vs.getD 4 .undef) σ) (by kernel_rfl) (by kernel_rfl) _ _
theorem e_Z1t (a0 a1 : V) (σ : Objs) : E cx 13 [a0, a1] σ = s_Z1t (Mi cx) a0 a1 σ := (E_fn (F := c_Z1t) (by kernel_rfl) (by kernel_rfl) _ _).trans (k_Z1t ..)
theorem u_Z1t_0 (n0 : Nat) (n1 : Nat) (z0 z1 z5 : V) (σ : Objs) : l_Z1t_0 (Mi cx) n0 n1 [z0, z1, z5] σ = b_Z1t_0 (Mi cx) n0 n1 (l_Z1t_0 (Mi cx) n0 n1) z0 z1 z5 σ :=
 Qaz cx (seek (Mi cx) 26 [] [true, true, false, true] c_Z1t.body (topK c_Z1t n0)) n1 (B := fun rec vs σ => b_Z1t_0 (Mi cx) n0 n1 rec (vs.getD 0 .undef) (vs.getD 1 .undef) (vs.getD 2 .undef) σ) (by kernel_rfl) (by kernel_rfl) _ _
theorem e_Z2v (a0 : V) (σ : Objs) : E cx 14 [a0] σ = s_Z2v (Mi cx) a0 σ := (E_fn (F := c_Z2v) (by kernel_rfl) (by kernel_rfl) _ _).trans (k_Z2v ..)
theorem u_Z2v_0 (n0 : Nat) (n1 : Nat) (z1 z3 : V) (σ : Objs) : l_Z2v_0 (Mi cx) n0 n1 [z1, z3] σ = b_Z2v_0 (Mi cx) n0 n1 (l_Z2v_0 (Mi cx) n0 n1) z1 z3 σ :=
 Qaz cx (seek (Mi cx) 52 [] [true, true, false, true] c_Z2v.body (topK c_Z2v n0)) n1 (B := fun rec vs σ => b_Z2v_0 (Mi cx) n0 n1 rec (vs.getD 0 .undef) (vs.getD 1 .undef) σ) (by kernel_rfl) (by kernel_rfl) _ _
theorem e_Z1m (a0 : V) (σ : Objs) : E cx 27 [a0] σ = s_Z1m (Mi cx) a0 σ := (E_fn (F := c_Z1m) (by kernel_rfl) (by kernel_rfl) _ _).trans (k_Z1m ..)
theorem u_Z1m_0 (n0 : Nat) (n1 : Nat) (z27 z28 z29 : V) (σ : Objs) : l_Z1m_0 (Mi cx) n0 n1 [z27, z28, z29] σ = b_Z1m_0 (Mi cx) n0 n1 (l_Z1m_0 (Mi cx) n0 n1) z27 z28 z29 σ :=
 Qaz cx (seek (Mi cx) 37 [] [true, true, false, true] c_Z1m.body (topK c_Z1m n0)) n1 (B := fun rec vs σ => b_Z1m_0 (Mi cx) n0 n1 rec (vs.getD 0 .undef) (vs.getD 1 .undef) (vs.getD 2 .undef) σ) (by kernel_rfl) (by kernel_rfl) _ _
theorem e_Z2t (a0 a1 : V) (σ : Objs) : E cx 28 [a0, a1] σ = s_Z2t (Mi cx) a0 a1 σ := (E_fn (F := c_Z2t) (by kernel_rfl) (by kernel_rfl) _ _).trans (k_Z2t ..)
theorem e_Z14 (a0 : V) (σ : Objs) : E cx 29 [a0] σ = s_Z14 (Mi cx) a0 σ := (E_fn (F := c_Z14) (by kernel_rfl) (by kernel_rfl) _ _).trans (k_Z14 ..)
theorem u_Z14_0 (n0 : Nat) (n1 : Nat) (z1 z3 z19 z20 z21 : V) (σ : Objs) : l_Z14_0 (Mi cx) n0 n1 [z1, z3, z19, z20, z21] σ = b_Z14_0 (Mi cx) n0 n1 (l_Z14_0 (Mi cx) n0 n1) z1 z3 z19 z20 z21 σ :=
 Qaz cx (seek (Mi cx) 52 [] [true, true, false, true] c_Z14.body (topK c_Z14 n0)) n1 (B := fun rec vs σ => b_Z14_0 (Mi cx) n0 n1 rec (vs.getD 0 .undef) (vs.getD 1 .undef) (vs.getD 2 .undef) (vs.getD 3 .undef) (vs.getD 4 .undef) σ) (by kernel_rfl) (by kernel_rfl) _ _
theorem e_Z13 (a0 a1 : V) (σ : Objs) : E cx 30 [a0, a1] σ = s_Z13 (Mi cx) a0 a1 σ := (E_fn (F := c_Z13) (by kernel_rfl) (by kernel_rfl) _ _).trans (k_Z13 ..)
theorem e_Zx (a0 a1 a2 : V) (σ : Objs) : E cx 31 [a0, a1, a2] σ = s_Zx (Mi cx) a0 a1 a2 σ := (E_fn (F := c_Zx) (by kernel_rfl) (by kernel_rfl) _ _).trans (k_Zx ..)
theorem e_Z6 (a0 a1 : V) (σ : Objs) : E cx 32 [a0, a1] σ = s_Z6 (Mi cx) a0 a1 σ := (E_fn (F := c_Z6) (by kernel_rfl) (by kernel_rfl) _ _).trans (k_Z6 ..)
theorem u_Z6_0 (n0 : Nat) (n1 : Nat) (z0 z4 z7 z8 z9 : V) (σ : Objs) : l_Z6_0 (Mi cx) n0 n1 [z0, z4, z7, z8, z9] σ = b_Z6_0 (Mi cx) n0 n1 (l_Z6_0 (Mi cx) n0 n1) z0 z4 z7 z8 z9 σ :=
 Qaz cx (seek (Mi cx) 21 [] [true, false, true] c_Z6.body (topK c_Z6 n0)) n1 (B := fun rec vs σ => b_Z6_0 (Mi cx) n0 n1 rec (vs.getD 0 .undef) (vs.getD 1 .undef) (vs.getD 2 .undef) (vs.getD 3 .undef) (vs.getD 4 .undef) σ) (by kernel_rfl) (by kernel_rfl) _ _
theorem e_Z2y (a0 : V) (σ : Objs) : E cx 34 [a0] σ = s_Z2y (Mi cx) a0 σ := (E_fn (F := c_Z2y) (by kernel_rfl) (by kernel_rfl) _ _).trans (k_Z2y ..)
theorem e_Z2r (a0 : V) (σ : Objs) : E cx 35 [a0] σ = s_Z2r (Mi cx) a0 σ := (E_fn (F := c_Z2r) (by kernel_rfl) (by kernel_rfl) _ _).trans (k_Z2r ..)
theorem u_Z2r_2 (n0 : Nat) (n1 : Nat) (r1 : Rk) (n2 : Nat) (r2 : Rk) (n3 : Nat) (z0 z3 z4 z5 z6 : V) (σ : Objs) : l_Z2r_2 (Mi cx) n0 n1 r1 n2 r2 n3 [z0, z3, z4, z5, z6] σ = b_Z2r_2 (Mi cx) n0 n1 r1 n2 r2 n3 (l_Z2r_2 (Mi cx) n0 n1 r1 n2 r2 n3) z0 z3 z4 z5 z6 σ :=
 Qaz cx (seek (Mi cx) 60 [(n1, r1), (n2, r2)] [true, true, false, true, true, false, true, true, false, true] c_Z2r.body (topK c_Z2r n0)) n3 (B := fun rec vs σ => b_Z2r_2 (Mi cx) n0 n1 r1 n2 r2 n3 rec (vs.getD 0 .undef) (vs.getD 1 .undef) (vs.getD 2 .undef) (vs.getD 3 .undef) (vs.getD 4 .undef) σ) (by kernel_rfl) (by kernel_rfl) _ _
theorem u_Z2r_1 (n0 : Nat) (n1 : Nat) (r1 : Rk) (n2 : Nat) (z0 z3 z4 z5 : V) (σ : Objs) : l_Z2r_1 (Mi cx) n0 n1 r1 n2 [z0, z3, z4, z5] σ = b_Z2r_1 (Mi cx) n0 n1 r1 n2 (l_Z2r_1 (Mi cx) n0 n1 r1 n2) z0 z3 z4 z5 σ :=
 Qaz cx (seek (Mi cx) 60 [(n1, r1)] [true, true, false, true, true, false, true] c_Z2r.body (topK c_Z2r n0)) n2 (B := fun rec vs σ => b_Z2r_1 (Mi cx) n0 n1 r1 n2 rec (vs.getD 0 .undef) (vs.getD 1 .undef) (vs.getD 2 .undef) (vs.getD 3 .undef) σ) (by kernel_rfl) (by kernel_rfl) _ _
theorem u_Z2r_0 (n0 : Nat) (n1 : Nat) (z0 z3 z4 : V) (σ : Objs) : l_Z2r_0 (Mi cx) n0 n1 [z0, z3, z4] σ = b_Z2r_0 (Mi cx) n0 n1 (l_Z2r_0 (Mi cx) n0 n1) z0 z3 z4 σ :=
 Qaz cx (seek (Mi cx) 60 [] [true, true, false, true] c_Z2r.body (topK c_Z2r n0)) n1 (B := fun rec vs σ => b_Z2r_0 (Mi cx) n0 n1 rec (vs.getD 0 .undef) (vs.getD 1 .undef) (vs.getD 2 .undef) σ) (by kernel_rfl) (by kernel_rfl) _ _
theorem e_Z2w (a0 a1 a2 : V) (σ : Objs) : E cx 36 [a0, a1, a2] σ = s_Z2w (Mi cx) a0 a1 a2 σ := (E_fn (F := c_Z2w) (by kernel_rfl) (by kernel_rfl) _ _).trans (k_Z2w ..)
theorem u_Z2w_2 (n0 : Nat) (n1 : Nat) (r1 : Rk) (n2 : Nat) (r2 : Rk) (n3 : Nat) (z0 z2 z4 z7 z8 z9 z10 : V) (σ : Objs) : l_Z2w_2 (Mi cx) n0 n1 r1 n2 r2 n3 [z0, z2, z4, z7, z8, z9, z10] σ = b_Z2w_2 (Mi cx) n0 n1 r1 n2 r2 n3 (l_Z2w_2 (Mi cx) n0 n1 r1 n2 r2 n3) z0 z2 z4 z7 z8 z9 z10 σ :=
 Qaz cx (seek (Mi cx) 135 [(n1, r1), (n2, r2)] [true, false, true, true, false, true, false, true, true, false, true, true] c_Z2w.body (topK c_Z2w n0)) n3 (B := fun rec vs σ => b_Z2w_2 (Mi cx) n0 n1 r1 n2 r2 n3 rec (vs.getD 0 .undef) (vs.getD 1 .undef) (vs.getD 2 .undef) (vs.getD 3 .undef) (vs.getD 4 .undef) (vs.getD 5 .undef) (vs.getD 6 .undef) σ) (by kernel_rfl) (by kernel_rfl) _ _
theorem u_Z2w_1 (n0 : Nat) (n1 : Nat) (r1 : Rk) (n2 : Nat) (z0 z2 z4 z7 z8 z9 : V) (σ : Objs) : l_Z2w_1 (Mi cx) n0 n1 r1 n2 [z0, z2, z4, z7, z8, z9] σ = b_Z2w_1 (Mi cx) n0 n1 r1 n2 (l_Z2w_1 (Mi cx) n0 n1 r1 n2) z0 z2 z4 z7 z8 z9 σ :=
 Qaz cx (seek (Mi cx) 135 [(n1, r1)] [true, false, true, true, false, true, false, true] c_Z2w.body (topK c_Z2w n0)) n2 (B := fun rec vs σ => b_Z2w_1 (Mi cx) n0 n1 r1 n2 rec (vs.getD 0 .undef) (vs.getD 1 .undef) (vs.getD 2 .undef) (vs.getD 3 .undef) (vs.getD 4 .undef) (vs.getD 5 .undef) σ) (by kernel_rfl) (by kernel_rfl) _ _
theorem u_Z2w_0 (n0 : Nat) (n1 : Nat) (z0 z2 z4 z7 : V) (σ : Objs) : l_Z2w_0 (Mi cx) n0 n1 [z0, z2, z4, z7] σ = b_Z2w_0 (Mi cx) n0 n1 (l_Z2w_0 (Mi cx) n0 n1) z0 z2 z4 z7 σ :=
 Qaz cx (seek (Mi cx) 135 [] [true, false, true] c_Z2w.body (topK c_Z2w n0)) n1 (B := fun rec vs σ => b_Z2w_0 (Mi cx) n0 n1 rec (vs.getD 0 .undef) (vs.getD 1 .undef) (vs.getD 2 .undef) (vs.getD 3 .undef) σ) (by kernel_rfl) (by kernel_rfl) _ _
theorem e_Z33 (a0 : V) (σ : Objs) : E cx 37 [a0] σ = s_Z33 (Mi cx) a0 σ := (E_fn (F := c_Z33) (by kernel_rfl) (by kernel_rfl) _ _).trans (k_Z33 ..)
theorem e_Z31 (a0 : V) (σ : Objs) : E cx 38 [a0] σ = s_Z31 (Mi cx) a0 σ := (E_fn (F := c_Z31) (by kernel_rfl) (by kernel_rfl) _ _).trans (k_Z31 ..)
theorem e_Z2u (a0 a1 : V) (σ : Objs) : E cx 39 [a0, a1] σ = s_Z2u (Mi cx) a0 a1 σ := (E_fn (F := c_Z2u) (by kernel_rfl) (by kernel_rfl) _ _).trans (k_Z2u ..)
theorem u_Z2u_0 (n0 : Nat) (n1 : Nat) (z0 z1 z5 : V) (σ : Objs) : l_Z2u_0 (Mi cx) n0 n1 [z0, z1, z5] σ = b_Z2u_0 (Mi cx) n0 n1 (l_Z2u_0 (Mi cx) n0 n1) z0 z1 z5 σ :=
 Qaz cx (seek (Mi cx) 18 [] [true, false, true] c_Z2u.body (topK c_Z2u n0)) n1 (B := fun rec vs σ => b_Z2u_0 (Mi cx) n0 n1 rec (vs.getD 0 .undef) (vs.getD 1 .undef) (vs.getD 2 .undef) σ) (by kernel_rfl) (by kernel_rfl) _ _
theorem e_Z1h (a0 a1 : V) (σ : Objs) : E cx 46 [a0, a1] σ = s_Z1h (Mi cx) a0 a1 σ := (E_fn (F := c_Z1h) (by kernel_rfl) (by kernel_rfl) _ _).trans (k_Z1h ..)
theorem e_Z30 (a0 a1 a2 : V) (σ : Objs) : E cx 49 [a0, a1, a2] σ = s_Z30 (Mi cx) a0 a1 a2 σ := (E_fn (F := c_Z30) (by kernel_rfl) (by kernel_rfl) _ _).trans (k_Z30 ..)
theorem u_Z30_2 (n0 : Nat) (n1 : Nat) (r1 : Rk) (n2 : Nat) (r2 : Rk) (n3 : Nat) (z0 z1 z2 z7 z8 z9 z10 z11 : V) (σ : Objs) : l_Z30_2 (Mi cx) n0 n1 r1 n2 r2 n3 [z0, z1, z2, z7, z8, z9, z10, z11] σ = b_Z30_2 (Mi cx) n0 n1 r1 n2 r2 n3 (l_Z30_2 (Mi cx) n0 n1 r1 n2 r2 n3) z0 z1 z2 z7 z8 z9 z10 z11 σ :=
 Qaz cx (seek (Mi cx) 114 [(n1, r1), (n2, r2)] [true, true, false, true, true, false, true, true, true, false, true, true] c_Z30.body (topK c_Z30 n0)) n3 (B := fun rec vs σ => b_Z30_2 (Mi cx) n0 n1 r1 n2 r2 n3 rec (vs.getD 0 .undef) (vs.getD 1 .undef) (vs.getD 2 .undef) (vs.getD 3 .undef) (vs.getD 4 .undef) (vs.getD 5 .undef) (vs.getD 6 .undef) (vs.getD 7 .undef) σ) (by kernel_rfl) (by kernel_rfl) _ _
theorem u_Z30_1 (n0 : Nat) (n1 : Nat) (r1 : Rk) (n2 : Nat) (z0 z1 z2 z7 z8 z9 : V) (σ : Objs) : l_Z30_1 (Mi cx) n0 n1 r1 n2 [z0, z1, z2, z7, z8, z9] σ = b_Z30_1 (Mi cx) n0 n1 r1 n2 (l_Z30_1 (Mi cx) n0 n1 r1 n2) z0 z1 z2 z7 z8 z9 σ :=
 Qaz cx (seek (Mi cx) 114 [(n1, r1)] [true, true, false, true, true, false, true, true] c_Z30.body (topK c_Z30 n0)) n2 (B := fun rec vs σ => b_Z30_1 (Mi cx) n0 n1 r1 n2 rec (vs.getD 0 .undef) (vs.getD 1 .undef) (vs.getD 2 .undef) (vs.getD 3 .undef) (vs.getD 4 .undef) (vs.getD 5 .undef) σ) (by kernel_rfl) (by kernel_rfl) _ _
theorem u_Z30_0 (n0 : Nat) (n1 : Nat) (z0 z1 z2 z7 z8 : V) (σ : Objs) : l_Z30_0 (Mi cx) n0 n1 [z0, z1, z2, z7, z8] σ = b_Z30_0 (Mi cx) n0 n1 (l_Z30_0 (Mi cx) n0 n1) z0 z1 z2 z7 z8 σ :=
 Qaz cx (seek (Mi cx) 114 [] [true, true, false, true] c_Z30.body (topK c_Z30 n0)) n1 (B := fun rec vs σ => b_Z30_0 (Mi cx) n0 n1 rec (vs.getD 0 .undef) (vs.getD 1 .undef) (vs.getD 2 .undef) (vs.getD 3 .undef) (vs.getD 4 .undef) σ) (by kernel_rfl) (by kernel_rfl) _ _
theorem e_Z1g (a0 : V) (σ : Objs) : E cx 50 [a0] σ = s_Z1g (Mi cx) a0 σ := (E_fn (F := c_Z1g) (by kernel_rfl) (by kernel_rfl) _ _).trans (k_Z1g ..)
theorem e_Z1b (a0 : V) (σ : Objs) : E cx 51 [a0] σ = s_Z1b (Mi cx) a0 σ := (E_fn (F := c_Z1b) (by kernel_rfl) (by kernel_rfl) _ _).trans (k_Z1b ..)
theorem e_Zw (a0 a1 : V) (σ : Objs) : E cx 52 [a0, a1] σ = s_Zw (Mi cx) a0 a1 σ := (E_fn (F := c_Zw) (by kernel_rfl) (by kernel_rfl) _ _).trans (k_Zw ..)
theorem e_Zp (a0 a1 a2 : V) (σ : Objs) : E cx 54 [a0, a1, a2] σ = s_Zp (Mi cx) a0 a1 a2 σ := (E_fn (F := c_Zp) (by kernel_rfl) (by kernel_rfl) _ _).trans (k_Zp ..)
theorem u_Zp_1 (n0 : Nat) (n1 : Nat) (r1 : Rk) (n2 : Nat) (z1 z2 z3 z8 z12 z13 z14 z23 z24 z25 : V) (σ : Objs) : l_Zp_1 (Mi cx) n0 n1 r1 n2 [z1, z2, z3, z8, z12, z13, z14, z23, z24, z25] σ = b_Zp_1 (Mi cx) n0 n1 r1 n2 (l_Zp_1 (Mi cx) n0 n1 r1 n2) z1 z2 z3 z8 z12 z13 z14 z23 z24 z25 σ :=
 Qaz cx (seek (Mi cx) 67 [(n1, r1)] [true, false, true, true, true, false, true, true, true] c_Zp.body (topK c_Zp n0)) n2 (B := fun rec vs σ => b_Zp_1 (Mi cx) n0 n1 r1 n2 rec (vs.getD 0 .undef) (vs.getD 1 .undef) (vs.getD 2 .undef) (vs.getD 3 .undef) (vs.getD 4 .undef) (vs.getD 5 .undef) (vs.getD 6 .undef) (vs.getD 7 .undef) (vs.getD 8 .undef) (vs.getD 9 .undef) σ) (by kernel_rfl) (by kernel_rfl) _ _
theorem u_Zp_0 (n0 : Nat) (n1 : Nat) (z1 z2 z3 z12 z13 z14 : V) (σ : Objs) : l_Zp_0 (Mi cx) n0 n1 [z1, z2, z3, z12, z13, z14] σ = b_Zp_0 (Mi cx) n0 n1 (l_Zp_0 (Mi cx) n0 n1) z1 z2 z3 z12 z13 z14 σ :=
 Qaz cx (seek (Mi cx) 67 [] [true, false, true] c_Zp.body (topK c_Zp n0)) n1 (B := fun rec vs σ => b_Zp_0 (Mi cx) n0 n1 rec (vs.getD 0 .undef) (vs.getD 1 .undef) (vs.getD 2 .undef) (vs.getD 3 .undef) (vs.getD 4 .undef) (vs.getD 5 .undef) σ) (by kernel_rfl) (by kernel_rfl) _ _
theorem e_Z5 (a0 a1 : V) (σ : Objs) : E cx 55 [a0, a1] σ = s_Z5 (Mi cx) a0 a1 σ := (E_fn (F := c_Z5) (by kernel_rfl) (by kernel_rfl) _ _).trans (k_Z5 ..)
theorem u_Z5_1 (n0 : Nat) (n1 : Nat) (r1 : Rk) (n2 : Nat) (z0 z5 z8 z15 z16 z17 z25 z26 z27 : V) (σ : Objs) : l_Z5_1 (Mi cx) n0 n1 r1 n2 [z0, z5, z8, z15, z16, z17, z25, z26, z27] σ = b_Z5_1 (Mi cx) n0 n1 r1 n2 (l_Z5_1 (Mi cx) n0 n1 r1 n2) z0 z5 z8 z15 z16 z17 z25 z26 z27 σ :=
 Qaz cx (seek (Mi cx) 84 [(n1, r1)] [true, true, false, true, true, true, false, true, true, false, true] c_Z5.body (topK c_Z5 n0)) n2 (B := fun rec vs σ => b_Z5_1 (Mi cx) n0 n1 r1 n2 rec (vs.getD 0 .undef) (vs.getD 1 .undef) (vs.getD 2 .undef) (vs.getD 3 .undef) (vs.getD 4 .undef) (vs.getD 5 .undef) (vs.getD 6 .undef) (vs.getD 7 .undef) (vs.getD 8 .undef) σ) (by kernel_rfl) (by kernel_rfl) _ _
theorem u_Z5_0 (n0 : Nat) (n1 : Nat) (z0 z5 z15 z16 z17 : V) (σ : Objs) : l_Z5_0 (Mi cx) n0 n1 [z0, z5, z15, z16, z17] σ = b_Z5_0 (Mi cx) n0 n1 (l_Z5_0 (Mi cx) n0 n1) z0 z5 z15 z16 z17 σ :=
 Qaz cx (seek (Mi cx) 84 [] [true, true, false, true] c_Z5.body (topK c_Z5 n0)) n1 (B := fun rec vs σ => b_Z5_0 (Mi cx) n0 n1 rec (vs.getD 0 .undef) (vs.getD 1 .undef) (vs.getD 2 .undef) (vs.getD 3 .undef) (vs.getD 4 .undef) σ) (by kernel_rfl) (by kernel_rfl) _ _
theorem e_Z1w (a0 : V) (σ : Objs) : E cx 56 [a0] σ = s_Z1w (Mi cx) a0 σ := (E_fn (F := c_Z1w) (by kernel_rfl) (by kernel_rfl) _ _).trans (k_Z1w ..)
theorem u_Z1w_0 (n0 : Nat) (n1 : Nat) (z0 z3 : V) (σ : Objs) : l_Z1w_0 (Mi cx) n0 n1 [z0, z3] σ = b_Z1w_0 (Mi cx) n0 n1 (l_Z1w_0 (Mi cx) n0 n1) z0 z3 σ :=
 Qaz cx (seek (Mi cx) 38 [] [true, true, false] c_Z1w.body (topK c_Z1w n0)) n1 (B := fun rec vs σ => b_Z1w_0 (Mi cx) n0 n1 rec (vs.getD 0 .undef) (vs.getD 1 .undef) σ) (by kernel_rfl) (by kernel_rfl) _ _
theorem e_Z2x (a0 a1 : V) (σ : Objs) : E cx 57 [a0, a1] σ = s_Z2x (Mi cx) a0 a1 σ := (E_fn (F := c_Z2x) (by kernel_rfl) (by kernel_rfl) _ _).trans (k_Z2x ..)
theorem e_Z1j (a0 a1 : V) (σ : Objs) : E cx 67 [a0, a1] σ = s_Z1j (Mi cx) a0 a1 σ := (E_fn (F := c_Z1j) (by kernel_rfl) (by kernel_rfl) _ _).trans (k_Z1j ..)
theorem u_Z1j_0 (n0 : Nat) (n1 : Nat) (z0 z1 z7 z8 : V) (σ : Objs) : l_Z1j_0 (Mi cx) n0 n1 [z0, z1, z7, z8] σ = b_Z1j_0 (Mi cx) n0 n1 (l_Z1j_0 (Mi cx) n0 n1) z0 z1 z7 z8 σ :=
 Qaz cx (seek (Mi cx) 19 [] [true, false, true] c_Z1j.body (topK c_Z1j n0)) n1 (B := fun rec vs σ => b_Z1j_0 (Mi cx) n0 n1 rec (vs.getD 0 .undef) (vs.getD 1 .undef) (vs.getD 2 .undef) (vs.getD 3 .undef) σ) (by kernel_rfl) (by kernel_rfl) _ _
theorem e_Zy (a0 : V) (σ : Objs) : E cx 72 [a0] σ = s_Zy (Mi cx) a0 σ := (E_fn (F := c_Zy) (by kernel_rfl) (by kernel_rfl) _ _).trans (k_Zy ..)
theorem u_Zy_0 (n0 : Nat) (n1 : Nat) (z0 z5 z6 z7 : V) (σ : Objs) : l_Zy_0 (Mi cx) n0 n1 [z0, z5, z6, z7] σ = b_Zy_0 (Mi cx) n0 n1 (l_Zy_0 (Mi cx) n0 n1) z0 z5 z6 z7 σ :=
 Qaz cx (seek (Mi cx) 16 [] [true, false, true] c_Zy.body (topK c_Zy n0)) n1 (B := fun rec vs σ => b_Zy_0 (Mi cx) n0 n1 rec (vs.getD 0 .undef) (vs.getD 1 .undef) (vs.getD 2 .undef) (vs.getD 3 .undef) σ) (by kernel_rfl) (by kernel_rfl) _ _
theorem e_Zo (a0 a1 a2 : V) (σ : Objs) : E cx 74 [a0, a1, a2] σ = s_Zo (Mi cx) a0 a1 a2 σ := (E_fn (F := c_Zo) (by kernel_rfl) (by kernel_rfl) _ _).trans (k_Zo ..)
theorem u_Zo_0 (n0 : Nat) (n1 : Nat) (z2 z3 z4 z10 z11 z12 : V) (σ : Objs) : l_Zo_0 (Mi cx) n0 n1 [z2, z3, z4, z10, z11, z12] σ = b_Zo_0 (Mi cx) n0 n1 (l_Zo_0 (Mi cx) n0 n1) z2 z3 z4 z10 z11 z12 σ :=
 Qaz cx (seek (Mi cx) 56 [] [true, false, true] c_Zo.body (topK c_Zo n0)) n1 (B := fun rec vs σ => b_Zo_0 (Mi cx) n0 n1 rec (vs.getD 0 .undef) (vs.getD 1 .undef) (vs.getD 2 .undef) (vs.getD 3 .undef) (vs.getD 4 .undef) (vs.getD 5 .undef) σ) (by kernel_rfl) (by kernel_rfl) _ _
theorem e_Z16 (a0 : V) (σ : Objs) : E cx 75 [a0] σ = s_Z16 (Mi cx) a0 σ := (E_fn (F := c_Z16) (by kernel_rfl) (by kernel_rfl) _ _).trans (k_Z16 ..)
theorem e_Z9 (a0 a1 : V) (σ : Objs) : E cx 76 [a0, a1] σ = s_Z9 (Mi cx) a0 a1 σ := (E_fn (F := c_Z9) (by kernel_rfl) (by kernel_rfl) _ _).trans (k_Z9 ..)
theorem e_Z1v (a0 a1 : V) (σ : Objs) : E cx 77 [a0, a1] σ = s_Z1v (Mi cx) a0 a1 σ := (E_fn (F := c_Z1v) (by kernel_rfl) (by kernel_rfl) _ _).trans (k_Z1v ..)
theorem u_Z1v_1 (n0 : Nat) (n1 : Nat) (z0 z1 z7 : V) (σ : Objs) : l_Z1v_1 (Mi cx) n0 n1 [z0, z1, z7] σ = b_Z1v_1 (Mi cx) n0 n1 (l_Z1v_1 (Mi cx) n0 n1) z0 z1 z7 σ :=
 Qaz cx (seek (Mi cx) 55 [] [true, true, false, true] c_Z1v.body (topK c_Z1v n0)) n1 (B := fun rec vs σ => b_Z1v_1 (Mi cx) n0 n1 rec (vs.getD 0 .undef) (vs.getD 1 .undef) (vs.getD 2 .undef) σ) (by kernel_rfl) (by kernel_rfl) _ _
theorem u_Z1v_0 (n0 : Nat) (n1 : Nat) (z0 z1 z6 : V) (σ : Objs) : l_Z1v_0 (Mi cx) n0 n1 [z0, z1, z6] σ = b_Z1v_0 (Mi cx) n0 n1 (l_Z1v_0 (Mi cx) n0 n1) z0 z1 z6 σ :=
 Qaz cx (seek (Mi cx) 55 [] [true, false, true] c_Z1v.body (topK c_Z1v n0)) n1 (B := fun rec vs σ => b_Z1v_0 (Mi cx) n0 n1 rec (vs.getD 0 .undef) (vs.getD 1 .undef) (vs.getD 2 .undef) σ) (by kernel_rfl) (by kernel_rfl) _ _
theorem e_Z24 (a0 : V) (σ : Objs) : E cx 78 [a0] σ = s_Z24 (Mi cx) a0 σ := (E_fn (F := c_Z24) (by kernel_rfl) (by kernel_rfl) _ _).trans (k_Z24 ..)
theorem e_Z32 (a0 : V) (σ : Objs) : E cx 79 [a0] σ = s_Z32 (Mi cx) a0 σ := (E_fn (F := c_Z32) (by kernel_rfl) (by kernel_rfl) _ _).trans (k_Z32 ..)
theorem e_Z35 (a0 a1 : V) (σ : Objs) : E cx 80 [a0, a1] σ = s_Z35 (Mi cx) a0 a1 σ := (E_fn (F := c_Z35) (by kernel_rfl) (by kernel_rfl) _ _).trans (k_Z35 ..)
theorem e_Z2z (a0 : V) (σ : Objs) : E cx 81 [a0] σ = s_Z2z (Mi cx) a0 σ := (E_fn (F := c_Z2z) (by kernel_rfl) (by kernel_rfl) _ _).trans (k_Z2z ..)
theorem e_Z2s (a0 : V) (σ : Objs) : E cx 82 [a0] σ = s_Z2s (Mi cx) a0 σ := (E_fn (F := c_Z2s) (by kernel_rfl) (by kernel_rfl) _ _).trans (k_Z2s ..)
theorem e_Z34 (a0 : V) (σ : Objs) : E cx 83 [a0] σ = s_Z34 (Mi cx) a0 σ := (E_fn (F := c_Z34) (by kernel_rfl) (by kernel_rfl) _ _).trans (k_Z34 ..)
theorem e_Z1z (a0 : V) (σ : Objs) : E cx 95 [a0] σ = s_Z1z (Mi cx) a0 σ := (E_fn (F := c_Z1z) (by kernel_rfl) (by kernel_rfl) _ _).trans (k_Z1z ..)
theorem e_Z1k (a0 : V) (σ : Objs) : E cx 96 [a0] σ = s_Z1k (Mi cx) a0 σ := (E_fn (F := c_Z1k) (by kernel_rfl) (by kernel_rfl) _ _).trans (k_Z1k ..)
theorem u_Z1k_1 (n0 : Nat) (n1 : Nat) (r1 : Rk) (n2 : Nat) (z0 : V) (σ : Objs) : l_Z1k_1 (Mi cx) n0 n1 r1 n2 [z0] σ = b_Z1k_1 (Mi cx) n0 n1 r1 n2 (l_Z1k_1 (Mi cx) n0 n1 r1 n2) z0 σ :=
 Qaz cx (seek (Mi cx) 188 [(n1, r1)] [true, true, false, true, true, false, true, false, true, false, true, false, true, true, false, true] c_Z1k.body (topK c_Z1k n0)) n2 (B := fun rec vs σ => b_Z1k_1 (Mi cx) n0 n1 r1 n2 rec (vs.getD 0 .undef) σ) (by kernel_rfl) (by kernel_rfl) _ _
theorem u_Z1k_0 (n0 : Nat) (n1 : Nat) (z0 : V) (σ : Objs) : l_Z1k_0 (Mi cx) n0 n1 [z0] σ = b_Z1k_0 (Mi cx) n0 n1 (l_Z1k_0 (Mi cx) n0 n1) z0 σ :=
 Qaz cx (seek (Mi cx) 188 [] [true, true, false] c_Z1k.body (topK c_Z1k n0)) n1 (B := fun rec vs σ => b_Z1k_0 (Mi cx) n0 n1 rec (vs.getD 0 .undef) σ) (by kernel_rfl) (by kernel_rfl) _ _
theorem e_Zq (a0 a1 : V) (σ : Objs) : E cx 98 [a0, a1] σ = s_Zq (Mi cx) a0 a1 σ := (E_fn (F := c_Zq) (by kernel_rfl) (by kernel_rfl) _ _).trans (k_Zq ..)
theorem e_Z3 (a0 a1 : V) (σ : Objs) : E cx 99 [a0, a1] σ = s_Z3 (Mi cx) a0 a1 σ := (E_fn (F := c_Z3) (by kernel_rfl) (by kernel_rfl) _ _).trans (k_Z3 ..)
theorem e_Z1 (a0 a1 a2 a3 : V) (σ : Objs) : E cx 100 [a0, a1, a2, a3] σ = s_Z1 (Mi cx) a0 a1 a2 a3 σ := (E_fn (F := c_Z1) (by kernel_rfl) (by kernel_rfl) _ _).trans (k_Z1 ..)
theorem e_Z8 (a0 a1 a2 : V) (σ : Objs) : E cx 102 [a0, a1, a2] σ = s_Z8 (Mi cx) a0 a1 a2 σ := (E_fn (F := c_Z8) (by kernel_rfl) (by kernel_rfl) _ _).trans (k_Z8 ..)
theorem e_Z0 (a0 a1 : V) (σ : Objs) : E cx 101 [a0, a1] σ = s_Z0 (Mi cx) a0 a1 σ := (E_fn (F := c_Z0) (by kernel_rfl) (by kernel_rfl) _ _).trans (k_Z0 ..)
theorem e_Z7 (a0 a1 : V) (σ : Objs) : E cx 103 [a0, a1] σ = s_Z7 (Mi cx) a0 a1 σ := (E_fn (F := c_Z7) (by kernel_rfl) (by kernel_rfl) _ _).trans (k_Z7 ..)
theorem u_Z7_0 (n0 : Nat) (n1 : Nat) (z4 z5 z10 z11 z12 : V) (σ : Objs) : l_Z7_0 (Mi cx) n0 n1 [z4, z5, z10, z11, z12] σ = b_Z7_0 (Mi cx) n0 n1 (l_Z7_0 (Mi cx) n0 n1) z4 z5 z10 z11 z12 σ :=
 Qaz cx (seek (Mi cx) 24 [] [true, true, false, true] c_Z7.body (topK c_Z7 n0)) n1 (B := fun rec vs σ => b_Z7_0 (Mi cx) n0 n1 rec (vs.getD 0 .undef) (vs.getD 1 .undef) (vs.getD 2 .undef) (vs.getD 3 .undef) (vs.getD 4 .undef) σ) (by kernel_rfl) (by kernel_rfl) _ _
theorem e_Z12 (a0 : V) (σ : Objs) : E cx 104 [a0] σ = s_Z12 (Mi cx) a0 σ := (E_fn (F := c_Z12) (by kernel_rfl) (by kernel_rfl) _ _).trans (k_Z12 ..)
theorem e_Z2 (a0 a1 : V) (σ : Objs) : E cx 105 [a0, a1] σ = s_Z2 (Mi cx) a0 a1 σ := (E_fn (F := c_Z2) (by kernel_rfl) (by kernel_rfl) _ _).trans (k_Z2 ..)
theorem e_Z4 (a0 : V) (σ : Objs) : E cx 106 [a0] σ = s_Z4 (Mi cx) a0 σ := (E_fn (F := c_Z4) (by kernel_rfl) (by kernel_rfl) _ _).trans (k_Z4 ..)
theorem e_Z23 (a0 : V) (σ : Objs) : E cx 107 [a0] σ = s_Z23 (Mi cx) a0 σ := (E_fn (F := c_Z23) (by kernel_rfl) (by kernel_rfl) _ _).trans (k_Z23 ..)
theorem u_Z23_0 (n0 : Nat) (n1 : Nat) (z0 z4 z5 : V) (σ : Objs) : l_Z23_0 (Mi cx) n0 n1 [z0, z4, z5] σ = b_Z23_0 (Mi cx) n0 n1 (l_Z23_0 (Mi cx) n0 n1) z0 z4 z5 σ :=
 Qaz cx (seek (Mi cx) 33 [] [true, true, true, false, true] c_Z23.body (topK c_Z23 n0)) n1 (B := fun rec vs σ => b_Z23_0 (Mi cx) n0 n1 rec (vs.getD 0 .undef) (vs.getD 1 .undef) (vs.getD 2 .undef) σ) (by kernel_rfl) (by kernel_rfl) _ _
theorem e_Z21 (a0 : V) (σ : Objs) : E cx 108 [a0] σ = s_Z21 (Mi cx) a0 σ := (E_fn (F := c_Z21) (by kernel_rfl) (by kernel_rfl) _ _).trans (k_Z21 ..)
theorem u_Z21_0 (n0 : Nat) (n1 : Nat) (z0 z3 : V) (σ : Objs) : l_Z21_0 (Mi cx) n0 n1 [z0, z3] σ = b_Z21_0 (Mi cx) n0 n1 (l_Z21_0 (Mi cx) n0 n1) z0 z3 σ :=
 Qaz cx (seek (Mi cx) 21 [] [true, false, true] c_Z21.body (topK c_Z21 n0)) n1 (B := fun rec vs σ => b_Z21_0 (Mi cx) n0 n1 rec (vs.getD 0 .undef) (vs.getD 1 .undef) σ) (by kernel_rfl) (by kernel_rfl) _ _
theorem e_Z1y (a0 : V) (σ : Objs) : E cx 109 [a0] σ = s_Z1y (Mi cx) a0 σ := (E_fn (F := c_Z1y) (by kernel_rfl) (by kernel_rfl) _ _).trans (k_Z1y ..)
theorem e_Z1l (a0 : V) (σ : Objs) : E cx 131 [a0] σ = s_Z1l (Mi cx) a0 σ := (E_fn (F := c_Z1l) (by kernel_rfl) (by kernel_rfl) _ _).trans (k_Z1l ..)
theorem e_Zv (a0 a1 : V) (σ : Objs) : E cx 132 [a0, a1] σ = s_Zv (Mi cx) a0 a1 σ := (E_fn (F := c_Zv) (by kernel_rfl) (by kernel_rfl) _ _).trans (k_Zv ..)
theorem e_Z1e (a0 a1 : V) (σ : Objs) : E cx 133 [a0, a1] σ = s_Z1e (Mi cx) a0 a1 σ := (E_fn (F := c_Z1e) (by kernel_rfl) (by kernel_rfl) _ _).trans (k_Z1e ..)
theorem e_Zq_1 (a0 : V) (σ : Objs) : E cx 134 [a0] σ = s_Zq_1 (Mi cx) a0 σ := (E_fn (F := c_Zq_1) (by kernel_rfl) (by kernel_rfl) _ _).trans (k_Zq_1 ..)
theorem e_Z1f (a0 : V) (σ : Objs) : E cx 135 [a0] σ = s_Z1f (Mi cx) a0 σ := (E_fn (F := c_Z1f) (by kernel_rfl) (by kernel_rfl) _ _).trans (k_Z1f ..)
theorem e_Z1c (a0 : V) (σ : Objs) : E cx 136 [a0] σ = s_Z1c (Mi cx) a0 σ := (E_fn (F := c_Z1c) (by kernel_rfl) (by kernel_rfl) _ _).trans (k_Z1c ..)
theorem e_Z18 (a0 : V) (σ : Objs) : E cx 137 [a0] σ = s_Z18 (Mi cx) a0 σ := (E_fn (F := c_Z18) (by kernel_rfl) (by kernel_rfl) _ _).trans (k_Z18 ..)
theorem e_Z15 (a0 : V) (σ : Objs) : E cx 138 [a0] σ = s_Z15 (Mi cx) a0 σ := (E_fn (F := c_Z15) (by kernel_rfl) (by kernel_rfl) _ _).trans (k_Z15 ..)
theorem e_Z19 (a0 : V) (σ : Objs) : E cx 139 [a0] σ = s_Z19 (Mi cx) a0 σ := (E_fn (F := c_Z19) (by kernel_rfl) (by kernel_rfl) _ _).trans (k_Z19 ..)
theorem e_Zq_2 (a0 : V) (σ : Objs) : E cx 140 [a0] σ = s_Zq_2 (Mi cx) a0 σ := (E_fn (F := c_Zq_2) (by kernel_rfl) (by kernel_rfl) _ _).trans (k_Zq_2 ..)
theorem e_Zq_3 (a0 : V) (σ : Objs) : E cx 141 [a0] σ = s_Zq_3 (Mi cx) a0 σ := (E_fn (F := c_Zq_3) (by kernel_rfl) (by kernel_rfl) _ _).trans (k_Zq_3 ..)
theorem e_Z1d (a0 : V) (σ : Objs) : E cx 142 [a0] σ = s_Z1d (Mi cx) a0 σ := (E_fn (F := c_Z1d) (by kernel_rfl) (by kernel_rfl) _ _).trans (k_Z1d ..)
theorem e_Zq_4 (a0 : V) (σ : Objs) : E cx 143 [a0] σ = s_Zq_4 (Mi cx) a0 σ := (E_fn (F := c_Zq_4) (by kernel_rfl) (by kernel_rfl) _ _).trans (k_Zq_4 ..)
theorem e_Z1a (a0 : V) (σ : Objs) : E cx 144 [a0] σ = s_Z1a (Mi cx) a0 σ := (E_fn (F := c_Z1a) (by kernel_rfl) (by kernel_rfl) _ _).trans (k_Z1a ..)
theorem e_Z17 (a0 a1 : V) (σ : Objs) : E cx 146 [a0, a1] σ = s_Z17 (Mi cx) a0 a1 σ := (E_fn (F := c_Z17) (by kernel_rfl) (by kernel_rfl) _ _).trans (k_Z17 ..)
theorem e_Z1i (a0 a1 : V) (σ : Objs) : E cx 145 [a0, a1] σ = s_Z1i (Mi cx) a0 a1 σ := (E_fn (F := c_Z1i) (by kernel_rfl) (by kernel_rfl) _ _).trans (k_Z1i ..)
theorem u_Z1i_0 (n0 : Nat) (n1 : Nat) (z0 z3 z7 z8 : V) (σ : Objs) : l_Z1i_0 (Mi cx) n0 n1 [z0, z3, z7, z8] σ = b_Z1i_0 (Mi cx) n0 n1 (l_Z1i_0 (Mi cx) n0 n1) z0 z3 z7 z8 σ :=
 Qaz cx (seek (Mi cx) 19 [] [true, false, true] c_Z1i.body (topK c_Z1i n0)) n1 (B := fun rec vs σ => b_Z1i_0 (Mi cx) n0 n1 rec (vs.getD 0 .undef) (vs.getD 1 .undef) (vs.getD 2 .undef) (vs.getD 3 .undef) σ) (by kernel_rfl) (by kernel_rfl) _ _
theorem e_Z11 (a0 : V) (σ : Objs) : E cx 147 [a0] σ = s_Z11 (Mi cx) a0 σ := (E_fn (F := c_Z11) (by kernel_rfl) (by kernel_rfl) _ _).trans (k_Z11 ..)
theorem e_Z22 (a0 a1 a2 : V) (σ : Objs) : E cx 148 [a0, a1, a2] σ = s_Z22 (Mi cx) a0 a1 a2 σ := (E_fn (F := c_Z22) (by kernel_rfl) (by kernel_rfl) _ _).trans (k_Z22 ..)
theorem u_Z22_0 (n0 : Nat) (n1 : Nat) (z1 z2 z7 : V) (σ : Objs) : l_Z22_0 (Mi cx) n0 n1 [z1, z2, z7] σ = b_Z22_0 (Mi cx) n0 n1 (l_Z22_0 (Mi cx) n0 n1) z1 z2 z7 σ :=
 Qaz cx (seek (Mi cx) 20 [] [true, true, false] c_Z22.body (topK c_Z22 n0)) n1 (B := fun rec vs σ => b_Z22_0 (Mi cx) n0 n1 rec (vs.getD 0 .undef) (vs.getD 1 .undef) (vs.getD 2 .undef) σ) (by kernel_rfl) (by kernel_rfl) _ _
end Go.Proofs.YtapnplljnpconaaGreatDoor
namespace Go.Ev
open Go
section
variable {α : Type} {f : α → V} {sz : Nat} {l m : List α} {c c' : Cap}
theorem Qwz (hf : ∀ x, (f x).cells.length = sz) (d : α) {k : IntKind} {i : Int} (h : 0 ≤ i ∧ i < l.length) : eI sz (.int k i) (.sl (l.map f) c) = some (.eptr (f (l.getD i.toNat d)).cells 0) := by
 have h3 : i.toNat < l.length := by omega
 have h4 : (l.map f).length = l.length := by simp
 have h5 : (l.map f)[i.toNat]? = some (f (l.getD i.toNat d)) := by simp [h3]
 simp only [eI, index, h4, if_pos h, Option.bind_eq_bind, Option.bind_some, h5, hf, if_true]
theorem all_map (hf : ∀ x, (f x).cells.length = sz) : (l.map f).all (fun y => decide (y.cells.length = sz)) = true := by
 rw [List.all_map]
 exact List.all_eq_true.2 fun x _ => by simp [hf]
theorem Qw0 (hf : ∀ x, (f x).cells.length = sz) {k k' : IntKind} {a b : Int} (h : 0 ≤ a ∧ a ≤ b ∧ b ≤ l.length) : Qbb sz (.sl (l.map f) c) (some (.int k a)) (some (.int k' b)) none = some (.sl (((l.drop a.toNat).take (b.toNat - a.toNat)).map f) .no) := by
 have h1 : bound (.int k' b) (l.map f).length = some b.toNat := by simp [bound]; omega
 have h2 : bound (.int k a) b.toNat = some a.toNat := by simp [bound]; omega
 have h3 : bounds (l.map f).length (some (.int k a)) (some (.int k' b)) none = some (a.toNat, b.toNat, none) := by
  simp only [bounds, Option.getD_none, h1, h2, Option.bind_eq_bind, Option.bind_some, Option.pure_def]
 simp only [Qbb, h3, Option.bind_eq_bind, Option.bind_some, all_map hf, if_true, reduceCtorEq, if_false, List.map_drop, List.map_take]
theorem Qto (hf : ∀ x, (f x).cells.length = sz) {k : IntKind} {a : Int} (h : 0 ≤ a ∧ a ≤ l.length) : Qbb sz (.sl (l.map f) c) (some (.int k a)) none none = some (.sl ((l.drop a.toNat).map f) .no) := by
 have h2 : bound (.int k a) (l.map f).length = some a.toNat := by simp [bound]; omega
 have h3 : bounds (l.map f).length (some (.int k a)) none none = some (a.toNat, (l.map f).length, none) := by
  simp only [bounds, Option.getD_none, h2, Option.bind_eq_bind, Option.bind_some, Option.pure_def]
 have h4 : ((l.map f).drop a.toNat).take ((l.map f).length - a.toNat) = (l.drop a.toNat).map f := by
  rw [List.take_of_length_le (by simp), List.map_drop]
 simp only [Qbb, h3, Option.bind_eq_bind, Option.bind_some, all_map hf, if_true, reduceCtorEq, if_false, h4]
theorem Qtp (hf : ∀ x, (f x).cells.length = sz) {k : IntKind} {b : Int} (h : 0 ≤ b ∧ b ≤ l.length) : Qbb sz (.sl (l.map f) c) none (some (.int k b)) none = some (.sl ((l.take b.toNat).map f) .no) := by
 have h2 : bound (.int k b) (l.map f).length = some b.toNat := by simp [bound]; omega
 have h3 : bounds (l.map f).length none (some (.int k b)) none = some (0, b.toNat, none) := by
  simp only [bounds, Option.getD_none, h2, Option.bind_eq_bind, Option.bind_some, Option.pure_def]
 simp only [Qbb, h3, Option.bind_eq_bind, Option.bind_some, all_map hf, if_true, reduceCtorEq, if_false, List.drop_zero, Nat.sub_zero, List.map_take]
theorem Qog {ag : Bool} (hf : ∀ x, (f x).cells.length = sz) (ho : ∀ x, Qal (f x).cells = true) (ha : ∀ x, agOk ag (f x) = true) : Qcz ag sz (l.map f) = true := by
 unfold Qcz
 rw [List.all_map]
 exact List.all_eq_true.2 fun x _ => by simp [hf, ho, ha]
theorem Qmu {ag : Bool} {bytes : Nat} {σ : Objs} (hf : ∀ x, (f x).cells.length = sz) (ho : ∀ x, Qal (f x).cells = true) (ha : ∀ x, agOk ag (f x) = true) (hc : c = .fx ∨ c = .gr sz) (hm : m ≠ []) (hl : (l.length + m.length) * bytes ≤ Qb0) :
  appV false ag sz bytes σ (.sl (l.map f) c) (.sl (m.map f) c') = some (.sl ((l ++ m).map f) (.gr sz)) := by
 have h1 := all_map (l := l) hf
 have h2 : ∃ y ys, m.map f = y :: ys := by
  match m, hm with
  | x :: m, _ => exact ⟨_, _, rfl⟩
 obtain ⟨y, ys, h2⟩ := h2
 have h3 : (l.map f).length + (y :: ys).length = l.length + m.length := by rw [← h2]; simp
 have h4 := Qog (l := m) hf ho ha
 rw [h2] at h4
 unfold appV
 simp only [Qes, Bool.false_eq_true, if_false, Qh3, Option.bind_eq_bind, Option.bind_some]
 rw [h2]
 unfold Qdi
 simp only [h4, if_true]
 rw [if_pos ⟨hc, h1, by rw [h3]; exact hl⟩, List.map_append, h2]
end
def ints (l : List Int) : List V := l.map (V.int .i64)
theorem Qz3 {l : List Int} : (ints l).length = l.length := by simp [ints]
theorem Qz4 {n : Nat} {l : List Int} : V.rbs n (ints l) = true := Qvt fun _ => rfl
theorem Qtq {l : List Int} {c : Cap} {k : IntKind} {i : Int} (h : 0 ≤ i ∧ i < l.length) : eI 1 (.int k i) (.sl (ints l) c) = some (.eptr [.int .i64 (l.getD i.toNat 0)] 0) := Qwz (f := V.int .i64) (fun _ => rfl) 0 h
theorem Qz5 {l : List Int} {c : Cap} {k k' : IntKind} {a b : Int} (h : 0 ≤ a ∧ a ≤ b ∧ b ≤ l.length) : Qbb 1 (.sl (ints l) c) (some (.int k a)) (some (.int k' b)) none = some (.sl (ints ((l.drop a.toNat).take (b.toNat - a.toNat))) .no) := Qw0 (f := V.int .i64) (fun _ => rfl) h
theorem Wef {l : List Int} {x : Int} {c c' : Cap} {σ : Objs} (hc : c = .fx ∨ c = .gr 1) (hl : (l.length + 1) * 8 ≤ Qb0) : appV false false 1 8 σ (.sl (ints l) c) (.sl [.int .i64 x] c') = some (.sl (ints (l ++ [x])) (.gr 1)) :=
 Qmu (f := V.int .i64) (m := [x]) (fun _ => rfl) (fun _ => rfl) (fun _ => rfl) hc (by simp) hl
theorem Qkb {l m : List UInt8} {c c' : Cap} {σ : Objs} (hc : c = .fx ∨ c = .gr 1) (hm : m ≠ []) (hl : l.length + m.length ≤ Qb0) : appV false false 1 1 σ (.sl (Qad l) c) (.sl (Qad m) c') = some (.sl (Qad (l ++ m)) (.gr 1)) :=
 Qmu (f := fun b : UInt8 => V.int .u8 b.toNat) (fun _ => rfl) (fun _ => rfl) (fun _ => rfl) hc hm (by simpa using hl)
theorem Qht {l : List UInt8} {c : Cap} {k k' : IntKind} {a b : Int} (h : 0 ≤ a ∧ a ≤ b ∧ b ≤ l.length) : Qbb 1 (.sl (Qad l) c) (some (.int k a)) (some (.int k' b)) none = some (.sl (Qad ((l.drop a.toNat).take (b.toNat - a.toNat))) .no) := Qw0 (f := fun b : UInt8 => V.int .u8 b.toNat) (fun _ => rfl) h
theorem Qtr {s : List UInt8} : bytesOf (Qad s) = some s := by
 induction s with
 | nil => rfl
 | cons b s ih =>
  show bytesOf (.int .u8 b.toNat :: Qad s) = _
  rw [Qi0, ih]
  simp
attribute [go_sem] Qz3 Qz4 Qtq Qz5 Wef Qkb Qht Qtr
end Go.Ev
namespace Go.Ev
open Go
inductive Sl (α : Type) where
 | nil | row (xs : List α)
def Sl.l {α : Type} : Sl α → List α
 | .nil => []
 | .row xs => xs
def vSl {α : Type} (f : α → V) : Sl α → V
 | .nil => .nils
 | .row xs => .sl (xs.map f) .no
section
variable {α : Type} {f : α → V} {s : Sl α} {sz : Nat}
theorem Qae : Qan (vSl f s) = some (.int .i64 s.l.length) := by
 cases s with
 | nil => rfl
 | row xs => show some (V.int .i64 ((xs.map f).length : Nat)) = _; rw [List.length_map]; rfl
theorem Qah : (vSl f s).ng = vSl f s := by cases s <;> rfl
theorem Qc4 : V.one (vSl f s) = true := by cases s <;> rfl
theorem Qz6 {keep : Bool} : oK keep (vSl f s) = some (vSl f s) := by cases s <;> cases keep <;> rfl
theorem Qbw : (vSl f s).cells = [vSl f s] := by cases s <;> rfl
theorem Qrz : agOk false (vSl f s) = true := by cases s <;> rfl
theorem Qoh {n : Nat} (h : ∀ x ∈ s.l, V.rb n (f x) = true) : V.rb n (vSl f s) = true := by
 cases s with
 | nil => rfl
 | row xs =>
  show V.rbs n (xs.map f) = true
  have h' : ∀ x ∈ xs, V.rb n (f x) = true := h
  clear h
  induction xs with
  | nil => rfl
  | cons x l ih => rw [List.map_cons, Qaf, h' x (List.mem_cons_self ..), ih fun y hy => h' y (List.mem_cons_of_mem _ hy)]; rfl
theorem Qav {p r : List α} {x : α} {k : IntKind} {i : Int} (h : s.l = p ++ x :: r) (hi : i = p.length) (hf : (f x).cells.length = sz) : eI sz (.int k i) (vSl f s) = some (.eptr (f x).cells 0) := by
 cases s with
 | nil => cases p <;> cases h
 | row xs =>
  have h' : xs = p ++ x :: r := h
  have h3 : 0 ≤ i ∧ i < (xs.map f).length := by rw [h']; simp; omega
  have h5 : (xs.map f)[i.toNat]? = some (f x) := by rw [h', hi]; simp
  show eI sz (.int k i) (.sl (xs.map f) .no) = _
  simp only [eI, index, if_pos h3, Option.bind_eq_bind, Option.bind_some, h5, hf, if_true]
theorem Qw1 {σ : Objs} : Qh3 σ (vSl f s) = some (s.l.map f) := by cases s <;> rfl
def Sl.take (n : Nat) : Sl α → Sl α
 | .nil => .nil
 | .row xs => .row (xs.take n)
theorem Sl.take_l {n : Nat} : (s.take n).l = s.l.take n := by cases s <;> simp [Sl.take, Sl.l]
theorem Qll (hf : ∀ x, (f x).cells.length = sz) {k : IntKind} {b : Int} (h : 0 ≤ b ∧ b ≤ s.l.length) : Qbb sz (vSl f s) none (some (.int k b)) none = some (vSl f (s.take b.toNat)) := by
 cases s with
 | nil =>
  have hb : b = 0 := by
   have h2 : b ≤ ((0 : Nat) : Int) := h.2
   omega
  subst hb
  rfl
 | row xs =>
  show Qbb sz (.sl (xs.map f) .no) none (some (.int k b)) none = some (.sl ((xs.take b.toNat).map f) .no)
  exact Qtp hf h
end
attribute [go_sem] Qae Qah Qc4 Qz6 Qbw Qrz
end Go.Ev
namespace Go.Ev
open Go
theorem Qam {α : Type} {f : α → V} {s : Sl α} {n : Nat} (h : ∀ n x, V.rb n (f x) = true) : V.rb n (vSl f s) = true := Qoh fun x _ => h n x
attribute [go_sem] Qam
structure Sm (α : Type) where
 kind : Int
 ns : Int
 pre : List UInt8
 name : List UInt8
 op : Int
 text : List UInt8
 fold : Bool
 mark : Int
 a : Int
 b : Int
 of : Sl α
structure Cp (α : Type) where
 comb : Int
 list : Sl (Sm α)
structure Co (α : Type) where
 list : Sl (Cp α)
section
variable {α : Type} (v : α → V)
@[reducible] def vSm (s : Sm α) : V := .agg [.int .i64 s.kind, .int .i64 s.ns, .str s.pre, .str s.name, .int .i64 s.op, .str s.text, .bool s.fold, .int .i64 s.mark, .int .i64 s.a, .int .i64 s.b, vSl v s.of]
@[reducible] def vCp (c : Cp α) : V := .agg [.int .i64 c.comb, vSl (vSm v) c.list]
@[reducible] def vCo (c : Co α) : V := .agg [vSl (vCp v) c.list]
variable {v}
theorem Qgp (h : ∀ n x, V.rb n (v x) = true) : ∀ n x, V.rb n (vSm v x) = true := fun n x => by
 show V.rbs n _ = true
 simp only [Qaf, Qdl, Qj8, Qj7, Qb4, Qam h, Bool.and_true]
theorem Qdg (h : ∀ n x, V.rb n (v x) = true) : ∀ n x, V.rb n (vCp v x) = true := fun n x => by
 show V.rbs n _ = true
 simp only [Qaf, Qdl, Qb4, Qam (Qgp h), Bool.and_true]
theorem Qco (h : ∀ n x, V.rb n (v x) = true) : ∀ n x, V.rb n (vCo v x) = true := fun n x => by
 show V.rbs n _ = true
 simp only [Qaf, Qb4, Qam (Qdg h), Bool.and_true]
end
def Cx : Nat → Type
 | 0 => Empty
 | n + 1 => Co (Cx n)
def vCx : (n : Nat) → Cx n → V
 | 0, x => x.elim
 | n + 1, c => vCo (vCx n) c
theorem Qdv : ∀ (k : Nat) (n : Nat) (x : Cx k), V.rb n (vCx k x) = true
 | 0, n, x => x.elim
 | k + 1, n, x => Qco (Qdv k) n x
def Bd : Nat → (k : Nat) → Sl (Cx k) → Prop
 | d, 0, s => True
 | d, k + 1, s => s.l.length ≤ 1000 ∧ ∀ c ∈ s.l, c.list.l.length ≤ 1000 ∧ ∀ x ∈ c.list.l, x.list.l.length ≤ 1000 ∧ ∀ y ∈ x.list.l, y.pre.length ≤ 100 ∧ y.name.length ≤ 100 ∧ y.text.length ≤ 100 ∧ 0 < d ∧ Bd (d - 1) k y.of
theorem Qlm {α : Type} {f : α → V} {k : Nat} : ∀ l : List α, (∀ x ∈ l, V.shp k (f x) = true) → V.shpAll k (l.map f) = true
 | [], _ => rfl
 | x :: l, h => by rw [List.map_cons, V.shpAll, h x (List.mem_cons_self ..), Qlm l fun y hy => h y (List.mem_cons_of_mem _ hy)]; rfl
theorem Qmv {α : Type} {f : α → V} {k : Nat} {s : Sl α} (h : ∀ x ∈ s.l, V.shp (k + 1) (f x) = true) (hk : k = 0 ∨ k = 2 ∨ k = 4) (hl : s.l.length ≤ 1000) : V.shp k (vSl f s) = true := by
 cases s with
 | nil => rcases hk with rfl | rfl | rfl <;> rfl
 | row xs =>
  have hl' : xs.length ≤ 1000000000 := Nat.le_trans hl (by decide)
  have h' := Qlm xs h
  rcases hk with rfl | rfl | rfl <;> (show V.shp _ (.sl _ _) = true; simp [V.shp, hl']; exact h')
theorem sl0 {α : Type} (h : α → False) : ∀ s : Sl α, s.l = []
 | .nil => rfl
 | .row [] => rfl
 | .row (x :: _) => (h x).elim
theorem Qw2 : ∀ (k d : Nat) (s : Sl (Cx k)), Bd d k s → V.shp 0 (vSl (vCx k) s) = true
 | 0, d, s, _ => by
  have e := sl0 (α := Cx 0) (fun x => Empty.elim x) s
  exact Qmv (fun x _ => x.elim) (.inl rfl) (by rw [e]; exact Nat.zero_le _)
 | k + 1, d, s, hb => by
  refine Qmv (fun x hx => ?_) (.inl rfl) hb.1
  show V.shp 1 (.agg [vSl (vCp (vCx k)) x.list]) = true
  simp only [V.shp, V.shpEach, beq_self_eq_true, if_true, Bool.and_eq_true]
  refine ⟨Qmv (fun y hy => ?_) (.inr (.inl rfl)) (hb.2 x hx).1, rfl⟩
  show V.shp 3 (.agg [.int .i64 y.comb, vSl (vSm (vCx k)) y.list]) = true
  simp [V.shp, V.shpEach]
  refine Qmv (fun z hz => ?_) (.inr (.inr rfl)) ((hb.2 x hx).2 y hy).1
  show V.shp 5 (.agg _) = true
  simp [V.shp, V.shpEach, Qw2 k (d - 1) z.of (((hb.2 x hx).2 y hy).2 z hz).2.2.2.2]
theorem Qr0 {α : Type} {f : α → V} {s : Sl α} {n : Nat} (h : ∀ x ∈ s.l, V.hh (f x) ≤ n) : V.hh (vSl f s) ≤ n + 1 ∧ (s.l = [] → V.hh (vSl f s) = 0) := by
 cases s with
 | nil => exact ⟨Nat.zero_le _, fun _ => rfl⟩
 | row xs =>
  have key : ∀ l : List α, (∀ x ∈ l, V.hh (f x) ≤ n) → V.hhs (l.map f) ≤ n := by
   intro l
   induction l with
   | nil => intro _; exact Nat.zero_le _
   | cons x l ih =>
    intro hl
    rw [List.map_cons, V.hhs]
    have := hl x (List.mem_cons_self ..)
    have := ih fun y hy => hl y (List.mem_cons_of_mem _ hy)
    omega
  have e : V.hh (vSl f (.row xs)) = if (xs.map f).isEmpty then 0 else V.hhs (xs.map f) + 1 := by
   show V.hh (.sl _ _) = _
   rw [V.hh]
  rw [e]
  refine ⟨?_, fun h0 => ?_⟩
  ·split
   ·exact Nat.zero_le _
   ·have := key xs h; omega
  ·have : xs = [] := h0
   subst this; rfl
theorem Qw3 : ∀ (k d : Nat) (s : Sl (Cx k)), Bd d k s → V.hh (vSl (vCx k) s) ≤ 3 * d + 3
 | 0, d, s, _ => by
  have e := sl0 (α := Cx 0) (fun x => Empty.elim x) s
  rw [(Qr0 (f := vCx 0) (s := s) (n := 0) (fun x _ => Empty.elim x)).2 e]
  omega
 | k + 1, d, s, hb => by
  refine (Qr0 (n := 3 * d + 2) fun x hx => ?_).1
  have e1 : V.hh (vCx (k + 1) x) = V.hh (vSl (vCp (vCx k)) x.list) := by
   show V.hh (.agg [vSl (vCp (vCx k)) x.list]) = _
   simp [V.hh, V.hhs]
  rw [e1]
  refine (Qr0 (n := 3 * d + 1) fun y hy => ?_).1
  have e2 : V.hh (vCp (vCx k) y) = V.hh (vSl (vSm (vCx k)) y.list) := by simp [V.hh, V.hhs]
  rw [e2]
  refine (Qr0 (n := 3 * d) fun z hz => ?_).1
  have e3 : V.hh (vSm (vCx k) z) = V.hh (vSl (vCx k) z.of) := by simp [V.hh, V.hhs]
  rw [e3]
  have hz := ((hb.2 x hx).2 y hy).2 z hz
  have := Qw3 k (d - 1) z.of hz.2.2.2.2
  have := hz.2.2.2.1
  omega
end Go.Ev
namespace Go.Ev
theorem Qoi {σ : Objs} {xs : List V} {c : Cap} : eC σ .bytesStrN (.sl xs c) = (bytesOf xs).map V.str := rfl
attribute [go_sem] Qoi
end Go.Ev
namespace Go.Proofs.YtapnplljnpconaaGreatDoor
open Go.Ev
set_option maxRecDepth 100000
set_option maxHeartbeats 4000000
def Qhu (n : Int) : Bool := decide (0 ≤ n) && decide (n < 1114112) && (decide (n < 55296) || decide (57343 < n))
theorem Weg (c : Int) (σ : Objs) (hσ : Wf σ) : E cx 95 [.int .i64 c] σ = some (.bool (Qhu c), σ) := by
 rw [e_Z1z]
 simp +contextual -implicitDefEqProofs (disch := first | assumption | omega | (simp -implicitDefEqProofs only [go_sem]; try omega)) only [↓reduceIte, go_sem, iP, iN, w64, w8, w32, s_Z1z, Qhu]
def putB (x : Int) : UInt8 := UInt8.ofNat x.toNat
theorem Qga {x : Int} (h : 0 ≤ x ∧ x ≤ 255) : ((putB x).toNat : Int) = x := by
 unfold putB
 rw [UInt8.toNat_ofNat']; omega
def putS (n : Int) : List UInt8 :=
 if n < 128 then [putB n]
 else if n < 2048 then [putB (192 + n / 64), putB (128 + n % 64)]
 else if n < 65536 then [putB (224 + n / 4096), putB (128 + n / 64 % 64), putB (128 + n % 64)]
 else [putB (240 + n / 262144), putB (128 + n / 4096 % 64), putB (128 + n / 64 % 64), putB (128 + n % 64)]
theorem Wkg (n : Int) (hn : 0 ≤ n ∧ n ≤ 1114111) (σ : Objs) (hσ : Wf σ) : E cx 109 [.int .i64 n] σ = some (.sl (Qad (putS n)) .no, σ) := by
 rw [e_Z1y]
 by_cases h1 : n < 128
 ·simp +contextual -implicitDefEqProofs (disch := first | assumption | omega | (simp -implicitDefEqProofs only [go_sem]; try omega)) only [↓reduceIte, go_sem, iP, iN, w64, w8, w32, s_Z1y, putS, Qad, Qga, Qmi, Qmj]
 ·by_cases h2 : n < 2048
  ·simp +contextual -implicitDefEqProofs (disch := first | assumption | omega | (simp -implicitDefEqProofs only [go_sem]; try omega)) only [↓reduceIte, go_sem, iP, iN, w64, w8, w32, s_Z1y, putS, Qad, Qga, Qmi, Qmj]
  ·by_cases h3 : n < 65536
   ·simp +contextual -implicitDefEqProofs (disch := first | assumption | omega | (simp -implicitDefEqProofs only [go_sem]; try omega)) only [↓reduceIte, go_sem, iP, iN, w64, w8, w32, s_Z1y, putS, Qad, Qga, Qmi, Qmj]
   ·simp +contextual -implicitDefEqProofs (disch := first | assumption | omega | (simp -implicitDefEqProofs only [go_sem]; try omega)) only [↓reduceIte, go_sem, iP, iN, w64, w8, w32, s_Z1y, putS, Qad, Qga, Qmi, Qmj]
theorem Qcx (s : List UInt8) : V.rb 0 (.sl (Qad s) .no) = true := Qhk
theorem Qw4 {n : Int} (h : Qhu n = true) : 0 ≤ n ∧ n ≤ 1114111 := by
 unfold Qhu at h
 simp only [Bool.and_eq_true, decide_eq_true_eq] at h
 omega
def Qmw : List UInt8 → Int → Int
 | [], n => n
 | x :: r, n => Qmw r (64 * n + x.toNat - 128)
def Qkc (k : Nat) : Int := if k = 2 then 192 else if k = 3 then 224 else if k = 4 then 240 else 0
def Qdw (b : List UInt8) : Int := Qmw b.tail ((b.getD 0 0).toNat - Qkc b.length)
theorem Qln (b : List UInt8) (hb : b.length ≤ 4) : ∀ (r p : List UInt8) (n i N : Int), b = p ++ r → i = p.length → -N ≤ n ∧ n ≤ N → (N + 3) * 64 ^ r.length ≤ 1099511627776 →
  l_Z23_0 (Mi cx) 0 0 [.sl (Qad b) .no, .int .i64 n, .int .i64 i] [] = some (.int .i64 (Qmw r n), [])
 | [], p, n, i, N, hp, hi, hn, hN => by
  have hlen : b.length = p.length := by rw [hp]; simp
  rw [u_Z23_0]
  simp +contextual -implicitDefEqProofs (disch := first | assumption | omega | (simp -implicitDefEqProofs only [go_sem]; try omega)) only [↓reduceIte, go_sem, iP, iN, w64, w8, w32, b_Z23_0, Qmw]
 | x :: r, p, n, i, N, hp, hi, hn, hN => by
  have hlen : b.length = p.length + r.length + 1 := by rw [hp]; simp; omega
  have hg : b.getD i.toNat 0 = x := by rw [hp, hi]; simp
  have hx := UInt8.toNat_lt x
  have hpow : (N + 3) * 64 ^ r.length * 64 ≤ 1099511627776 := by
   rw [List.length_cons, Int.pow_succ, ← Int.mul_assoc] at hN
   exact hN
  have hone : (1 : Int) ≤ 64 ^ r.length := Int.pow_pos (by decide)
  have hle : (N + 3) * 1 ≤ (N + 3) * 64 ^ r.length := Int.mul_le_mul_of_nonneg_left hone (by omega)
  have ih := Qln b hb r (p ++ [x]) (64 * n + x.toNat - 128) (i + 1) (64 * N + 128) (by rw [hp]; simp) (by simp; omega) (by omega) (by
   have h1 : (64 * N + 128 + 3) * 64 ^ r.length ≤ (64 * (N + 3)) * 64 ^ r.length := Int.mul_le_mul_of_nonneg_right (by omega) (by omega)
   have h2 : (64 * (N + 3)) * 64 ^ r.length = (N + 3) * 64 ^ r.length * 64 := by rw [Int.mul_comm 64 (N + 3), Int.mul_assoc, Int.mul_comm 64, ← Int.mul_assoc]
   omega)
  rw [u_Z23_0]
  simp +contextual -implicitDefEqProofs (disch := first | assumption | omega | (simp -implicitDefEqProofs only [go_sem]; try omega)) only [↓reduceIte, go_sem, iP, iN, w64, w8, w32, b_Z23_0, Qmw, hg, ih]
theorem Wbj (b : List UInt8) (hb : 1 ≤ b.length ∧ b.length ≤ 4) (σ : Objs) (hσ : Wf σ) : E cx 107 [.sl (Qad b) .no] σ = some (.int .i64 (Qdw b), σ) := by
 refine Qbv Qbm ?_ (by rw [Qaf, Qcx]; rfl) rfl σ hσ
 have hb0 := UInt8.toNat_lt (b.getD 0 0)
 have hh : 0 ≤ Qkc b.length ∧ Qkc b.length ≤ 240 := by unfold Qkc; repeat' split; all_goals omega
 have h1 : l_Z23_0 (Mi cx) 0 0 [.sl (Qad b) .no, .int .i64 ((b.getD 0 0).toNat - Qkc b.length), .int .i64 1] [] = some (.int .i64 (Qdw b), []) := by
  obtain ⟨x, r, rfl⟩ : ∃ x r, b = x :: r := by
   cases b with
   | nil => simp at hb
   | cons x r => exact ⟨x, r, rfl⟩
  refine Qln (x :: r) hb.2 r [x] _ 1 255 rfl rfl (by omega) ?_
  have : r.length ≤ 3 := by simp at hb; omega
  have h3 : r.length = 0 ∨ r.length = 1 ∨ r.length = 2 ∨ r.length = 3 := by omega
  rcases h3 with h | h | h | h <;> rw [h] <;> decide
 have h2 : eI 1 (.int .i64 b.length) (.sl [.int .i64 0, .int .i64 0, .int .i64 192, .int .i64 224, .int .i64 240] .fx) = some (.eptr [.int .i64 (Qkc b.length)] 0) := by
  have h3 : b.length = 1 ∨ b.length = 2 ∨ b.length = 3 ∨ b.length = 4 := by omega
  rcases h3 with h | h | h | h <;> rw [h] <;> rfl
 have h4 : eI 1 (.int .i64 b.length) (.sl [.int .i64 0, .int .i64 0, .int .i64 192, .int .i64 224, .int .i64 240] .no) = some (.eptr [.int .i64 (Qkc b.length)] 0) := by
  have h3 : b.length = 1 ∨ b.length = 2 ∨ b.length = 3 ∨ b.length = 4 := by omega
  rcases h3 with h | h | h | h <;> rw [h] <;> rfl
 rw [e_Z23]
 simp +contextual -implicitDefEqProofs (disch := first | assumption | omega | (simp -implicitDefEqProofs only [go_sem]; try omega)) only [↓reduceIte, go_sem, iP, iN, w64, w8, w32, s_Z23, h1, h2, h4]
def Qbz (b : List UInt8) : Bool := Qhu (Qdw b) && decide (putS (Qdw b) = b)
theorem Qmx (b : List UInt8) (hb : 1 ≤ b.length ∧ b.length ≤ 4) (σ : Objs) (hσ : Wf σ) : E cx 78 [.sl (Qad b) .no] σ = some (.bool (Qbz b), σ) := by
 have h1 := fun σ hσ => Wbj b hb σ hσ
 have h2 := fun σ hσ => Weg (Qdw b) σ hσ
 rw [e_Z24]
 unfold Qbz
 cases hr : Qhu (Qdw b) with
 | true =>
  have h3 := fun σ hσ => Wkg (Qdw b) (Qw4 hr) σ hσ
  by_cases he : putS (Qdw b) = b
  ·simp +contextual -implicitDefEqProofs (disch := first | assumption | omega | (simp -implicitDefEqProofs only [go_sem]; try omega)) only [↓reduceIte, go_sem, iP, iN, w64, w8, w32, s_Z24, h1, h2, h3, hr, he]
  ·simp +contextual -implicitDefEqProofs (disch := first | assumption | omega | (simp -implicitDefEqProofs only [go_sem]; try omega)) only [↓reduceIte, go_sem, iP, iN, w64, w8, w32, s_Z24, h1, h2, h3, hr, he]
 | false => simp +contextual -implicitDefEqProofs (disch := first | assumption | omega | (simp -implicitDefEqProofs only [go_sem]; try omega)) only [↓reduceIte, go_sem, iP, iN, w64, w8, w32, s_Z24, h1, h2, hr]
theorem Qoj (c : UInt8) : ∀ (g : Nat) (out : List UInt8) (cap : Cap) (n : Int), n = out.length + g → n ≤ 100 → (cap = .fx ∨ cap = .gr 1) →
  l_Z22_0 (Mi cx) 0 0 [.int .u8 c.toNat, .int .i64 n, .sl (Qad out) cap] [] = some (.sl (Qad (out ++ List.replicate g c)) .no, [])
 | 0, out, cap, n, hn, hl, hc => by
  rw [u_Z22_0]
  simp +contextual -implicitDefEqProofs (disch := first | assumption | omega | (simp -implicitDefEqProofs only [go_sem]; try omega)) only [↓reduceIte, go_sem, iP, iN, w64, w8, w32, b_Z22_0, List.replicate, List.append_nil]
 | g + 1, out, cap, n, hn, hl, hc => by
  have hm : Qb0 = 140737488355328 := rfl
  have hx := UInt8.toNat_lt c
  have h2 : appV false false 1 1 [] (.sl (Qad out) cap) (.sl [.int .u8 c.toNat] .no) = some (.sl (Qad (out ++ [c])) (.gr 1)) := Qkb (m := [c]) hc (by simp) (by simp; omega)
  have ih := Qoj c g (out ++ [c]) (.gr 1) n (by simp; omega) hl (.inr rfl)
  rw [List.append_assoc] at ih
  rw [u_Z22_0]
  simp +contextual -implicitDefEqProofs (disch := first | assumption | omega | (simp -implicitDefEqProofs only [go_sem]; try omega)) only [↓reduceIte, go_sem, iP, iN, w64, w8, w32, b_Z22_0, h2, ih, List.replicate_succ]
def filS (b : List UInt8) (c : UInt8) (n : Int) : List UInt8 := b ++ List.replicate (n.toNat - b.length) c
theorem Qr1 (b : List UInt8) (c : UInt8) (n : Int) (hb : 1 ≤ b.length ∧ (b.length : Int) ≤ n ∧ n ≤ 100) (σ : Objs) (hσ : Wf σ) : E cx 148 [.sl (Qad b) .no, .int .u8 c.toNat, .int .i64 n] σ = some (.sl (Qad (filS b c n)) .no, σ) := by
 refine Qbv Qbm ?_ (by rw [Qaf, Qcx]; rfl) (Qcx _) σ hσ
 have hm : Qb0 = 140737488355328 := rfl
 have h1 := Qoj c (n.toNat - b.length) b (.gr 1) n (by omega) hb.2.2 (.inr rfl)
 have h2 : ∀ σ, appV false false 1 1 σ (.sl [] .fx) (.sl (Qad b) .no) = some (.sl (Qad b) (.gr 1)) := fun σ => Qkb (l := []) (m := b) (.inl rfl) (by intro h; rw [h] at hb; simp at hb) (by simp; omega)
 rw [e_Z22]
 unfold filS
 simp +contextual -implicitDefEqProofs (disch := first | assumption | omega | (simp -implicitDefEqProofs only [go_sem]; try omega)) only [↓reduceIte, go_sem, iP, iN, w64, w8, w32, s_Z22, h1, h2]
theorem Qr2 (b : List UInt8) (c : UInt8) (n : Int) (h : (b.length : Int) ≤ n) : ((filS b c n).length : Int) = n := by
 unfold filS
 simp; omega
def begF (b : List UInt8) : Nat → Int → Bool
 | 0, s => false
 | f + 1, s => if s ≤ 4 then (if Qbz (filS b 128 s) then true else if Qbz (filS b 191 s) then true else begF b f (s + 1)) else false
def begS (b : List UInt8) : Bool := begF b 4 (b.length + 1)
theorem Qok (b : List UInt8) (hb : 1 ≤ b.length ∧ b.length ≤ 4) : ∀ (f : Nat) (s : Int), 5 - s < f → (b.length : Int) < s →
  l_Z21_0 (Mi cx) 0 0 [.sl (Qad b) .no, .int .i64 s] [] = some (.bool (begF b f s), [])
 | 0, s, hf, hs => by
  rw [u_Z21_0]
  have : ¬ s ≤ 4 := by omega
  simp +contextual -implicitDefEqProofs (disch := first | assumption | omega | (simp -implicitDefEqProofs only [go_sem]; try omega)) only [↓reduceIte, go_sem, iP, iN, w64, w8, w32, b_Z21_0, begF, this]
 | f + 1, s, hf, hs => by
  rw [u_Z21_0]
  by_cases h4 : s ≤ 4
  ·have e1 := Qr2 b 128 s (by omega)
   have e2 := Qr2 b 191 s (by omega)
   have h1 : ∀ σ, Wf σ → E cx 148 [.sl (Qad b) .no, .int .u8 128, .int .i64 s] σ = some (.sl (Qad (filS b 128 s)) .no, σ) := fun σ hσ => Qr1 b 128 s (by omega) σ hσ
   have h2 : ∀ σ, Wf σ → E cx 148 [.sl (Qad b) .no, .int .u8 191, .int .i64 s] σ = some (.sl (Qad (filS b 191 s)) .no, σ) := fun σ hσ => Qr1 b 191 s (by omega) σ hσ
   have h3 := fun σ hσ => Qmx (filS b 128 s) (by omega) σ hσ
   have h5 := fun σ hσ => Qmx (filS b 191 s) (by omega) σ hσ
   have ih := Qok b hb f (s + 1) (by omega) (by omega)
   cases c1 : Qbz (filS b 128 s) with
   | true => simp +contextual -implicitDefEqProofs (disch := first | assumption | omega | (simp -implicitDefEqProofs only [go_sem]; try omega)) only [↓reduceIte, go_sem, iP, iN, w64, w8, w32, b_Z21_0, begF, h4, h1, h3, c1]
   | false =>
    cases c2 : Qbz (filS b 191 s) with
    | true => simp +contextual -implicitDefEqProofs (disch := first | assumption | omega | (simp -implicitDefEqProofs only [go_sem]; try omega)) only [↓reduceIte, go_sem, iP, iN, w64, w8, w32, b_Z21_0, begF, h4, h1, h2, h3, h5, c1, c2]
    | false => simp +contextual -implicitDefEqProofs (disch := first | assumption | omega | (simp -implicitDefEqProofs only [go_sem]; try omega)) only [↓reduceIte, go_sem, iP, iN, w64, w8, w32, b_Z21_0, begF, h4, h1, h2, h3, h5, c1, c2, ih]
  ·simp +contextual -implicitDefEqProofs (disch := first | assumption | omega | (simp -implicitDefEqProofs only [go_sem]; try omega)) only [↓reduceIte, go_sem, iP, iN, w64, w8, w32, b_Z21_0, begF, h4]
theorem Qz7 (b : List UInt8) (hb : 1 ≤ b.length ∧ b.length ≤ 4) (σ : Objs) (hσ : Wf σ) : E cx 108 [.sl (Qad b) .no] σ = some (.bool (begS b), σ) := by
 refine Qbv Qbm ?_ (by rw [Qaf, Qcx]; rfl) rfl σ hσ
 have h1 := Qok b hb 5 (b.length + 1) (by omega) (by omega)
 have e : begF b 5 (b.length + 1) = begS b := by
  have key : ∀ (f : Nat) (s : Int), 4 - s < f → begF b (f + 1) s = begF b f s := by
   intro f
   induction f with
   | zero => intro s hs; show (if s ≤ 4 then _ else false) = false; rw [if_neg (by omega)]
   | succ f ih =>
    intro s hs
    show (if s ≤ 4 then (if Qbz (filS b 128 s) then true else if Qbz (filS b 191 s) then true else begF b (f + 1) (s + 1)) else false) = (if s ≤ 4 then (if Qbz (filS b 128 s) then true else if Qbz (filS b 191 s) then true else begF b f (s + 1)) else false)
    rw [ih (s + 1) (by omega)]
  exact key 4 _ (by omega)
 rw [e] at h1
 rw [e_Z21]
 simp +contextual -implicitDefEqProofs (disch := first | assumption | omega | (simp -implicitDefEqProofs only [go_sem]; try omega)) only [↓reduceIte, go_sem, iP, iN, w64, w8, w32, s_Z21, h1]
def cut8 (b : List UInt8) (a c : Int) : List UInt8 := (b.drop a.toNat).take (c.toNat - a.toNat)
theorem Qmy (b : List UInt8) (a c : Int) (h : 0 ≤ a ∧ a ≤ c ∧ c ≤ b.length) : ((cut8 b a c).length : Int) = c - a := by
 unfold cut8
 simp only [List.length_take, List.length_drop]; omega
def fir1 (b : List UInt8) (a : Int) : Nat → Int → Int × Int
 | 0, s => (65533, 1)
 | f + 1, s => if 1 < s then (if a + s ≤ b.length then (if begS (cut8 b a (a + s)) then (65533, s) else fir1 b a f (s - 1)) else fir1 b a f (s - 1)) else (65533, 1)
def fir0 (b : List UInt8) (a : Int) : Nat → Int → Int × Int
 | 0, s => fir1 b a 3 3
 | f + 1, s => if s ≤ 4 then (if a + s ≤ b.length then (if Qbz (cut8 b a (a + s)) then (Qdw (cut8 b a (a + s)), s) else fir0 b a f (s + 1)) else fir1 b a 3 3) else fir1 b a 3 3
def firS (b : List UInt8) (a : Int) : Int × Int := fir0 b a 4 1
theorem Qik (b : List UInt8) (hb : b.length ≤ 1000000000) (a : Int) (ha : 0 ≤ a ∧ a < b.length) : ∀ (f : Nat) (s : Int), s - 1 ≤ f → s ≤ 3 →
  l_Z1v_1 (Mi cx) 0 0 [.sl (Qad b) .no, .int .i64 a, .int .i64 s] [] = some (.tup [.int .i64 (fir1 b a f s).1, .int .i64 (fir1 b a f s).2], [])
 | 0, s, hf, hs => by
  have : ¬ 1 < s := by omega
  rw [u_Z1v_1]
  simp +contextual -implicitDefEqProofs (disch := first | assumption | omega | (simp -implicitDefEqProofs only [go_sem]; try omega)) only [↓reduceIte, go_sem, iP, iN, w64, w8, w32, b_Z1v_1, fir1, this]
 | f + 1, s, hf, hs => by
  rw [u_Z1v_1]
  by_cases c1 : 1 < s
  ·have ih := Qik b hb a ha f (s - 1) (by omega) (by omega)
   by_cases c2 : a + s ≤ b.length
   ·have hl := Qmy b a (a + s) (by omega)
    have h1 := fun σ hσ => Qz7 (cut8 b a (a + s)) (by omega) σ hσ
    have h2 : ∀ c, Qbb 1 (.sl (Qad b) c) (some (.int .i64 a)) (some (.int .i64 (a + s))) none = some (.sl (Qad (cut8 b a (a + s))) .no) := fun c => Qht (by omega)
    cases c3 : begS (cut8 b a (a + s)) with
    | true => simp +contextual -implicitDefEqProofs (disch := first | assumption | omega | (simp -implicitDefEqProofs only [go_sem]; try omega)) only [↓reduceIte, go_sem, iP, iN, w64, w8, w32, b_Z1v_1, fir1, c1, c2, c3, h1, h2]
    | false => simp +contextual -implicitDefEqProofs (disch := first | assumption | omega | (simp -implicitDefEqProofs only [go_sem]; try omega)) only [↓reduceIte, go_sem, iP, iN, w64, w8, w32, b_Z1v_1, fir1, c1, c2, c3, h1, h2, ih]
   ·simp +contextual -implicitDefEqProofs (disch := first | assumption | omega | (simp -implicitDefEqProofs only [go_sem]; try omega)) only [↓reduceIte, go_sem, iP, iN, w64, w8, w32, b_Z1v_1, fir1, c1, c2, ih]
  ·simp +contextual -implicitDefEqProofs (disch := first | assumption | omega | (simp -implicitDefEqProofs only [go_sem]; try omega)) only [↓reduceIte, go_sem, iP, iN, w64, w8, w32, b_Z1v_1, fir1, c1]
theorem Qlo (b : List UInt8) (hb : b.length ≤ 1000000000) (a : Int) (ha : 0 ≤ a ∧ a < b.length) : ∀ (f : Nat) (s : Int), 5 - s = f → 1 ≤ s →
  l_Z1v_0 (Mi cx) 0 0 [.sl (Qad b) .no, .int .i64 a, .int .i64 s] [] = some (.tup [.int .i64 (fir0 b a f s).1, .int .i64 (fir0 b a f s).2], [])
 | 0, s, hf, hs => by
  have c1 : ¬ s ≤ 4 := by omega
  have h3 := Qik b hb a ha 3 3 (by omega) (by omega)
  rw [u_Z1v_0]
  simp +contextual -implicitDefEqProofs (disch := first | assumption | omega | (simp -implicitDefEqProofs only [go_sem]; try omega)) only [↓reduceIte, go_sem, iP, iN, w64, w8, w32, b_Z1v_0, fir0, c1, h3]
 | f + 1, s, hf, hs => by
  have h3 := Qik b hb a ha 3 3 (by omega) (by omega)
  have ih := Qlo b hb a ha f (s + 1) (by omega) (by omega)
  have c1 : s ≤ 4 := by omega
  rw [u_Z1v_0]
  by_cases c2 : a + s ≤ b.length
  ·have hl := Qmy b a (a + s) (by omega)
   have h1 := fun σ hσ => Qmx (cut8 b a (a + s)) (by omega) σ hσ
   have h4 := fun σ hσ => Wbj (cut8 b a (a + s)) (by omega) σ hσ
   have h2 : ∀ c, Qbb 1 (.sl (Qad b) c) (some (.int .i64 a)) (some (.int .i64 (a + s))) none = some (.sl (Qad (cut8 b a (a + s))) .no) := fun c => Qht (by omega)
   cases c3 : Qbz (cut8 b a (a + s)) with
   | true => simp +contextual -implicitDefEqProofs (disch := first | assumption | omega | (simp -implicitDefEqProofs only [go_sem]; try omega)) only [↓reduceIte, go_sem, iP, iN, w64, w8, w32, b_Z1v_0, fir0, c1, c2, c3, h1, h2, h4]
   | false => simp +contextual -implicitDefEqProofs (disch := first | assumption | omega | (simp -implicitDefEqProofs only [go_sem]; try omega)) only [↓reduceIte, go_sem, iP, iN, w64, w8, w32, b_Z1v_0, fir0, c1, c2, c3, h1, h2, h4, ih]
  ·simp +contextual -implicitDefEqProofs (disch := first | assumption | omega | (simp -implicitDefEqProofs only [go_sem]; try omega)) only [↓reduceIte, go_sem, iP, iN, w64, w8, w32, b_Z1v_0, fir0, c1, c2, h3]
theorem Weh (b : List UInt8) (hb : b.length ≤ 1000000000) (a : Int) (ha : 0 ≤ a ∧ a < b.length) (σ : Objs) (hσ : Wf σ) : E cx 77 [.sl (Qad b) .no, .int .i64 a] σ = some (.tup [.int .i64 (firS b a).1, .int .i64 (firS b a).2], σ) := by
 refine Qbv Qbm ?_ (by rw [Qaf, Qcx]; rfl) rfl σ hσ
 have h := Qlo b hb a ha 4 1 (by omega) (by omega)
 rw [e_Z1v]
 simp +contextual -implicitDefEqProofs (disch := first | assumption | omega | (simp -implicitDefEqProofs only [go_sem]; try omega)) only [↓reduceIte, go_sem, iP, iN, w64, w8, w32, s_Z1v, h, firS]
theorem Qb8 {n : Int} {x : UInt8} (h : 0 ≤ n ∧ n ≤ 255) : putB n = x ↔ n = x.toNat := by
 constructor
 ·intro e
  have := Qga h
  rw [e] at this
  omega
 ·intro e
  have := Qga h
  exact UInt8.toNat_inj.1 (by omega)
def conB (y : UInt8) : Bool := decide (128 ≤ y.toNat) && decide (y.toNat ≤ 191)
def secB (x y : UInt8) : Bool :=
 decide ((if x.toNat = 224 then 160 else if x.toNat = 240 then 144 else 128) ≤ y.toNat) && decide (y.toNat ≤ (if x.toNat = 237 then 159 else if x.toNat = 244 then 143 else 191))
theorem Qgb {n : Int} : Qhu n = true ↔ (0 ≤ n ∧ n < 1114112 ∧ (n < 55296 ∨ 57343 < n)) := by
 unfold Qhu
 simp only [Bool.and_eq_true, Bool.or_eq_true, decide_eq_true_eq]
 constructor
 ·rintro ⟨⟨h1, h2⟩, h3⟩; exact ⟨h1, h2, h3⟩
 ·rintro ⟨h1, h2, h3⟩; exact ⟨⟨h1, h2⟩, h3⟩
theorem Qd7 {y : UInt8} : conB y = true ↔ 128 ≤ y.toNat ∧ y.toNat ≤ 191 := by
 unfold conB
 simp only [Bool.and_eq_true, decide_eq_true_eq]
theorem Qjg {x y : UInt8} : secB x y = true ↔ (if x.toNat = 224 then 160 else if x.toNat = 240 then 144 else 128) ≤ y.toNat ∧ y.toNat ≤ (if x.toNat = 237 then 159 else if x.toNat = 244 then 143 else 191) := by
 unfold secB
 simp only [Bool.and_eq_true, decide_eq_true_eq]
theorem Qen {b : List UInt8} : Qbz b = true ↔ Qhu (Qdw b) = true ∧ putS (Qdw b) = b := by
 unfold Qbz
 simp only [Bool.and_eq_true, decide_eq_true_eq]
theorem Whp (x : UInt8) : Qdw [x] = x.toNat := by
 unfold Qdw Qkc
 simp [Qmw]
theorem Wkh (x y : UInt8) : Qdw [x, y] = 64 * (x.toNat - 192) + y.toNat - 128 := by
 unfold Qdw Qkc
 simp [Qmw]
theorem Wki (x y z : UInt8) : Qdw [x, y, z] = 64 * (64 * (x.toNat - 224) + y.toNat - 128) + z.toNat - 128 := by
 unfold Qdw Qkc
 simp [Qmw]
theorem Wkj (x y z t : UInt8) : Qdw [x, y, z, t] = 64 * (64 * (64 * (x.toNat - 240) + y.toNat - 128) + z.toNat - 128) + t.toNat - 128 := by
 unfold Qdw Qkc
 simp [Qmw]
theorem Wkk {a x : UInt8} : [a] = [x] ↔ a = x := by simp
theorem Whq (x : UInt8) : Qbz [x] = true ↔ x.toNat < 128 := by
 have hx := UInt8.toNat_lt x
 rw [Qen, Whp, Qgb]
 unfold putS
 constructor
 ·rintro ⟨h1, h2⟩
  split at h2
  ·omega
  ·split at h2
   ·simp at h2
   ·split at h2 <;> simp at h2
 ·intro h
  refine ⟨by omega, ?_⟩
  rw [if_pos (by omega), Wkk, Qb8 (by omega)]
theorem Whr (x y : UInt8) : Qbz [x, y] = true ↔ 194 ≤ x.toNat ∧ x.toNat ≤ 223 ∧ conB y = true := by
 have hx := UInt8.toNat_lt x
 have hy := UInt8.toNat_lt y
 rw [Qen, Wkh, Qgb, Qd7]
 generalize hn : (64 * ((x.toNat : Int) - 192) + y.toNat - 128) = n
 unfold putS
 constructor
 ·rintro ⟨h1, h2⟩
  split at h2
  ·simp at h2
  ·split at h2
   ·simp only [List.cons.injEq, and_true] at h2
    rw [Qb8 (by omega), Qb8 (by omega)] at h2
    omega
   ·split at h2 <;> simp at h2
 ·intro h
  refine ⟨by omega, ?_⟩
  rw [if_neg (by omega), if_pos (by omega)]
  simp only [List.cons.injEq, and_true]
  rw [Qb8 (by omega), Qb8 (by omega)]
  omega
theorem Whs (x y z : UInt8) : Qbz [x, y, z] = true ↔ 224 ≤ x.toNat ∧ x.toNat ≤ 239 ∧ secB x y = true ∧ conB z = true := by
 have hx := UInt8.toNat_lt x
 have hy := UInt8.toNat_lt y
 have hz := UInt8.toNat_lt z
 rw [Qen, Wki, Qgb, Qd7, Qjg]
 generalize hn : (64 * (64 * ((x.toNat : Int) - 224) + y.toNat - 128) + z.toNat - 128) = n
 unfold putS
 constructor
 ·rintro ⟨h1, h2⟩
  split at h2
  ·simp at h2
  ·split at h2
   ·simp at h2
   ·split at h2
    ·simp only [List.cons.injEq, and_true] at h2
     rw [Qb8 (by omega), Qb8 (by omega), Qb8 (by omega)] at h2
     refine ⟨by omega, by omega, ⟨?_, ?_⟩, by omega⟩ <;> (repeat' split) <;> omega
    ·simp at h2
 ·rintro ⟨h1, h2, h3, h4⟩
  have hs : (x.toNat = 224 → 160 ≤ y.toNat) ∧ (x.toNat = 237 → y.toNat ≤ 159) ∧ 128 ≤ y.toNat ∧ y.toNat ≤ 191 := by
   refine ⟨fun e => ?_, fun e => ?_, ?_, ?_⟩
   ·have := h3.1; rw [if_pos e] at this; exact this
   ·have := h3.2; rw [if_pos e] at this; exact this
   ·have := h3.1; split at this <;> first | omega | (split at this <;> omega)
   ·have := h3.2; split at this <;> first | omega | (split at this <;> omega)
  refine ⟨by omega, ?_⟩
  rw [if_neg (by omega), if_neg (by omega), if_pos (by omega)]
  simp only [List.cons.injEq, and_true]
  rw [Qb8 (by omega), Qb8 (by omega), Qb8 (by omega)]
  omega
theorem Wht (x y z t : UInt8) : Qbz [x, y, z, t] = true ↔ 240 ≤ x.toNat ∧ x.toNat ≤ 244 ∧ secB x y = true ∧ conB z = true ∧ conB t = true := by
 have hx := UInt8.toNat_lt x
 have hy := UInt8.toNat_lt y
 have hz := UInt8.toNat_lt z
 have ht := UInt8.toNat_lt t
 rw [Qen, Wkj, Qgb, Qd7, Qd7, Qjg]
 generalize hn : (64 * (64 * (64 * ((x.toNat : Int) - 240) + y.toNat - 128) + z.toNat - 128) + t.toNat - 128) = n
 unfold putS
 constructor
 ·rintro ⟨h1, h2⟩
  split at h2
  ·simp at h2
  ·split at h2
   ·simp at h2
   ·split at h2
    ·simp at h2
    ·simp only [List.cons.injEq, and_true] at h2
     rw [Qb8 (by omega), Qb8 (by omega), Qb8 (by omega), Qb8 (by omega)] at h2
     refine ⟨by omega, by omega, ⟨?_, ?_⟩, by omega, by omega⟩ <;> (repeat' split) <;> omega
 ·rintro ⟨h1, h2, h3, h4, h5⟩
  have hs : (x.toNat = 240 → 144 ≤ y.toNat) ∧ (x.toNat = 244 → y.toNat ≤ 143) ∧ 128 ≤ y.toNat ∧ y.toNat ≤ 191 := by
   refine ⟨fun e => ?_, fun e => ?_, ?_, ?_⟩
   ·have := h3.1; rw [if_neg (by omega), if_pos e] at this; exact this
   ·have := h3.2; rw [if_neg (by omega), if_pos e] at this; exact this
   ·have := h3.1; split at this <;> first | omega | (split at this <;> omega)
   ·have := h3.2; split at this <;> first | omega | (split at this <;> omega)
  refine ⟨by omega, ?_⟩
  rw [if_neg (by omega), if_neg (by omega), if_neg (by omega)]
  simp only [List.cons.injEq, and_true]
  rw [Qb8 (by omega), Qb8 (by omega), Qb8 (by omega), Qb8 (by omega)]
  omega
end Go.Proofs.YtapnplljnpconaaGreatDoor
namespace Go.Proofs.YtapnplljnpconaaGreatDoor
open Go.Ev
set_option maxRecDepth 100000
set_option maxHeartbeats 4000000
def nxB : List UInt8 → Option Nat
 | [] => none
 | x :: r =>
  if x.toNat < 128 then some 1
  else if 194 ≤ x.toNat ∧ x.toNat ≤ 223 then (match r with | y :: _ => if conB y then some 2 else none | [] => none)
  else if 224 ≤ x.toNat ∧ x.toNat ≤ 239 then (match r with | y :: z :: _ => if secB x y && conB z then some 3 else none | _ => none)
  else if 240 ≤ x.toNat ∧ x.toNat ≤ 244 then (match r with | y :: z :: t :: _ => if secB x y && conB z && conB t then some 4 else none | _ => none)
  else none
theorem Qck (x : UInt8) (r : List UInt8) : nxB (x :: r) =
  if x.toNat < 128 then some 1
  else if 194 ≤ x.toNat ∧ x.toNat ≤ 223 then (match r with | y :: _ => if conB y then some 2 else none | [] => none)
  else if 224 ≤ x.toNat ∧ x.toNat ≤ 239 then (match r with | y :: z :: _ => if secB x y && conB z then some 3 else none | _ => none)
  else if 240 ≤ x.toNat ∧ x.toNat ≤ 244 then (match r with | y :: z :: t :: _ => if secB x y && conB z && conB t then some 4 else none | _ => none)
  else none := rfl
theorem Qw5 {r : List UInt8} {k : Nat} (h : nxB r = some k) : 1 ≤ k ∧ k ≤ 4 ∧ k ≤ r.length := by
 unfold nxB at h
 split at h
 ·cases h
 ·split at h
  ·cases h; simp
  ·split at h
   ·split at h
    ·split at h
     ·cases h; simp
     ·cases h
    ·cases h
   ·split at h
    ·split at h
     ·split at h
      ·cases h; simp
      ·cases h
     ·cases h
    ·split at h
     ·split at h
      ·split at h
       ·cases h; simp
       ·cases h
      ·cases h
     ·cases h
theorem nx1 (x : UInt8) (r : List UInt8) : Qbz [x] = true ↔ nxB (x :: r) = some 1 := by
 rw [Whq]
 constructor
 ·intro h; rw [Qck, if_pos h]
 ·intro h
  rw [Qck] at h
  split at h
  ·assumption
  ·exfalso
   split at h
   ·split at h
    ·split at h <;> cases h
    ·cases h
   ·split at h
    ·split at h
     ·split at h <;> cases h
     ·cases h
    ·split at h
     ·split at h
      ·split at h <;> cases h
      ·cases h
     ·cases h
theorem nx2 (x y : UInt8) (r : List UInt8) : Qbz [x, y] = true ↔ nxB (x :: y :: r) = some 2 := by
 rw [Whr]
 constructor
 ·rintro ⟨h1, h2, h3⟩; rw [Qck, if_neg (by omega), if_pos ⟨h1, h2⟩]; simp only [h3, if_true]
 ·intro h
  rw [Qck] at h
  split at h
  ·cases h
  ·split at h
   ·rename_i h1
    simp only at h
    split at h
    ·exact ⟨h1.1, h1.2, by assumption⟩
    ·cases h
   ·exfalso
    split at h
    ·split at h
     ·split at h <;> cases h
     ·cases h
    ·split at h
     ·split at h
      ·split at h <;> cases h
      ·cases h
     ·cases h
theorem nx3 (x y z : UInt8) (r : List UInt8) : Qbz [x, y, z] = true ↔ nxB (x :: y :: z :: r) = some 3 := by
 rw [Whs]
 constructor
 ·rintro ⟨h1, h2, h3, h4⟩; rw [Qck, if_neg (by omega), if_neg (by omega), if_pos ⟨h1, h2⟩]; simp only [h3, h4, Bool.and_true, if_true]
 ·intro h
  rw [Qck] at h
  split at h
  ·cases h
  ·split at h
   ·exfalso
    simp only at h
    split at h <;> cases h
   ·split at h
    ·rename_i h1
     simp only at h
     split at h
     ·rename_i h2
      simp only [Bool.and_eq_true] at h2
      exact ⟨h1.1, h1.2, h2.1, h2.2⟩
     ·cases h
    ·exfalso
     split at h
     ·split at h
      ·split at h <;> cases h
      ·cases h
     ·cases h
theorem nx4 (x y z t : UInt8) (r : List UInt8) : Qbz [x, y, z, t] = true ↔ nxB (x :: y :: z :: t :: r) = some 4 := by
 rw [Wht]
 constructor
 ·rintro ⟨h1, h2, h3, h4, h5⟩; rw [Qck, if_neg (by omega), if_neg (by omega), if_neg (by omega), if_pos ⟨h1, h2⟩]; simp only [h3, h4, h5, Bool.and_true, if_true]
 ·intro h
  rw [Qck] at h
  split at h
  ·cases h
  ·split at h
   ·exfalso
    simp only at h
    split at h <;> cases h
   ·split at h
    ·exfalso
     simp only at h
     split at h <;> cases h
    ·split at h
     ·rename_i h1
      simp only at h
      split at h
      ·rename_i h2
       simp only [Bool.and_eq_true] at h2
       exact ⟨h1.1, h1.2, h2.1.1, h2.1.2, h2.2⟩
      ·cases h
     ·cases h
theorem Qhv (r : List UInt8) (k : Nat) (h1 : 1 ≤ k) (h4 : k ≤ 4) (hk : k ≤ r.length) : Qbz (r.take k) = true ↔ nxB r = some k := by
 match k, h1, h4, r, hk with
 | 1, _, _, x :: r, _ => exact nx1 x r
 | 2, _, _, x :: y :: r, _ => exact nx2 x y r
 | 3, _, _, x :: y :: z :: r, _ => exact nx3 x y z r
 | 4, _, _, x :: y :: z :: t :: r, _ => exact nx4 x y z t r
 | 1, _, _, [], h => simp at h
 | 2, _, _, [], h => simp at h
 | 2, _, _, [_], h => simp at h
 | 3, _, _, [], h => simp at h
 | 3, _, _, [_], h => simp at h
 | 3, _, _, [_, _], h => simp at h
 | 4, _, _, [], h => simp at h
 | 4, _, _, [_], h => simp at h
 | 4, _, _, [_, _], h => simp at h
 | 4, _, _, [_, _, _], h => simp at h
 | k + 5, _, h, _, _ => omega
theorem Qjh (b : List UInt8) (a : Int) (k : Int) (ha : 0 ≤ a) (hk : 0 ≤ k) : cut8 b a (a + k) = (b.drop a.toNat).take k.toNat := by
 unfold cut8
 congr 1
 omega
def Wei (b : List UInt8) (a : Int) (p : Int × Int) : Prop :=
 1 ≤ p.2 ∧ p.2 ≤ 4 ∧ a + p.2 ≤ b.length ∧ ((nxB (b.drop a.toNat) = some p.2.toNat ∧ p.1 = Qdw ((b.drop a.toNat).take p.2.toNat)) ∨ (nxB (b.drop a.toNat) = none ∧ p.1 = 65533))
section
variable (b : List UInt8) (a : Int) (ha : 0 ≤ a ∧ a < b.length)
include ha
theorem Qhw (hn : nxB (b.drop a.toNat) = none) : ∀ (f : Nat) (s : Int), s ≤ 4 → Wei b a (fir1 b a f s)
 | 0, s, hs => ⟨by show (1 : Int) ≤ 1; decide, by show (1 : Int) ≤ 4; decide, by show a + 1 ≤ _; omega, .inr ⟨hn, rfl⟩⟩
 | f + 1, s, hs => by
  unfold fir1
  split
  ·split
   ·split
    ·exact ⟨by show 1 ≤ s; omega, hs, by show a + s ≤ _; omega, .inr ⟨hn, rfl⟩⟩
    ·exact Qhw hn f (s - 1) (by omega)
   ·exact Qhw hn f (s - 1) (by omega)
  ·exact ⟨by decide, by decide, by show a + 1 ≤ _; omega, .inr ⟨hn, rfl⟩⟩
theorem Qw6 (h : ∀ j : Int, 1 ≤ j → j ≤ 4 → a + j ≤ b.length → Qbz (cut8 b a (a + j)) = false) : nxB (b.drop a.toNat) = none := by
 cases hx : nxB (b.drop a.toNat) with
 | none => rfl
 | some k =>
  have hl := Qw5 hx
  have h2 := (Qhv _ k hl.1 hl.2.1 hl.2.2).2 hx
  rw [List.length_drop] at hl
  have h3 := h k (by omega) (by omega) (by omega)
  rw [Qjh b a k ha.1 (by omega), Int.toNat_natCast, h2] at h3
  cases h3
theorem Qol : ∀ (f : Nat) (s : Int), 5 - s = f → 1 ≤ s → (∀ j : Int, 1 ≤ j → j < s → a + j ≤ b.length → Qbz (cut8 b a (a + j)) = false) → Wei b a (fir0 b a f s)
 | 0, s, hf, hs, hp => by
  unfold fir0
  exact Qhw b a ha (Qw6 b a ha fun j h1 h2 h3 => hp j h1 (by omega) h3) 3 3 (by omega)
 | f + 1, s, hf, hs, hp => by
  unfold fir0
  rw [if_pos (by omega)]
  by_cases c2 : a + s ≤ b.length
  ·rw [if_pos c2]
   cases c3 : Qbz (cut8 b a (a + s)) with
   | true =>
    rw [if_pos rfl]
    refine ⟨hs, by show s ≤ 4; omega, c2, .inl ⟨?_, ?_⟩⟩
    ·rw [Qjh b a s ha.1 (by omega)] at c3
     exact (Qhv _ s.toNat (by omega) (by omega) (by rw [List.length_drop]; omega)).1 c3
    ·show Qdw _ = _
     rw [Qjh b a s ha.1 (by omega)]
   | false =>
    rw [if_neg (by decide)]
    refine Qol f (s + 1) (by omega) (by omega) fun j h1 h2 h3 => ?_
    by_cases e : j = s
    ·rw [e]; exact c3
    ·exact hp j h1 (by omega) h3
  ·rw [if_neg c2]
   refine Qhw b a ha (Qw6 b a ha fun j h1 h2 h3 => ?_) 3 3 (by omega)
   exact hp j h1 (by omega) h3
theorem Qw7 : Wei b a (firS b a) := Qol b a ha 4 1 (by omega) (by omega) fun j h1 h2 => by omega
end
def Qdh : Nat → List UInt8 → Bool
 | 0, r => true
 | f + 1, r => if r.isEmpty then true else match nxB r with | none => false | some k => Qdh f (r.drop k)
def Qk1 : Nat → List UInt8 → Bool
 | 0, r => true
 | f + 1, r => if r.isEmpty then true else if r.headD 0 = 0 then false else match nxB r with | none => false | some k => Qk1 f (r.drop k)
def nozB (b : List UInt8) : Bool := b.all fun x => decide (x ≠ 0)
def Qd1 (b : List UInt8) : Bool := nozB b && Qdh b.length b
theorem Qr3 {y : UInt8} (h : conB y = true) : decide (y ≠ 0) = true := by
 have := Qd7.1 h
 rw [decide_eq_true_eq]
 rintro rfl
 exact absurd this.1 (by decide)
theorem Wbk {x y : UInt8} (h : secB x y = true) : decide (y ≠ 0) = true := by
 have := (Qjg.1 h).1
 rw [decide_eq_true_eq]
 rintro rfl
 revert this
 split
 ·intro h; exact absurd h (by decide)
 ·split
  ·intro h; exact absurd h (by decide)
  ·intro h; exact absurd h (by decide)
theorem Wkl {x : UInt8} (h : ¬ x.toNat < 128) : decide (x ≠ 0) = true := by
 rw [decide_eq_true_eq]
 rintro rfl
 exact h (by decide)
theorem Qz8 {r : List UInt8} {k : Nat} (h : nxB r = some k) : nozB r = (decide (r.headD 0 ≠ 0) && nozB (r.drop k)) := by
 unfold nxB at h
 split at h
 ·cases h
 ·rename_i x r
  show (decide (x ≠ 0) && nozB r) = _
  split at h
  ·cases h; rfl
  ·rename_i hx
   have hxx := Wkl hx
   show (decide (x ≠ 0) && nozB r) = (decide (x ≠ 0) && _)
   rw [hxx, Bool.true_and, Bool.true_and]
   split at h
   ·split at h
    ·split at h
     ·rename_i y r' hy
      cases h
      show (decide (y ≠ 0) && nozB r') = nozB r'
      rw [Qr3 hy, Bool.true_and]
     ·cases h
    ·cases h
   ·split at h
    ·split at h
     ·split at h
      ·rename_i y z r' hy
       cases h
       simp only [Bool.and_eq_true] at hy
       show (decide (y ≠ 0) && (decide (z ≠ 0) && nozB r')) = nozB r'
       rw [Wbk hy.1, Qr3 hy.2, Bool.true_and, Bool.true_and]
      ·cases h
     ·cases h
    ·split at h
     ·split at h
      ·split at h
       ·rename_i y z t r' hy
        cases h
        simp only [Bool.and_eq_true] at hy
        show (decide (y ≠ 0) && (decide (z ≠ 0) && (decide (t ≠ 0) && nozB r'))) = nozB r'
        rw [Wbk hy.1.1, Qr3 hy.1.2, Qr3 hy.2, Bool.true_and, Bool.true_and, Bool.true_and]
       ·cases h
      ·cases h
     ·cases h
theorem Qr4 : ∀ (f : Nat) (r : List UInt8), r.length ≤ f → Qk1 f r = (nozB r && Qdh f r)
 | 0, r, h => by
  have : r = [] := List.length_eq_zero_iff.1 (by omega)
  subst this
  rfl
 | f + 1, r, h => by
  unfold Qk1 Qdh
  cases r with
  | nil => rfl
  | cons x r =>
   show (if (x :: r).headD 0 = 0 then false else match nxB (x :: r) with | none => false | some k => Qk1 f ((x :: r).drop k)) = (nozB (x :: r) && match nxB (x :: r) with | none => false | some k => Qdh f ((x :: r).drop k))
   cases hn : nxB (x :: r) with
   | none =>
    simp only [Bool.and_false]
    split <;> rfl
   | some k =>
    have hl := Qw5 hn
    simp only
    rw [Qz8 hn, Qr4 f _ (by rw [List.length_drop, List.length_cons]; simp at h; omega)]
    by_cases hx : (x :: r).headD 0 = 0
    ·rw [if_pos hx]; simp only [hx]; rfl
    ·rw [if_neg hx]; simp only [ne_eq, hx, not_false_eq_true, decide_true, Bool.true_and]
theorem Qmz : ∀ (f : Nat) (r : List UInt8), r.length ≤ f → Qdh (f + 1) r = Qdh f r
 | 0, r, h => by
  have : r = [] := List.length_eq_zero_iff.1 (by omega)
  subst this
  rfl
 | f + 1, r, h => by
  show (if r.isEmpty then true else match nxB r with | none => false | some k => Qdh (f + 1) (r.drop k)) = (if r.isEmpty then true else match nxB r with | none => false | some k => Qdh f (r.drop k))
  split
  ·rfl
  ·cases hn : nxB r with
   | none => rfl
   | some k =>
    have hl := Qw5 hn
    exact Qmz f _ (by rw [List.length_drop]; omega)
theorem Qlp : ∀ (d f : Nat) (r : List UInt8), r.length ≤ f → Qdh (f + d) r = Qdh f r
 | 0, f, r, h => rfl
 | d + 1, f, r, h => by rw [show f + (d + 1) = (f + d) + 1 by omega, Qmz _ _ (by omega), Qlp d f r h]
theorem Qw8 (f : Nat) (r : List UInt8) (h : r.length ≤ f) : Qdh f r = Qdh r.length r := by
 obtain ⟨d, rfl⟩ := Nat.exists_eq_add_of_le h
 exact Qlp d _ _ (Nat.le_refl _)
theorem Qil {r : List UInt8} (h : r ≠ []) : Qdh r.length r = match nxB r with | none => false | some k => Qdh (r.drop k).length (r.drop k) := by
 cases r with
 | nil => exact absurd rfl h
 | cons x r =>
  show (if (x :: r).isEmpty then true else match nxB (x :: r) with | none => false | some k => Qdh r.length ((x :: r).drop k)) = _
  rw [if_neg (by simp)]
  cases hn : nxB (x :: r) with
  | none => rfl
  | some k =>
   have hl := Qw5 hn
   simp only
   exact Qw8 _ _ (by rw [List.length_drop, List.length_cons]; omega)
theorem Wej {r : List UInt8} {k : Nat} (h : nxB r = some k) : (Qdw (r.take k) = 0 ↔ (r.headD 0 = 0)) := by
 have hl := Qw5 h
 have hw := (Qhv r k hl.1 hl.2.1 hl.2.2).2 h
 rw [Qen] at hw
 match r, hl with
 | x :: r, hl =>
  show _ ↔ x = 0
  by_cases hk : k = 1
  ·subst hk
   show Qdw [x] = 0 ↔ _
   rw [Whp]
   constructor
   ·intro e; apply UInt8.toNat_inj.1; show x.toNat = 0; omega
   ·intro e; rw [e]; rfl
  ·constructor
   ·intro e
    rw [e] at hw
    exfalso
    have h2 : (putS 0).length = ((x :: r).take k).length := by rw [hw.2]
    rw [List.length_take] at h2
    have h3 : (putS 0).length = 1 := rfl
    have : min k (x :: r).length = 1 := by omega
    omega
   ·intro e
    exfalso
    subst e
    have : nxB (0 :: r) = some 1 := by rw [Qck, if_pos (by decide)]
    rw [this] at h
    cases h
    exact hk rfl
theorem Whu {r : List UInt8} (h : nxB r = none) (k : Nat) (h1 : 1 ≤ k) (h4 : k ≤ 4) (hk : k ≤ r.length) : Qbz (r.take k) = false := by
 cases hw : Qbz (r.take k) with
 | false => rfl
 | true => rw [(Qhv r k h1 h4 hk).1 hw] at h; cases h
theorem Qlq (b : List UInt8) (hb : b.length ≤ 1000000000) : ∀ (f : Nat) (a : Int), 0 ≤ a ∧ a ≤ b.length → b.length - a < f →
  l_Z1w_0 (Mi cx) 0 0 [.sl (Qad b) .no, .int .i64 a] [] = some (.bool (Qk1 f (b.drop a.toNat)), [])
 | 0, a, ha, hf => by omega
 | f + 1, a, ha, hf => by
  rw [u_Z1w_0]
  by_cases c1 : a < b.length
  ·have hs := Qw7 b a ⟨ha.1, c1⟩
   have h1 := fun σ hσ => Weh b hb a ⟨ha.1, c1⟩ σ hσ
   have hl : (b.drop a.toNat).length = b.length - a.toNat := List.length_drop ..
   have hne : (b.drop a.toNat).isEmpty = false := by
    cases hq : b.drop a.toNat with
    | nil => rw [hq] at hl; simp at hl; omega
    | cons x r => rfl
   have hhd : (b.drop a.toNat).headD 0 = b.getD a.toNat 0 := by
    rw [List.headD_eq_head?_getD, List.head?_drop, List.getD_eq_getElem?_getD]
   generalize hp : firS b a = p at hs h1
   obtain ⟨n, s⟩ := p
   obtain ⟨g1, g2, g3, g4⟩ := hs
   simp only at g1 g2 g3 g4 h1
   have hcut := Qjh b a s ha.1 (by omega)
   have h2 : ∀ c, Qbb 1 (.sl (Qad b) c) (some (.int .i64 a)) (some (.int .i64 (a + s))) none = some (.sl (Qad (cut8 b a (a + s))) .no) := fun c => Qht (by omega)
   have hcl := Qmy b a (a + s) (by omega)
   have h3 := fun σ hσ => Qmx (cut8 b a (a + s)) (by omega) σ hσ
   have e0 : Qk1 (f + 1) (b.drop a.toNat) = if b.getD a.toNat 0 = 0 then false else match nxB (b.drop a.toNat) with | none => false | some k => Qk1 f ((b.drop a.toNat).drop k) := by
    show (if (b.drop a.toNat).isEmpty then true else if (b.drop a.toNat).headD 0 = 0 then false else _) = _
    rw [hne, hhd]
    rfl
   rw [e0]
   by_cases c2 : b.getD a.toNat 0 = 0
   ·have c3 : ((b.getD a.toNat 0).toNat : Int) = 0 := by rw [c2]; rfl
    rw [if_pos c2]
    simp +contextual -implicitDefEqProofs (disch := first | assumption | omega | (simp -implicitDefEqProofs only [go_sem]; try omega)) only [↓reduceIte, go_sem, iP, iN, w64, w8, w32, b_Z1w_0, h1, c1, c3]
   ·have c3 : ¬ ((b.getD a.toNat 0).toNat : Int) = 0 := fun e => c2 (UInt8.toNat_inj.1 (by show _ = 0; omega))
    rw [if_neg c2]
    rcases g4 with ⟨hn, hv⟩ | ⟨hn, hv⟩
    ·have hw := (Qhv _ s.toNat (by omega) (by omega) (by omega)).2 hn
     have ht := Wej hn
     rw [hhd, ← hv] at ht
     have c4 : ¬ n = 0 := fun e => c2 (ht.1 e)
     rw [← hcut] at hw
     have ih := Qlq b hb f (a + s) (by omega) (by omega)
     rw [hn]
     have e2 : (b.drop a.toNat).drop s.toNat = b.drop (a + s).toNat := by rw [List.drop_drop]; congr 1; omega
     simp only [e2]
     simp +contextual -implicitDefEqProofs (disch := first | assumption | omega | (simp -implicitDefEqProofs only [go_sem]; try omega)) only [↓reduceIte, go_sem, iP, iN, w64, w8, w32, b_Z1w_0, h1, h2, h3, c1, c3, c4, hw, ih]
    ·have hw := Whu hn s.toNat (by omega) (by omega) (by omega)
     rw [← hcut] at hw
     rw [hn]
     simp +contextual -implicitDefEqProofs (disch := first | assumption | omega | (simp -implicitDefEqProofs only [go_sem]; try omega)) only [↓reduceIte, go_sem, iP, iN, w64, w8, w32, b_Z1w_0, h1, h2, h3, c1, c3, hw]
  ·have e : b.drop a.toNat = [] := List.drop_eq_nil_of_le (by omega)
   rw [e]
   have e2 : Qk1 (f + 1) [] = true := rfl
   rw [e2]
   simp +contextual -implicitDefEqProofs (disch := first | assumption | omega | (simp -implicitDefEqProofs only [go_sem]; try omega)) only [↓reduceIte, go_sem, iP, iN, w64, w8, w32, b_Z1w_0, c1]
theorem Whv (b : List UInt8) (hb : b.length ≤ 1000000000) (σ : Objs) (hσ : Wf σ) : E cx 56 [.sl (Qad b) .no] σ = some (.bool (Qd1 b), σ) := by
 refine Qbv Qbm ?_ (by rw [Qaf, Qcx]; rfl) rfl σ hσ
 have h := Qlq b hb (b.length + 1) 0 (by omega) (by omega)
 have e : Qk1 (b.length + 1) (b.drop (0 : Int).toNat) = Qd1 b := by
  show Qk1 _ b = _
  rw [Qr4 _ _ (by omega), Qmz _ _ (Nat.le_refl _)]
  rfl
 rw [e] at h
 rw [e_Z1w]
 simp +contextual -implicitDefEqProofs (disch := first | assumption | omega | (simp -implicitDefEqProofs only [go_sem]; try omega)) only [↓reduceIte, go_sem, iP, iN, w64, w8, w32, s_Z1w, h]
end Go.Proofs.YtapnplljnpconaaGreatDoor
namespace Go.Proofs.YtapnplljnpconaaGreatDoor
open Go.Ev
set_option maxRecDepth 100000
set_option maxHeartbeats 4000000
abbrev B64 := BitVec 64
def hiB : B64 := 9259542123273814144#64
def byB (x : UInt8) : B64 := BitVec.ofNat 64 x.toNat
theorem Wbl (x : UInt8) : (byB x).toNat = x.toNat := by
 have := UInt8.toNat_lt x
 unfold byB
 rw [BitVec.toNat_ofNat]; omega
theorem Qkd (A : B64) : BitVec.ofInt 64 (A.toNat : Int) = A := by
 apply BitVec.eq_of_toNat_eq
 rw [BitVec.toNat_ofInt]
 have := A.isLt
 omega
theorem Wbm (A : B64) : IntKind.u64.wrap (A.toNat : Int) = A.toNat := by
 have := A.isLt
 simp only [IntKind.wrap_u64]; omega
theorem or_u (A B : B64) {e : EqK} : eB .or e (.int .u64 A.toNat) (.int .u64 B.toNat) = some (.int .u64 (A ||| B).toNat) := by
 show some (V.int .u64 (IntKind.u64.wrap (BitVec.ofInt 64 (A.toNat : Int) ||| BitVec.ofInt 64 (B.toNat : Int)).toNat)) = _
 rw [Qkd, Qkd, Wbm]
theorem Qts (A : B64) {e : EqK} : eB .and e (.int .u64 A.toNat) (.int .u64 9259542123273814144) = some (.int .u64 (A &&& hiB).toNat) := by
 show some (V.int .u64 (IntKind.u64.wrap (BitVec.ofInt 64 (A.toNat : Int) &&& BitVec.ofInt 64 (9259542123273814144 : Int)).toNat)) = _
 rw [Qkd, show BitVec.ofInt 64 (9259542123273814144 : Int) = hiB from rfl, Wbm]
theorem Whw (x : UInt8) {σ : Objs} : eC σ (.toInt .u64) (.int .u8 x.toNat) = some (.int .u64 (byB x).toNat) := by
 have := UInt8.toNat_lt x
 show some (V.int .u64 (IntKind.u64.wrap (x.toNat : Int))) = _
 rw [Wbl]
 congr 2
 simp only [IntKind.wrap_u64]; omega
theorem Qom (x : UInt8) (k : Nat) (h : k = 8 ∨ k = 16 ∨ k = 24 ∨ k = 32 ∨ k = 40 ∨ k = 48 ∨ k = 56) {e : EqK} : eB .shl e (.int .u64 (byB x).toNat) (.int .u64 k) = some (.int .u64 (byB x <<< k).toNat) := by
 have hx := UInt8.toNat_lt x
 show (if (k : Int) < 0 then none else some (V.int .u64 (IntKind.u64.wrap (((byB x).toNat : Int) * 2 ^ (min (k : Int).toNat 64))))) = _
 rw [if_neg (by omega)]
 congr 2
 rw [BitVec.toNat_shiftLeft, Nat.shiftLeft_eq, Wbl]
 have e : (2 : Int) ^ (min (k : Int).toNat 64) = ((2 ^ k : Nat) : Int) := by rcases h with rfl | rfl | rfl | rfl | rfl | rfl | rfl <;> rfl
 rw [e, ← Int.natCast_mul]
 have e2 : 2 ^ 64 = 18446744073709551616 := rfl
 generalize x.toNat * 2 ^ k = y
 simp only [IntKind.wrap_u64]
 omega
def wdB (r : List UInt8) : B64 :=
 byB (r.getD 0 0) ||| byB (r.getD 1 0) <<< 8 ||| byB (r.getD 2 0) <<< 16 ||| byB (r.getD 3 0) <<< 24 ||| byB (r.getD 4 0) <<< 32 ||| byB (r.getD 5 0) <<< 40 ||| byB (r.getD 6 0) <<< 48 ||| byB (r.getD 7 0) <<< 56
def loB8 (r : List UInt8) : Prop := ∀ i, i < 8 → (r.getD i 0).toNat < 128
theorem Wkm (k : Nat) (h : k = 0 ∨ k = 8 ∨ k = 16 ∨ k = 24 ∨ k = 32 ∨ k = 40 ∨ k = 48 ∨ k = 56) : ∀ n : Fin 256, (BitVec.ofNat 64 n.val <<< k) &&& hiB = 0#64 ↔ n.val < 128 := by
 rcases h with rfl | rfl | rfl | rfl | rfl | rfl | rfl | rfl <;> decide
theorem hi_x (x : UInt8) (k : Nat) (h : k = 0 ∨ k = 8 ∨ k = 16 ∨ k = 24 ∨ k = 32 ∨ k = 40 ∨ k = 48 ∨ k = 56) : (byB x <<< k) &&& hiB = 0#64 ↔ x.toNat < 128 := Wkm k h ⟨x.toNat, UInt8.toNat_lt x⟩
theorem Qhx (A B C : B64) : (A ||| B) &&& C = (A &&& C) ||| (B &&& C) := by
 ext i hi
 simp only [BitVec.getElem_and, BitVec.getElem_or]
 cases A[i] <;> cases B[i] <;> cases C[i] <;> rfl
theorem or_z (A B : B64) : A ||| B = 0#64 ↔ A = 0#64 ∧ B = 0#64 := by
 constructor
 ·intro h
  have key : ∀ i (hi : i < 64), A[i] = false ∧ B[i] = false := fun i hi => by
   have h2 : (A ||| B)[i] = (0#64)[i] := by rw [h]
   simp only [BitVec.getElem_or, BitVec.getElem_zero, Bool.or_eq_false_iff] at h2
   exact h2
  constructor
  ·ext i hi; rw [(key i hi).1, BitVec.getElem_zero]
  ·ext i hi; rw [(key i hi).2, BitVec.getElem_zero]
 ·rintro ⟨rfl, rfl⟩; rfl
theorem Qqf (r : List UInt8) : wdB r &&& hiB = 0#64 ↔ loB8 r := by
 have h0 : byB (r.getD 0 0) = byB (r.getD 0 0) <<< 0 := by simp
 unfold wdB
 rw [h0]
 simp only [Qhx, or_z]
 rw [hi_x _ 0 (by simp), hi_x _ 8 (by simp), hi_x _ 16 (by simp), hi_x _ 24 (by simp), hi_x _ 32 (by simp), hi_x _ 40 (by simp), hi_x _ 48 (by simp), hi_x _ 56 (by simp)]
 constructor
 ·rintro ⟨⟨⟨⟨⟨⟨⟨a0, a1⟩, a2⟩, a3⟩, a4⟩, a5⟩, a6⟩, a7⟩ i hi
  match i, hi with
  | 0, _ => exact a0
  | 1, _ => exact a1
  | 2, _ => exact a2
  | 3, _ => exact a3
  | 4, _ => exact a4
  | 5, _ => exact a5
  | 6, _ => exact a6
  | 7, _ => exact a7
 ·intro h
  exact ⟨⟨⟨⟨⟨⟨⟨h 0 (by omega), h 1 (by omega)⟩, h 2 (by omega)⟩, h 3 (by omega)⟩, h 4 (by omega)⟩, h 5 (by omega)⟩, h 6 (by omega)⟩, h 7 (by omega)⟩
theorem Qke (r : List UInt8) (hr : 8 ≤ r.length) (σ : Objs) (hσ : Wf σ) : E cx 131 [.sl (Qad r) .no] σ = some (.int .u64 (wdB r).toNat, σ) := by
 have s1 : ∀ x, eB .shl .no (.int .u64 (byB x).toNat) (.int .u64 8) = some (.int .u64 (byB x <<< 8).toNat) := fun x => Qom x 8 (by simp) (e := .no)
 have s2 : ∀ x, eB .shl .no (.int .u64 (byB x).toNat) (.int .u64 16) = some (.int .u64 (byB x <<< 16).toNat) := fun x => Qom x 16 (by simp) (e := .no)
 have s3 : ∀ x, eB .shl .no (.int .u64 (byB x).toNat) (.int .u64 24) = some (.int .u64 (byB x <<< 24).toNat) := fun x => Qom x 24 (by simp) (e := .no)
 have s4 : ∀ x, eB .shl .no (.int .u64 (byB x).toNat) (.int .u64 32) = some (.int .u64 (byB x <<< 32).toNat) := fun x => Qom x 32 (by simp) (e := .no)
 have s5 : ∀ x, eB .shl .no (.int .u64 (byB x).toNat) (.int .u64 40) = some (.int .u64 (byB x <<< 40).toNat) := fun x => Qom x 40 (by simp) (e := .no)
 have s6 : ∀ x, eB .shl .no (.int .u64 (byB x).toNat) (.int .u64 48) = some (.int .u64 (byB x <<< 48).toNat) := fun x => Qom x 48 (by simp) (e := .no)
 have s7 : ∀ x, eB .shl .no (.int .u64 (byB x).toNat) (.int .u64 56) = some (.int .u64 (byB x <<< 56).toNat) := fun x => Qom x 56 (by simp) (e := .no)
 have h0 : ∀ (k : Nat), k < 8 → eI 1 (.int .i64 k) (.sl (Qad r) .no) = some (.eptr [.int .u8 (r.getD k 0).toNat] 0) := fun k hk => by
  rw [Qby (by omega), Int.toNat_natCast]
 have i0 : eI 1 (.int .i64 0) (.sl (Qad r) .no) = some (.eptr [.int .u8 (r.getD 0 0).toNat] 0) := h0 0 (by omega)
 have i1 : eI 1 (.int .i64 1) (.sl (Qad r) .no) = some (.eptr [.int .u8 (r.getD 1 0).toNat] 0) := h0 1 (by omega)
 have i2 : eI 1 (.int .i64 2) (.sl (Qad r) .no) = some (.eptr [.int .u8 (r.getD 2 0).toNat] 0) := h0 2 (by omega)
 have i3 : eI 1 (.int .i64 3) (.sl (Qad r) .no) = some (.eptr [.int .u8 (r.getD 3 0).toNat] 0) := h0 3 (by omega)
 have i4 : eI 1 (.int .i64 4) (.sl (Qad r) .no) = some (.eptr [.int .u8 (r.getD 4 0).toNat] 0) := h0 4 (by omega)
 have i5 : eI 1 (.int .i64 5) (.sl (Qad r) .no) = some (.eptr [.int .u8 (r.getD 5 0).toNat] 0) := h0 5 (by omega)
 have i6 : eI 1 (.int .i64 6) (.sl (Qad r) .no) = some (.eptr [.int .u8 (r.getD 6 0).toNat] 0) := h0 6 (by omega)
 have i7 : eI 1 (.int .i64 7) (.sl (Qad r) .no) = some (.eptr [.int .u8 (r.getD 7 0).toNat] 0) := h0 7 (by omega)
 clear h0
 rw [e_Z1l]
 simp +contextual -implicitDefEqProofs (disch := first | assumption | omega | (simp -implicitDefEqProofs only [go_sem]; try omega)) only [↓reduceIte, go_sem, iP, iN, w64, w8, w32, s_Z1l, Whw, Qom, or_u, i0, i1, i2, i3, i4, i5, i6, i7, s1, s2, s3, s4, s5, s6, s7, wdB]
theorem Wek (r : List UInt8) : ((wdB r &&& hiB).toNat : Int) = 0 ↔ loB8 r := by
 rw [← Qqf]
 constructor
 ·intro h; apply BitVec.eq_of_toNat_eq; show _ = 0; omega
 ·intro h; rw [h]; rfl
theorem Wkn (a b : List UInt8) : (((wdB a ||| wdB b) &&& hiB).toNat : Int) = 0 ↔ loB8 a ∧ loB8 b := by
 rw [← Qqf, ← Qqf, ← or_z, ← Qhx]
 constructor
 ·intro h; apply BitVec.eq_of_toNat_eq; show _ = 0; omega
 ·intro h; rw [h]; rfl
theorem Whx (a b c d : List UInt8) : ((((wdB a ||| wdB b) ||| (wdB c ||| wdB d)) &&& hiB).toNat : Int) = 0 ↔ (loB8 a ∧ loB8 b) ∧ (loB8 c ∧ loB8 d) := by
 rw [← Qqf, ← Qqf, ← Qqf, ← Qqf, ← or_z, ← or_z, ← or_z, ← Qhx, ← Qhx, ← Qhx]
 constructor
 ·intro h; apply BitVec.eq_of_toNat_eq; show _ = 0; omega
 ·intro h; rw [h]; rfl
def Qch (r : List UInt8) : Bool := Qdh r.length r
theorem Qw9 : Qch [] = true := rfl
theorem Qon {x : UInt8} {r : List UInt8} (h : x.toNat < 128) : Qch (x :: r) = Qch r := by
 unfold Qch
 rw [Qil (by simp), Qck, if_pos h]
 rfl
theorem Qji : ∀ (k : Nat) (r : List UInt8), k ≤ r.length → (∀ i, i < k → (r.getD i 0).toNat < 128) → Qch (r.drop k) = Qch r
 | 0, r, _, _ => rfl
 | k + 1, [], h, _ => by simp at h
 | k + 1, x :: r, h, hx => by
  have h0 : x.toNat < 128 := hx 0 (by omega)
  rw [Qon h0]
  exact Qji k r (by simpa using h) fun i hi => by simpa using hx (i + 1) (by omega)
theorem Qm0 {r : List UInt8} {k : Nat} (h : loB8 (r.drop k)) : ∀ i, k ≤ i → i < k + 8 → (r.getD i 0).toNat < 128 := by
 intro i h1 h2
 have := h (i - k) (by omega)
 rw [List.getD_eq_getElem?_getD, List.getElem?_drop, show k + (i - k) = i by omega] at this
 rwa [List.getD_eq_getElem?_getD]
theorem Wel {r : List UInt8} (h : 8 ≤ r.length) (h1 : loB8 r) : Qch (r.drop 8) = Qch r := Qji 8 r h h1
theorem Qz9 {r : List UInt8} (h : 16 ≤ r.length) (h1 : loB8 r) (h2 : loB8 (r.drop 8)) : Qch (r.drop 16) = Qch r := Qji 16 r h fun i hi => by
 by_cases c : i < 8
 ·exact h1 i c
 ·exact Qm0 h2 i (by omega) (by omega)
theorem Waa {r : List UInt8} (h : 32 ≤ r.length) (h1 : loB8 r) (h2 : loB8 (r.drop 8)) (h3 : loB8 (r.drop 16)) (h4 : loB8 (r.drop 24)) : Qch (r.drop 32) = Qch r := Qji 32 r h fun i hi => by
 by_cases c : i < 8
 ·exact h1 i c
 ·by_cases c : i < 16
  ·exact Qm0 h2 i (by omega) (by omega)
  ·by_cases c : i < 24
   ·exact Qm0 h3 i (by omega) (by omega)
   ·exact Qm0 h4 i (by omega) (by omega)
theorem Qkf {r : List UInt8} {c : Cap} {k : Nat} (h : k ≤ r.length) : Qbb 1 (.sl (Qad r) c) (some (.int .i64 k)) none none = some (.sl (Qad (r.drop k)) .no) := by
 have := Qto (f := fun b : UInt8 => V.int .u8 b.toNat) (sz := 1) (l := r) (c := c) (fun _ => rfl) (k := .i64) (a := (k : Int)) (by omega)
 rwa [Int.toNat_natCast] at this
theorem Qr5 (r1 : Rk) : ∀ (f : Nat) (r : List UInt8), r.length < f → (∀ s : List UInt8, s.length ≤ r.length → r1 [.sl (Qad s) .no] [] = some (.bool (Qch s), [])) →
  l_Z1k_1 (Mi cx) 0 0 r1 0 [.sl (Qad r) .no] [] = some (.bool (Qch r), [])
 | 0, r, hf, hr => by omega
 | f + 1, r, hf, hr => by
  have h0 := hr r (Nat.le_refl _)
  rw [u_Z1k_1]
  by_cases c1 : 32 < (r.length : Int)
  ·have w0 := fun σ hσ => Qke r (by omega) σ hσ
   have w1 := fun σ hσ => Qke (r.drop 8) (by rw [List.length_drop]; omega) σ hσ
   have w2 := fun σ hσ => Qke (r.drop 16) (by rw [List.length_drop]; omega) σ hσ
   have w3 := fun σ hσ => Qke (r.drop 24) (by rw [List.length_drop]; omega) σ hσ
   have k8 : Qbb 1 (.sl (Qad r) .no) (some (.int .i64 8)) none none = some (.sl (Qad (r.drop 8)) .no) := Qkf (k := 8) (by omega)
   have k16 : Qbb 1 (.sl (Qad r) .no) (some (.int .i64 16)) none none = some (.sl (Qad (r.drop 16)) .no) := Qkf (k := 16) (by omega)
   have k24 : Qbb 1 (.sl (Qad r) .no) (some (.int .i64 24)) none none = some (.sl (Qad (r.drop 24)) .no) := Qkf (k := 24) (by omega)
   have k32 : Qbb 1 (.sl (Qad r) .no) (some (.int .i64 32)) none none = some (.sl (Qad (r.drop 32)) .no) := Qkf (k := 32) (by omega)
   have hh := Whx r (r.drop 8) (r.drop 16) (r.drop 24)
   by_cases c2 : ((((wdB r ||| wdB (r.drop 8)) ||| (wdB (r.drop 16) ||| wdB (r.drop 24))) &&& hiB).toNat : Int) = 0
   ·obtain ⟨⟨q1, q2⟩, q3, q4⟩ := hh.1 c2
    have ih := Qr5 r1 f (r.drop 32) (by rw [List.length_drop]; omega) (fun s hs => hr s (by rw [List.length_drop] at hs; omega))
    rw [Waa (by omega) q1 q2 q3 q4] at ih
    clear hh hr
    simp +contextual -implicitDefEqProofs (disch := first | assumption | omega | (simp -implicitDefEqProofs only [go_sem]; try omega)) only [↓reduceIte, go_sem, iP, iN, w64, w8, w32, b_Z1k_1, c1, c2, w0, w1, w2, w3, k8, k16, k24, k32, or_u, Qts, ih]
   ·clear hh hr
    simp +contextual -implicitDefEqProofs (disch := first | assumption | omega | (simp -implicitDefEqProofs only [go_sem]; try omega)) only [↓reduceIte, go_sem, iP, iN, w64, w8, w32, b_Z1k_1, j_Z1k_2, j_Z1k_0, c1, c2, w0, w1, w2, w3, k8, k16, k24, k32, or_u, Qts, h0]
  ·clear hr
   simp +contextual -implicitDefEqProofs (disch := first | assumption | omega | (simp -implicitDefEqProofs only [go_sem]; try omega)) only [↓reduceIte, go_sem, iP, iN, w64, w8, w32, b_Z1k_1, j_Z1k_2, j_Z1k_0, c1, h0]
def fstN (x : UInt8) : Nat := Qe5.getD x.toNat 0
def szN (x : UInt8) : Nat := if 194 ≤ x.toNat ∧ x.toNat ≤ 223 then 2 else if 224 ≤ x.toNat ∧ x.toNat ≤ 239 then 3 else if 240 ≤ x.toNat ∧ x.toNat ≤ 244 then 4 else 1
def loN (x : UInt8) : Nat := if x.toNat = 224 then 160 else if x.toNat = 240 then 144 else 128
def upN (x : UInt8) : Nat := if x.toNat = 237 then 159 else if x.toNat = 244 then 143 else 191
theorem Wem : ∀ n : Fin 256, 128 ≤ n.val → Qe5.getD n.val 0 < 256 ∧ Qe5.getD n.val 0 % 8 = (if 194 ≤ n.val ∧ n.val ≤ 223 then 2 else if 224 ≤ n.val ∧ n.val ≤ 239 then 3 else if 240 ≤ n.val ∧ n.val ≤ 244 then 4 else 1) ∧ Qe5.getD n.val 0 / 16 < 16 ∧
  (194 ≤ n.val → n.val ≤ 244 → accN[Qe5.getD n.val 0 / 16]? = some (if n.val = 224 then 160 else if n.val = 240 then 144 else 128, if n.val = 237 then 159 else if n.val = 244 then 143 else 191)) := by decide
theorem Wen : accN.length = 16 := by decide
theorem Qxa : Qe5.length = 256 := by decide
theorem Weo (x : UInt8) : Qcq 256 1 (.int .u8 x.toNat) (.eptr Qhs 0) = some (.eptr Qhs x.toNat) := by
 have := UInt8.toNat_lt x
 have h : index (.int .u8 x.toNat) 256 = some x.toNat := by simp [index]; omega
 simp [Qcq, h]
theorem Why (x : UInt8) : eL [] false 1 (.eptr Qhs x.toNat) = some (.int .u8 (fstN x)) := by
 have hx := UInt8.toNat_lt x
 have h : x.toNat < Qe5.length := by rw [Qxa]; exact hx
 show Ev.part false 1 Qhs x.toNat = _
 unfold Ev.part Qhs fstN
 rw [if_neg (by decide), if_pos rfl, List.getElem?_map, List.getElem?_eq_getElem h, List.getD_eq_getElem?_getD, List.getElem?_eq_getElem h]
 rfl
theorem Wko (n : Nat) (h : n < 256) : eB .and .no (.int .u8 n) (.int .u8 7) = some (.int .u8 (n % 8 : Nat)) := by
 have key : (BitVec.ofInt 8 (n : Int) &&& BitVec.ofInt 8 7).toNat = n % 8 := by
  rw [BitVec.toNat_and]
  have e1 : (BitVec.ofInt 8 (n : Int)).toNat = n := by simp [BitVec.toNat_ofInt]; omega
  have e2 : (BitVec.ofInt 8 7).toNat = 2 ^ 3 - 1 := rfl
  rw [e1, e2, Nat.and_two_pow_sub_one_eq_mod]
 show some (V.int .u8 (IntKind.u8.wrap (BitVec.ofInt 8 (n : Int) &&& BitVec.ofInt 8 7).toNat)) = _
 rw [key, w8 (by omega)]
theorem Wkp (n : Nat) : eB .shr .no (.int .u8 n) (.int .u64 4) = some (.int .u8 (n / 16 : Nat)) := by
 show (if (4 : Int) < 0 then none else some (V.int .u8 ((n : Int).fdiv (2 ^ (min (4 : Int).toNat 8))))) = _
 rw [if_neg (by decide)]
 have : ((2 : Int) ^ (min (4 : Int).toNat 8)) = 16 := rfl
 rw [this, Int.fdiv_eq_ediv_of_nonneg _ (by decide)]
 rfl
theorem Wab (n : Nat) (h : n < 16) : Qcq 16 2 (.int .u8 n) (.eptr accV 0) = some (.eptr accV (n * 2)) := by
 have h : index (.int .u8 n) 16 = some n := by simp [index]; omega
 simp [Qcq, h]
theorem Wbn : ∀ (l : List (Nat × Nat)) (n : Nat) (p : Nat × Nat), l[n]? = some p → Ev.part true 2 (l.flatMap fun p => [V.int .u8 (p.1 : Int), V.int .u8 (p.2 : Int)]) (n * 2) = some (V.agg [.int .u8 p.1, .int .u8 p.2])
 | [], n, p, h => by simp at h
 | q :: l, 0, p, h => by
  simp at h
  subst h
  rfl
 | q :: l, n + 1, p, h => by
  have ih := Wbn l n p (by simpa using h)
  unfold Ev.part at ih ⊢
  rw [if_pos rfl] at ih ⊢
  rw [List.flatMap_cons, show (n + 1) * 2 = (n * 2 + 1) + 1 by omega]
  show (if _ ≤ _ then some (V.agg ((((l.flatMap _).drop (n * 2)).take 2).map V.ng)) else none) = _
  split at ih
  ·rename_i hle
   rw [if_pos (by simp; simp at hle; omega)]
   exact ih
  ·cases ih
theorem Wep {n lo hi : Nat} (h : accN[n]? = some (lo, hi)) : eL [] true 2 (.eptr accV (n * 2)) = some (.agg [.int .u8 lo, .int .u8 hi]) := Wbn accN n (lo, hi) h
theorem Qb9 : (Mi cx).G.g 1 = .eptr Qhs 0 := rfl
theorem Qex : (Mi cx).G.g 2 = .eptr accV 0 := rfl
theorem Whz {x y : UInt8} (h : 194 ≤ x.toNat ∧ x.toNat ≤ 244) : secB x y = true ↔ loN x ≤ y.toNat ∧ y.toNat ≤ upN x := Qjg
theorem Qa7 {r : List UInt8} (h : r ≠ []) (hn : nxB r = none) : Qch r = false := by unfold Qch; rw [Qil h, hn]
theorem Qim {r : List UInt8} {k : Nat} (h : r ≠ []) (hn : nxB r = some k) : Qch r = Qch (r.drop k) := by unfold Qch; rw [Qil h, hn]
theorem nx_2 {x y : UInt8} {r : List UInt8} (hx : szN x = 2) : nxB (x :: y :: r) = if 128 ≤ y.toNat ∧ y.toNat ≤ 191 then some 2 else none := by
 have h : 194 ≤ x.toNat ∧ x.toNat ≤ 223 := by unfold szN at hx; split at hx; assumption; (split at hx; cases hx; split at hx <;> cases hx)
 rw [Qck, if_neg (by omega), if_pos h]
 simp only [Qd7]
theorem Wkq {x : UInt8} (hx : szN x = 2) : nxB [x] = none := by
 have h : 194 ≤ x.toNat ∧ x.toNat ≤ 223 := by unfold szN at hx; split at hx; assumption; (split at hx; cases hx; split at hx <;> cases hx)
 rw [Qck, if_neg (by omega), if_pos h]
theorem sz3 {x : UInt8} (hx : szN x = 3) : 224 ≤ x.toNat ∧ x.toNat ≤ 239 := by unfold szN at hx; split at hx; cases hx; (split at hx; assumption; split at hx <;> cases hx)
theorem sz4 {x : UInt8} (hx : szN x = 4) : 240 ≤ x.toNat ∧ x.toNat ≤ 244 := by unfold szN at hx; split at hx; cases hx; (split at hx; cases hx; split at hx; assumption; cases hx)
theorem nx_3 {x y z : UInt8} {r : List UInt8} (hx : szN x = 3) : nxB (x :: y :: z :: r) = if (loN x ≤ y.toNat ∧ y.toNat ≤ upN x) ∧ 128 ≤ z.toNat ∧ z.toNat ≤ 191 then some 3 else none := by
 have h := sz3 hx
 rw [Qck, if_neg (by omega), if_neg (by omega), if_pos h]
 simp only [Bool.and_eq_true, Qd7, Whz (x := x) (y := y) ⟨by omega, by omega⟩]
theorem Wkr {x : UInt8} {r : List UInt8} (hx : szN x = 3) (hr : r.length < 2) : nxB (x :: r) = none := by
 have h := sz3 hx
 rw [Qck, if_neg (by omega), if_neg (by omega), if_pos h]
 match r, hr with
 | [], _ => rfl
 | [_], _ => rfl
theorem nx_4 {x y z t : UInt8} {r : List UInt8} (hx : szN x = 4) : nxB (x :: y :: z :: t :: r) = if ((loN x ≤ y.toNat ∧ y.toNat ≤ upN x) ∧ 128 ≤ z.toNat ∧ z.toNat ≤ 191) ∧ 128 ≤ t.toNat ∧ t.toNat ≤ 191 then some 4 else none := by
 have h := sz4 hx
 rw [Qck, if_neg (by omega), if_neg (by omega), if_neg (by omega), if_pos h]
 simp only [Bool.and_eq_true, Qd7, Whz (x := x) (y := y) ⟨by omega, by omega⟩]
theorem Wks {x : UInt8} {r : List UInt8} (hx : szN x = 4) (hr : r.length < 3) : nxB (x :: r) = none := by
 have h := sz4 hx
 rw [Qck, if_neg (by omega), if_neg (by omega), if_neg (by omega), if_pos h]
 match r, hr with
 | [], _ => rfl
 | [_], _ => rfl
 | [_, _], _ => rfl
theorem nx_1 {x : UInt8} {r : List UInt8} (hx : szN x = 1) (h128 : ¬ x.toNat < 128) : nxB (x :: r) = none := by
 unfold szN at hx
 rw [Qck, if_neg h128]
 split at hx
 ·cases hx
 ·split at hx
  ·cases hx
  ·split at hx
   ·cases hx
   ·rw [if_neg (by assumption), if_neg (by assumption), if_neg (by assumption)]
theorem Qr6 (x : UInt8) : szN x = 1 ∨ szN x = 2 ∨ szN x = 3 ∨ szN x = 4 := by unfold szN; split; simp; split; simp; split <;> simp
theorem Qm1 : ∀ (f : Nat) (r : List UInt8) (c : Cap), r.length < f → (c = .fx ∨ c = .no) →
  l_Z1k_0 (Mi cx) 0 0 [.sl (Qad r) c] [] = some (.bool (Qch r), [])
 | 0, r, c, hf, _ => by omega
 | f + 1, [], c, hf, hc => by
  rw [u_Z1k_0]
  simp +contextual -implicitDefEqProofs (disch := first | assumption | omega | (simp -implicitDefEqProofs only [go_sem]; try omega)) only [↓reduceIte, go_sem, iP, iN, w64, w8, w32, b_Z1k_0, Qad, Qw9]
 | f + 1, x :: r, c, hf, hc => by
  have ihn : ∀ s : List UInt8, s.length ≤ r.length → l_Z1k_0 (Mi cx) 0 0 [.sl (Qad s) .no] [] = some (.bool (Qch s), []) := fun s hs => Qm1 f s .no (by simp at hf; omega) (.inr rfl)
  have hl : (x :: r).length = r.length + 1 := rfl
  have i0 : ∀ c, eI 1 (.int .i64 0) (.sl (Qad (x :: r)) c) = some (.eptr [.int .u8 x.toNat] 0) := fun c => Qby (by simp)
  have k1 : ∀ c, Qbb 1 (.sl (Qad (x :: r)) c) (some (.int .i64 1)) none none = some (.sl (Qad r) .no) := fun c => Qkf (r := x :: r) (k := 1) (by simp)
  have hn : (V.sl (Qad (x :: r)) c).ng = .sl (Qad (x :: r)) .no := rfl
  have c0 : (0 : Int) < ((x :: r).length : Nat) := by rw [hl]; omega
  rw [u_Z1k_0]
  by_cases c1 : x.toNat < 128
  ·have c1' : (x.toNat : Int) < 128 := by omega
   have ih := ihn r (Nat.le_refl _)
   rw [Qon c1]
   by_cases c2 : 8 < (r.length : Int)
   ·have w0 := fun σ hσ => Qke r (by omega) σ hσ
    by_cases c3 : ((wdB r &&& hiB).toNat : Int) = 0
    ·have q1 := (Wek r).1 c3
     have v8 := Wel (by omega) q1
     have k8 : Qbb 1 (.sl (Qad r) .no) (some (.int .i64 8)) none none = some (.sl (Qad (r.drop 8)) .no) := Qkf (k := 8) (by omega)
     have ih8 := ihn (r.drop 8) (by rw [List.length_drop]; omega)
     rw [v8] at ih8
     have l8 : (r.drop 8).length = r.length - 8 := List.length_drop ..
     generalize r.drop 8 = s at v8 k8 ih8 l8
     by_cases c4 : 16 < (s.length : Int)
     ·have w1 := fun σ hσ => Qke s (by omega) σ hσ
      have w2 := fun σ hσ => Qke (s.drop 8) (by rw [List.length_drop]; omega) σ hσ
      have k8' : Qbb 1 (.sl (Qad s) .no) (some (.int .i64 8)) none none = some (.sl (Qad (s.drop 8)) .no) := Qkf (k := 8) (by omega)
      have k16 : Qbb 1 (.sl (Qad s) .no) (some (.int .i64 16)) none none = some (.sl (Qad (s.drop 16)) .no) := Qkf (k := 16) (by omega)
      by_cases c5 : (((wdB s ||| wdB (s.drop 8)) &&& hiB).toNat : Int) = 0
      ·obtain ⟨q2, q3⟩ := (Wkn s (s.drop 8)).1 c5
       have v16 := Qz9 (by omega) q2 q3
       have hv := Qr5 (l_Z1k_0 (Mi cx) 0 0) ((s.drop 16).length + 1) (s.drop 16) (by omega) (fun t ht => ihn t (by rw [List.length_drop] at ht; omega))
       rw [v16, v8] at hv
       clear ihn q1 q2 q3
       simp +contextual -implicitDefEqProofs (disch := first | assumption | omega | (simp -implicitDefEqProofs only [go_sem]; try omega)) only [↓reduceIte, go_sem, iP, iN, w64, w8, w32, b_Z1k_0, i0, k1, c0, c1', c2, c3, c4, c5, w0, w1, w2, k8, k8', k16, or_u, Qts, hv]
      ·clear ihn q1
       simp +contextual -implicitDefEqProofs (disch := first | assumption | omega | (simp -implicitDefEqProofs only [go_sem]; try omega)) only [↓reduceIte, go_sem, iP, iN, w64, w8, w32, b_Z1k_0, j_Z1k_2, j_Z1k_0, i0, k1, c0, c1', c2, c3, c4, c5, w0, w1, w2, k8, k8', k16, or_u, Qts, ih8]
     ·clear ihn q1
      simp +contextual -implicitDefEqProofs (disch := first | assumption | omega | (simp -implicitDefEqProofs only [go_sem]; try omega)) only [↓reduceIte, go_sem, iP, iN, w64, w8, w32, b_Z1k_0, j_Z1k_2, j_Z1k_0, i0, k1, c0, c1', c2, c3, c4, w0, k8, or_u, Qts, ih8]
    ·clear ihn
     simp +contextual -implicitDefEqProofs (disch := first | assumption | omega | (simp -implicitDefEqProofs only [go_sem]; try omega)) only [↓reduceIte, go_sem, iP, iN, w64, w8, w32, b_Z1k_0, j_Z1k_2, j_Z1k_0, i0, k1, c0, c1', c2, c3, w0, or_u, Qts, ih]
   ·clear ihn
    simp +contextual -implicitDefEqProofs (disch := first | assumption | omega | (simp -implicitDefEqProofs only [go_sem]; try omega)) only [↓reduceIte, go_sem, iP, iN, w64, w8, w32, b_Z1k_0, j_Z1k_2, j_Z1k_0, i0, k1, c0, c1', c2, ih]
  ·have c1' : ¬ (x.toNat : Int) < 128 := by omega
   obtain ⟨a1, a2, a3, a4⟩ := Wem ⟨x.toNat, UInt8.toNat_lt x⟩ (by show 128 ≤ x.toNat; omega)
   have a2' : fstN x % 8 = szN x := a2
   have T1 := Weo x
   have T2 := Why x
   have T3 := Wko (fstN x) a1
   rw [a2'] at T3
   have T4 := Wkp (fstN x)
   have T5 := Wab (fstN x / 16) a3
   obtain ⟨⟨lo, hi⟩, hp⟩ : ∃ p, accN[fstN x / 16]? = some p := ⟨_, List.getElem?_eq_getElem (by rw [Wen]; exact a3)⟩
   have T6 := Wep hp
   have T7 : ∀ a b : Int, stV [.cells [.int .u8 0, .int .u8 0]] 2 (.ptr 0 0) (.agg [.int .u8 a, .int .u8 b]) (.agg [.int .u8 a, .int .u8 b]) = some (.undef, [.cells [.int .u8 a, .int .u8 b]]) := fun a b => rfl
   have hlh : 194 ≤ x.toNat → x.toNat ≤ 244 → lo = loN x ∧ hi = upN x := fun h1 h2 => by
    have := a4 h1 h2
    rw [show accN[Qe5.getD x.toNat 0 / 16]? = some (lo, hi) from hp] at this
    cases this
    exact ⟨rfl, rfl⟩
   have hne : x :: r ≠ [] := by simp
   have hlu : 128 ≤ hi ∧ hi ≤ 255 ∨ True := .inr trivial
   clear a1 a2 a3 a4 hp
   have tl : (szN x : Int) = 1 ∨ (szN x : Int) = 2 ∨ (szN x : Int) = 3 ∨ (szN x : Int) = 4 := by have := Qr6 x; omega
   rcases Qr6 x with e | e | e | e
   ·rw [e] at T3
    rw [Qa7 hne (nx_1 e c1)]
    simp +contextual -implicitDefEqProofs (disch := first | assumption | omega | (simp -implicitDefEqProofs only [go_sem]; try omega)) only [↓reduceIte, go_sem, iP, iN, w64, w8, w32, b_Z1k_0, j_Z1k_1, Qb9, Qex, i0, k1, c0, c1', T1, T2, T3, T4, T5, T6, T7]
   ·rw [e] at T3
    have hx2 : 194 ≤ x.toNat ∧ x.toNat ≤ 223 := by unfold szN at e; split at e; assumption; (split at e; cases e; split at e <;> cases e)
    obtain ⟨rfl, rfl⟩ := hlh (by omega) (by omega)
    have el : loN x = 128 := by unfold loN; rw [if_neg (by omega), if_neg (by omega)]
    have eu : upN x = 191 := by unfold upN; rw [if_neg (by omega), if_neg (by omega)]
    rw [el, eu] at T6
    match r with
    | [] =>
     rw [Qa7 hne (Wkq e)]
     simp +contextual -implicitDefEqProofs (disch := first | assumption | omega | (simp -implicitDefEqProofs only [go_sem]; try omega)) only [↓reduceIte, go_sem, iP, iN, w64, w8, w32, b_Z1k_0, j_Z1k_1, Qb9, Qex, i0, k1, c0, c1', T1, T2, T3, T4, T5, T6, T7]
    | y :: r =>
     have i1 : eI 1 (.int .i64 1) (.sl (Qad (x :: y :: r)) .no) = some (.eptr [.int .u8 y.toNat] 0) := Qby (by simp; omega)
     have k2 : ∀ c, Qbb 1 (.sl (Qad (x :: y :: r)) c) (some (.int .i64 2)) none none = some (.sl (Qad r) .no) := fun c => Qkf (r := x :: y :: r) (k := 2) (by simp)
     have d1 : ¬ ((x :: y :: r).length : Int) < 2 := by simp; omega
     by_cases p1 : (y.toNat : Int) < 128
     ·rw [Qa7 hne (by rw [nx_2 e, if_neg (by omega)])]
      simp +contextual -implicitDefEqProofs (disch := first | assumption | omega | (simp -implicitDefEqProofs only [go_sem]; try omega)) only [↓reduceIte, go_sem, iP, iN, w64, w8, w32, b_Z1k_0, j_Z1k_1, Qb9, Qex, i0, i1, k1, k2, c0, c1', d1, p1, T1, T2, T3, T4, T5, T6, T7]
     ·by_cases p2 : 191 < (y.toNat : Int)
      ·rw [Qa7 hne (by rw [nx_2 e, if_neg (by omega)])]
       simp +contextual -implicitDefEqProofs (disch := first | assumption | omega | (simp -implicitDefEqProofs only [go_sem]; try omega)) only [↓reduceIte, go_sem, iP, iN, w64, w8, w32, b_Z1k_0, j_Z1k_1, Qb9, Qex, i0, i1, k1, k2, c0, c1', d1, p1, p2, T1, T2, T3, T4, T5, T6, T7]
      ·have ih := ihn r (by simp)
       rw [Qim hne (by rw [nx_2 e, if_pos (by omega)])]
       clear ihn
       simp +contextual -implicitDefEqProofs (disch := first | assumption | omega | (simp -implicitDefEqProofs only [go_sem]; try omega)) only [↓reduceIte, go_sem, iP, iN, w64, w8, w32, b_Z1k_0, j_Z1k_0, Qb9, Qex, i0, i1, k1, k2, c0, c1', d1, p1, p2, T1, T2, T3, T4, T5, T6, T7, ih]
   ·rw [e] at T3
    have hx2 := sz3 e
    obtain ⟨rfl, rfl⟩ := hlh (by omega) (by omega)
    by_cases hlen : r.length < 2
    ·rw [Qa7 hne (Wkr e hlen)]
     have d1 : ((x :: r).length : Int) < 3 := by rw [hl]; omega
     clear ihn
     simp +contextual -implicitDefEqProofs (disch := first | assumption | omega | (simp -implicitDefEqProofs only [go_sem]; try omega)) only [↓reduceIte, go_sem, iP, iN, w64, w8, w32, b_Z1k_0, j_Z1k_1, Qb9, Qex, i0, k1, c0, c1', d1, T1, T2, T3, T4, T5, T6, T7]
    ·match r, hlen with
     | [], h => exact absurd (by simp) h
     | [_], h => exact absurd (by simp) h
     | y :: z :: r, _ =>
      have i1 : ∀ c, eI 1 (.int .i64 1) (.sl (Qad (x :: y :: z :: r)) c) = some (.eptr [.int .u8 y.toNat] 0) := fun c => Qby (by simp; omega)
      have i2 : ∀ c, eI 1 (.int .i64 2) (.sl (Qad (x :: y :: z :: r)) c) = some (.eptr [.int .u8 z.toNat] 0) := fun c => Qby (by simp; omega)
      have k2 : ∀ c, Qbb 1 (.sl (Qad (x :: y :: z :: r)) c) (some (.int .i64 3)) none none = some (.sl (Qad r) .no) := fun c => Qkf (r := x :: y :: z :: r) (k := 3) (by simp)
      have d1 : ¬ ((x :: y :: z :: r).length : Int) < 3 := by simp; omega
      by_cases p0 : (y.toNat : Int) < (loN x : Nat)
      ·rw [Qa7 hne (by rw [nx_3 e, if_neg (by omega)])]
       clear ihn
       simp +contextual -implicitDefEqProofs (disch := first | assumption | omega | (simp -implicitDefEqProofs only [go_sem]; try omega)) only [↓reduceIte, go_sem, iP, iN, w64, w8, w32, b_Z1k_0, j_Z1k_1, Qb9, Qex, i0, i1, i2, k1, k2, c0, c1', d1, p0, T1, T2, T3, T4, T5, T6, T7]
      ·skip
       by_cases p1 : ((upN x : Nat) : Int) < (y.toNat : Int)
       ·rw [Qa7 hne (by rw [nx_3 e, if_neg (by omega)])]
        clear ihn
        simp +contextual -implicitDefEqProofs (disch := first | assumption | omega | (simp -implicitDefEqProofs only [go_sem]; try omega)) only [↓reduceIte, go_sem, iP, iN, w64, w8, w32, b_Z1k_0, j_Z1k_1, Qb9, Qex, i0, i1, i2, k1, k2, c0, c1', d1, p0, p1, T1, T2, T3, T4, T5, T6, T7]
       ·skip
        by_cases p2 : (z.toNat : Int) < 128
        ·rw [Qa7 hne (by rw [nx_3 e, if_neg (by omega)])]
         clear ihn
         simp +contextual -implicitDefEqProofs (disch := first | assumption | omega | (simp -implicitDefEqProofs only [go_sem]; try omega)) only [↓reduceIte, go_sem, iP, iN, w64, w8, w32, b_Z1k_0, j_Z1k_1, Qb9, Qex, i0, i1, i2, k1, k2, c0, c1', d1, p0, p1, p2, T1, T2, T3, T4, T5, T6, T7]
        ·skip
         by_cases p3 : 191 < (z.toNat : Int)
         ·rw [Qa7 hne (by rw [nx_3 e, if_neg (by omega)])]
          clear ihn
          simp +contextual -implicitDefEqProofs (disch := first | assumption | omega | (simp -implicitDefEqProofs only [go_sem]; try omega)) only [↓reduceIte, go_sem, iP, iN, w64, w8, w32, b_Z1k_0, j_Z1k_1, Qb9, Qex, i0, i1, i2, k1, k2, c0, c1', d1, p0, p1, p2, p3, T1, T2, T3, T4, T5, T6, T7]
         ·skip
          have ih := ihn r (by simp; omega)
          rw [Qim hne (by rw [nx_3 e, if_pos (by omega)])]
          clear ihn
          simp +contextual -implicitDefEqProofs (disch := first | assumption | omega | (simp -implicitDefEqProofs only [go_sem]; try omega)) only [↓reduceIte, go_sem, iP, iN, w64, w8, w32, b_Z1k_0, j_Z1k_0, Qb9, Qex, i0, i1, i2, k1, k2, c0, c1', d1, p0, p1, p2, p3, T1, T2, T3, T4, T5, T6, T7, ih]
   ·rw [e] at T3
    have hx2 := sz4 e
    obtain ⟨rfl, rfl⟩ := hlh (by omega) (by omega)
    by_cases hlen : r.length < 3
    ·rw [Qa7 hne (Wks e hlen)]
     have d1 : ((x :: r).length : Int) < 4 := by rw [hl]; omega
     clear ihn
     simp +contextual -implicitDefEqProofs (disch := first | assumption | omega | (simp -implicitDefEqProofs only [go_sem]; try omega)) only [↓reduceIte, go_sem, iP, iN, w64, w8, w32, b_Z1k_0, j_Z1k_1, Qb9, Qex, i0, k1, c0, c1', d1, T1, T2, T3, T4, T5, T6, T7]
    ·match r, hlen with
     | [], h => exact absurd (by simp) h
     | [_], h => exact absurd (by simp) h
     | [_, _], h => exact absurd (by simp) h
     | y :: z :: t :: r, _ =>
      have i1 : ∀ c, eI 1 (.int .i64 1) (.sl (Qad (x :: y :: z :: t :: r)) c) = some (.eptr [.int .u8 y.toNat] 0) := fun c => Qby (by simp; omega)
      have i2 : ∀ c, eI 1 (.int .i64 2) (.sl (Qad (x :: y :: z :: t :: r)) c) = some (.eptr [.int .u8 z.toNat] 0) := fun c => Qby (by simp; omega)
      have i3 : ∀ c, eI 1 (.int .i64 3) (.sl (Qad (x :: y :: z :: t :: r)) c) = some (.eptr [.int .u8 t.toNat] 0) := fun c => Qby (by simp; omega)
      have k2 : ∀ c, Qbb 1 (.sl (Qad (x :: y :: z :: t :: r)) c) (some (.int .i64 4)) none none = some (.sl (Qad r) .no) := fun c => Qkf (r := x :: y :: z :: t :: r) (k := 4) (by simp)
      have d1 : ¬ ((x :: y :: z :: t :: r).length : Int) < 4 := by simp; omega
      by_cases p0 : (y.toNat : Int) < (loN x : Nat)
      ·rw [Qa7 hne (by rw [nx_4 e, if_neg (by omega)])]
       clear ihn
       simp +contextual -implicitDefEqProofs (disch := first | assumption | omega | (simp -implicitDefEqProofs only [go_sem]; try omega)) only [↓reduceIte, go_sem, iP, iN, w64, w8, w32, b_Z1k_0, j_Z1k_1, Qb9, Qex, i0, i1, i2, i3, k1, k2, c0, c1', d1, p0, T1, T2, T3, T4, T5, T6, T7]
      ·skip
       by_cases p1 : ((upN x : Nat) : Int) < (y.toNat : Int)
       ·rw [Qa7 hne (by rw [nx_4 e, if_neg (by omega)])]
        clear ihn
        simp +contextual -implicitDefEqProofs (disch := first | assumption | omega | (simp -implicitDefEqProofs only [go_sem]; try omega)) only [↓reduceIte, go_sem, iP, iN, w64, w8, w32, b_Z1k_0, j_Z1k_1, Qb9, Qex, i0, i1, i2, i3, k1, k2, c0, c1', d1, p0, p1, T1, T2, T3, T4, T5, T6, T7]
       ·skip
        by_cases p2 : (z.toNat : Int) < 128
        ·rw [Qa7 hne (by rw [nx_4 e, if_neg (by omega)])]
         clear ihn
         simp +contextual -implicitDefEqProofs (disch := first | assumption | omega | (simp -implicitDefEqProofs only [go_sem]; try omega)) only [↓reduceIte, go_sem, iP, iN, w64, w8, w32, b_Z1k_0, j_Z1k_1, Qb9, Qex, i0, i1, i2, i3, k1, k2, c0, c1', d1, p0, p1, p2, T1, T2, T3, T4, T5, T6, T7]
        ·skip
         by_cases p3 : 191 < (z.toNat : Int)
         ·rw [Qa7 hne (by rw [nx_4 e, if_neg (by omega)])]
          clear ihn
          simp +contextual -implicitDefEqProofs (disch := first | assumption | omega | (simp -implicitDefEqProofs only [go_sem]; try omega)) only [↓reduceIte, go_sem, iP, iN, w64, w8, w32, b_Z1k_0, j_Z1k_1, Qb9, Qex, i0, i1, i2, i3, k1, k2, c0, c1', d1, p0, p1, p2, p3, T1, T2, T3, T4, T5, T6, T7]
         ·skip
          by_cases p4 : (t.toNat : Int) < 128
          ·rw [Qa7 hne (by rw [nx_4 e, if_neg (by omega)])]
           clear ihn
           simp +contextual -implicitDefEqProofs (disch := first | assumption | omega | (simp -implicitDefEqProofs only [go_sem]; try omega)) only [↓reduceIte, go_sem, iP, iN, w64, w8, w32, b_Z1k_0, j_Z1k_1, Qb9, Qex, i0, i1, i2, i3, k1, k2, c0, c1', d1, p0, p1, p2, p3, p4, T1, T2, T3, T4, T5, T6, T7]
          ·skip
           by_cases p5 : 191 < (t.toNat : Int)
           ·rw [Qa7 hne (by rw [nx_4 e, if_neg (by omega)])]
            clear ihn
            simp +contextual -implicitDefEqProofs (disch := first | assumption | omega | (simp -implicitDefEqProofs only [go_sem]; try omega)) only [↓reduceIte, go_sem, iP, iN, w64, w8, w32, b_Z1k_0, j_Z1k_1, Qb9, Qex, i0, i1, i2, i3, k1, k2, c0, c1', d1, p0, p1, p2, p3, p4, p5, T1, T2, T3, T4, T5, T6, T7]
           ·skip
            have ih := ihn r (by simp; omega)
            rw [Qim hne (by rw [nx_4 e, if_pos (by omega)])]
            clear ihn
            simp +contextual -implicitDefEqProofs (disch := first | assumption | omega | (simp -implicitDefEqProofs only [go_sem]; try omega)) only [↓reduceIte, go_sem, iP, iN, w64, w8, w32, b_Z1k_0, j_Z1k_0, Qb9, Qex, i0, i1, i2, i3, k1, k2, c0, c1', d1, p0, p1, p2, p3, p4, p5, T1, T2, T3, T4, T5, T6, T7, ih]
theorem Weq (r : List UInt8) (hr : r.length ≤ 1000000000) (σ : Objs) (hσ : Wf σ) : E cx 96 [.sl (Qad r) .no] σ = some (.bool (Qch r), σ) := by
 refine Qbv Qbm ?_ (by rw [Qaf, Qcx]; rfl) rfl σ hσ
 have h := Qm1 (r.length + 1) r .no (by omega) (.inr rfl)
 have h' := Qm1 (r.length + 1) r .fx (by omega) (.inl rfl)
 have hc : Qbb 1 (.sl (Qad r) .no) none (some (.int .i64 r.length)) (some (.int .i64 r.length)) = some (.sl (Qad r) .fx) := by
  have e1 : (Qad r).length = r.length := Qn9
  have hb : bound (.int .i64 r.length) r.length = some r.length := by simp [bound]
  have hall : (Qad r).all (fun y => decide (y.cells.length = 1)) = true := all_map (f := fun b : UInt8 => V.int .u8 b.toNat) (fun _ => rfl)
  have hbs : bounds r.length none (some (.int .i64 r.length)) (some (.int .i64 r.length)) = some (0, r.length, some r.length) := by
   simp only [bounds, hb, Option.map_some, Option.bind_eq_bind, Option.bind_some, Option.getD_some]
   rfl
  simp only [Qbb, e1, hbs, Option.bind_eq_bind, Option.bind_some, hall, if_true, List.drop_zero, Nat.sub_zero]
  rw [List.take_of_length_le (by rw [e1]; exact Nat.le_refl _)]
 rw [e_Z1k]
 simp +contextual -implicitDefEqProofs (disch := first | assumption | omega | (simp -implicitDefEqProofs only [go_sem]; try omega)) only [↓reduceIte, go_sem, iP, iN, w64, w8, w32, s_Z1k, hc, h, h']
theorem Wac {b : List UInt8} {i : Nat} (h : i < b.length) : nozB (b.drop i) = (decide (b.getD i 0 ≠ 0) && nozB (b.drop (i + 1))) := by
 rw [List.drop_eq_getElem_cons h, List.getD_eq_getElem?_getD, List.getElem?_eq_getElem h]
 rfl
theorem Qr7 (b : List UInt8) (hb : b.length ≤ 1000000000) : ∀ (f : Nat) (i : Int), (b.length : Int) - i < f → 0 ≤ i ∧ i ≤ b.length →
  l_Zy_0 (Mi cx) 0 0 [.sl (Qad b) .no, .sl (Qad b) .no, .int .i64 b.length, .int .i64 i] [] = some (.bool (nozB (b.drop i.toNat) && Qch b), [])
 | 0, i, hf, hi => by omega
 | f + 1, i, hf, hi => by
  have hv := fun σ hσ => Weq b hb σ hσ
  rw [u_Zy_0]
  by_cases c1 : i < b.length
  ·rw [Wac (i := i.toNat) (by omega)]
   have i0 : eI 1 (.int .i64 i) (.sl (Qad b) .no) = some (.eptr [.int .u8 (b.getD i.toNat 0).toNat] 0) := Qby ⟨hi.1, c1⟩
   by_cases c2 : b.getD i.toNat 0 = 0
   ·have c3 : ((b.getD i.toNat 0).toNat : Int) = 0 := by rw [c2]; rfl
    have e : decide (b.getD i.toNat 0 ≠ 0) = false := by simp only [c2]; rfl
    rw [e, Bool.false_and, Bool.false_and]
    simp +contextual -implicitDefEqProofs (disch := first | assumption | omega | (simp -implicitDefEqProofs only [go_sem]; try omega)) only [↓reduceIte, go_sem, iP, iN, w64, w8, w32, b_Zy_0, i0, c1, c3]
   ·have c3 : ¬ ((b.getD i.toNat 0).toNat : Int) = 0 := fun e => c2 (UInt8.toNat_inj.1 (by show _ = 0; omega))
    have e : decide (b.getD i.toNat 0 ≠ 0) = true := decide_eq_true c2
    have ih := Qr7 b hb f (i + 1) (by omega) (by omega)
    rw [show (i + 1).toNat = i.toNat + 1 by omega] at ih
    rw [e, Bool.true_and]
    simp +contextual -implicitDefEqProofs (disch := first | assumption | omega | (simp -implicitDefEqProofs only [go_sem]; try omega)) only [↓reduceIte, go_sem, iP, iN, w64, w8, w32, b_Zy_0, i0, c1, c3, ih]
  ·have e : b.drop i.toNat = [] := List.drop_eq_nil_of_le (by omega)
   rw [e]
   show _ = some (V.bool (Qch b), [])
   simp +contextual -implicitDefEqProofs (disch := first | assumption | omega | (simp -implicitDefEqProofs only [go_sem]; try omega)) only [↓reduceIte, go_sem, iP, iN, w64, w8, w32, b_Zy_0, c1, hv]
theorem Qtt (b : List UInt8) (hb : b.length ≤ 1000000000) (σ : Objs) (hσ : Wf σ) : E cx 72 [.sl (Qad b) .no] σ = some (.bool (Qd1 b), σ) := by
 refine Qbv Qbm ?_ (by rw [Qaf, Qcx]; rfl) rfl σ hσ
 have h := Qr7 b hb (b.length + 1) 0 (by omega) (by omega)
 have h' : l_Zy_0 (Mi cx) 0 0 [.sl (Qad b) .no, .sl (Qad b) .no, .int .i64 b.length, .int .i64 0] [] = some (.bool (Qd1 b), []) := h
 rw [e_Zy]
 simp +contextual -implicitDefEqProofs (disch := first | assumption | omega | (simp -implicitDefEqProofs only [go_sem]; try omega)) only [↓reduceIte, go_sem, iP, iN, w64, w8, w32, s_Zy, h']
end Go.Proofs.YtapnplljnpconaaGreatDoor
namespace Go.Proofs.YtapnplljnpconaaGreatDoor
open Go.RowKit
def RowA {α : Type} (f : α → Value) (d : α) (base : Nat) (w : World) (a : Option Addr) (n c : Nat) (xs : List α) : Prop :=
 xs.length = n ∧ n ≤ c ∧ c ≤ maxLen ∧ (0 < n → ∃ b off, a = some ⟨b, off, none⟩ ∧ base ≤ b ∧ b < w.heap.size ∧ ∀ j, j < n → w.cell? ⟨b, off + j, none⟩ = some (f (xs.getD j d)))
section
variable {α : Type} {f : α → Value} {d : α} {base : Nat} {w w' : World} {a : Option Addr} {n c : Nat} {xs : List α} {v : Value}
theorem RowA.len (h : RowA f d base w a n c xs) : xs.length = n := h.1
theorem RowA.le_cap (h : RowA f d base w a n c xs) : n ≤ c := h.2.1
theorem RowA.le (h : RowA f d base w a n c xs) : n ≤ 9223372036854775807 := by
 have h1 := h.2.1; have h2 := h.2.2.1; simp only [maxLen] at h2; omega
theorem RowA.at (h : RowA f d base w a n c xs) (hn : 0 < n) :
  ∃ b off, a = some ⟨b, off, none⟩ ∧ base ≤ b ∧ b < w.heap.size ∧ ∀ j, j < n → w.cell? ⟨b, off + j, none⟩ = some (f (xs.getD j d)) := h.2.2.2 hn
theorem RowA.mono {base' : Nat} (h : RowA f d base w a n c xs) (hb : base' ≤ base) : RowA f d base' w a n c xs := by
 obtain ⟨h1, h2, h3, h4⟩ := h
 refine ⟨h1, h2, h3, fun hn => ?_⟩
 obtain ⟨b, off, e, hbb, hlt, hc⟩ := h4 hn
 exact ⟨b, off, e, by omega, hlt, hc⟩
theorem RowA.keepB {B : Nat} (h : RowA f d base w a n c xs) (hb : Below B w w') (hB : w.heap.size ≤ B) : RowA f d base w' a n c xs := by
 obtain ⟨h1, h2, h3, h4⟩ := h
 refine ⟨h1, h2, h3, fun hn => ?_⟩
 obtain ⟨b, off, e, hbb, hlt, hc⟩ := h4 hn
 refine ⟨b, off, e, hbb, Nat.lt_of_lt_of_le hlt hb.size, fun j hj => ?_⟩
 rw [hb.cell (p := ⟨b, off + j, none⟩) (Nat.lt_of_lt_of_le hlt hB)]
 exact hc j hj
theorem RowA.keep (h : RowA f d base w a n c xs) (hb : Below w.heap.size w w') : RowA f d base w' a n c xs := h.keepB hb (Nat.le_refl _)
theorem RowA.drew (h : RowA f d base w a n c xs) : RowA f d base w.drew a n c xs := h.keep (Below.refl _ _).drew
theorem RowA.setCell (h : RowA f d base w a n c xs) {p : Addr} (hp : p.block < base) (u : Value) : RowA f d base (w.setCell p u) a n c xs := by
 obtain ⟨h1, h2, h3, h4⟩ := h
 refine ⟨h1, h2, h3, fun hn => ?_⟩
 obtain ⟨b, off, e, hbb, hlt, hc⟩ := h4 hn
 refine ⟨b, off, e, hbb, by simpa [World.setCell] using hlt, fun j hj => ?_⟩
 rw [World.cell?_of_block (w := w) (Below.heap_setCell w p u b (by omega))]
 exact hc j hj
theorem RowA.nil (f : α → Value) (d : α) (base : Nat) (w : World) : RowA f d base w none 0 0 [] := ⟨rfl, Nat.le_refl _, by simp [maxLen], fun h => absurd h (Nat.lt_irrefl _)⟩
theorem RowA.take (h : RowA f d base w a n c xs) (m c' : Nat) (hm : m ≤ n) (hc : m ≤ c') (hc' : c' ≤ c) : RowA f d base w a m c' (xs.take m) := by
 obtain ⟨h1, h2, h3, h4⟩ := h
 refine ⟨by simp; omega, hc, Nat.le_trans hc' h3, fun hn => ?_⟩
 obtain ⟨b, off, e, hbb, hlt, hx⟩ := h4 (by omega)
 refine ⟨b, off, e, hbb, hlt, fun j hj => ?_⟩
 rw [hx j (by omega)]
 simp [List.getD_eq_getElem?_getD, hj]
end
def RowV {α : Type} (f : α → Value) (d : α) (base : Nat) (w : World) (v : Value) (xs : List α) : Prop := ∃ a n c, v = .slice a n c ∧ RowA f d base w a n c xs
theorem RowV.keep {α} {f : α → Value} {d base w w' v} {xs : List α} (h : RowV f d base w v xs) (hb : Below w.heap.size w w') : RowV f d base w' v xs :=
 let ⟨a, n, c, e, hr⟩ := h; ⟨a, n, c, e, hr.keep hb⟩
theorem RowV.mono {α} {f : α → Value} {d base base' w v} {xs : List α} (h : RowV f d base w v xs) (hb : base' ≤ base) : RowV f d base' w v xs :=
 let ⟨a, n, c, e, hr⟩ := h; ⟨a, n, c, e, hr.mono hb⟩
theorem RowV.setCell {α} {f : α → Value} {d base w v} {xs : List α} (h : RowV f d base w v xs) {p : Addr} (hp : p.block < base) (u : Value) : RowV f d base (w.setCell p u) v xs :=
 let ⟨a, n, c, e, hr⟩ := h; ⟨a, n, c, e, hr.setCell hp u⟩
abbrev VB : Bool → Value := Value.bool
abbrev VI : Int → Value := Value.int .i64
theorem Wad (b off j : Nat) : (⟨b, off, none⟩ : Addr).add j = ⟨b, off + j, none⟩ := by
 unfold Addr.add; split <;> simp_all
theorem RowA.news {α} {f : α → Value} {d base w a n c} {xs : List α} (h : RowA f d base w (some a) n c xs) : ∀ j u, (xs.map f)[j]? = some u → w.cell? (a.add j) = some u := by
 intro j u hu
 have hl := h.len
 have hj : j < n := by
  rcases Nat.lt_or_ge j n with h | h
  ·exact h
  ·rw [List.getElem?_eq_none (by simp; omega)] at hu; cases hu
 obtain ⟨b, off, e, _, _, hc⟩ := h.at (by omega)
 simp only [Option.some.injEq] at e
 subst e
 rw [Wad, hc j hj]
 rw [List.getElem?_map, List.getElem?_eq_getElem (by omega)] at hu
 simp only [Option.map_some, Option.some.injEq] at hu
 rw [← hu]
 simp [List.getD, show j < xs.length by omega]
def RowG {α : Type} (g : α → List Value) (sz : Nat) (d : α) (w : World) (a : Option Addr) (n c : Nat) (xs : List α) : Prop :=
 xs.length = n ∧ n ≤ c ∧ c ≤ maxLen ∧ (0 < n → ∃ b off, a = some ⟨b, off, none⟩ ∧ b < w.heap.size ∧ ∀ j, j < n → ∀ i v, (g (xs.getD j d))[i]? = some v → w.cell? ⟨b, off + j * sz + i, none⟩ = some v)
theorem RowG.len {α} {g : α → List Value} {sz d w a n c} {xs : List α} (h : RowG g sz d w a n c xs) : xs.length = n := h.1
theorem RowG.le_cap {α} {g : α → List Value} {sz d w a n c} {xs : List α} (h : RowG g sz d w a n c xs) : n ≤ c := h.2.1
theorem RowG.le {α} {g : α → List Value} {sz d w a n c} {xs : List α} (h : RowG g sz d w a n c xs) : n ≤ 9223372036854775807 := by
 have h1 := h.2.1; have h2 := h.2.2.1; simp only [maxLen] at h2; omega
theorem RowG.keep {α} {g : α → List Value} {sz d w w' a n c} {xs : List α} (h : RowG g sz d w a n c xs) (hb : Below w.heap.size w w') : RowG g sz d w' a n c xs := by
 obtain ⟨h1, h2, h3, h4⟩ := h
 refine ⟨h1, h2, h3, fun hn => ?_⟩
 obtain ⟨b, off, e, hlt, hc⟩ := h4 hn
 refine ⟨b, off, e, Nat.lt_of_lt_of_le hlt hb.size, fun j hj i v hv => ?_⟩
 rw [hb.cell (p := ⟨b, off + j * sz + i, none⟩) hlt]
 exact hc j hj i v hv
theorem RowG.at {α} {g : α → List Value} {sz d w a n c} {xs : List α} (h : RowG g sz d w a n c xs) (hn : 0 < n) :
  ∃ b off, a = some ⟨b, off, none⟩ ∧ b < w.heap.size ∧ ∀ j, j < n → ∀ i v, (g (xs.getD j d))[i]? = some v → w.cell? ⟨b, off + j * sz + i, none⟩ = some v := h.2.2.2 hn
end Go.Proofs.YtapnplljnpconaaGreatDoor
namespace Go.Proofs.YtapnplljnpconaaGreatDoor
open Go.ChangeShapes Go.WideShapes Go.ChangeAt Go.RowKit
theorem Tryz.ownKnob : ownKnob Tryz.prog.godebug = none := by kernel_rfl
theorem Tryz.laidOut : laidOutB Tryz.prog = true := by kernel_rfl
section
variable {H : Type} {enc : TypeId × Value → H} {P : Program}
theorem Qi1 (hl : laidOutB P = true) {W W' : World} {sp : Nat → Bool} : ∀ (ts : List TypeId) (vs : List Value) (ds : List (DataW H)) (ps : List MemPlace),
  (∀ t ∈ ts, P.readableRec t = true ∧ t < P.types.size) → DataW.TrodAll enc P W 0 (fun _ => true) true ts vs ds ps → (∀ p ∈ ps, W.sameAt W' p) → (∀ p ∈ ps, sp p.block = true) →
  DataW.TrodAll enc P W' 0 sp true ts vs ds ps
 | [], _, _, _, _, h, _, _ => by
  obtain ⟨rfl, rfl, rfl⟩ := trodAll_nil h
  exact trodAll_mk0
 | t :: ts, _, _, _, ht, h, h1, h2 => by
  obtain ⟨v, vs', d, ds', p, q, rfl, rfl, rfl, hv, hr⟩ := trodAll_cons h
  have ht0 := ht t (by simp)
  exact trodAll_cons_mk (WideElems.Trod_stays hl ht0.1 ht0.2 hv (fun x hx => h1 x (by simp [hx])) (fun x hx => h2 x (by simp [hx])))
   (Qi1 hl ts vs' ds' q (fun t h => ht t (by simp [h])) hr (fun x hx => h1 x (by simp [hx])) (fun x hx => h2 x (by simp [hx])))
theorem Wae {f : Func} {s : ChangeSpec} {tb : TypeId} {W W' : World} {args : Array Value} {ds : List (DataW H)} {before : List MemPlace}
  (hl : laidOutB P = true) (ht : ∀ t ∈ f.params.toList, P.readableRec t = true ∧ t < P.types.size)
  (hW : DataW.Whole enc P f.params.toList s.vars false W args.toList ds [] before) (hv : s.vars = []) (hr : f.resultTypes = #[tb]) (hb : P.underlying tb = some .bool)
  (hfn : s.fn H ds = { results := [.lit (.bool true)], args := ds }) (hbl : Below W.heap.size W W') : s.post enc P f false true false false W args (.bool true) W' := by
 have hlt : ∀ p ∈ before, p.block < W.heap.size := fun p hp => hW.lt p hp
 have hW0 := hW
 obtain ⟨p, q, hA, hV, hpq, hz, hn⟩ := hW
 rw [hv] at hV
 obtain ⟨_, rfl⟩ := trodVars_none hV
 simp only [List.append_nil] at hpq
 subst hpq
 have hfn' : s.fn H (ds ++ []) = { results := [.lit (.bool true)], args := ds } := by rw [List.append_nil]; exact hfn
 have hold : ∀ x ∈ before, (fun b => decide (b < W.heap.size)) x.block = true := fun x hx => by simpa using hlt x hx
 have keep : ∀ sp : Nat → Bool, (∀ x ∈ before, sp x.block = true) → DataW.TrodAll enc P W' 0 sp true f.params.toList args.toList ds before := fun sp hs =>
  Qi1 hl _ _ _ _ ht hA (fun x hx => hbl.same (hlt x hx)) hs
 have hres : ∀ (b : Nat) (sp : Nat → Bool) (hd : Bool), DataW.TrodAll enc P W' b sp hd f.resultTypes.toList ((Value.bool true).resultList f.resultTypes.size) (s.fn H (ds ++ [])).results [] := fun b sp hd => by
  rw [hfn', hr]; exact trodAll_mk1 (shut_bool hb true)
 refine ⟨ds, [], before, [], before, [], hW0, hres _ _ _, ?_, ?_, World.keptBut_mono (fun x hx => ⟨hx, Or.inr (Or.inl hx)⟩) (hbl.frame (· ∈ before)), fun h => by cases h⟩
 ·rw [hfn']; exact keep _ hold
 ·rw [hv, hfn']; rfl
end
end Go.Proofs.YtapnplljnpconaaGreatDoor
namespace Go.Ev
open Go Go.ChangeShapes Go.WideShapes Go.RowKit
section
variable {H : Type} {enc : TypeId × Value → H} {P : Program} {w : World} {α : Type}
def Hv (P : Program) (t : TypeId) (d : DataW H) : Prop := ∀ k ∈ d.weights P t, k ≤ reachBytes
def Dec (enc : TypeId × Value → H) (P : Program) (w : World) (n : Nat) (t : TypeId) (v : α → List V) (Q : α → Prop) : Prop :=
 ∀ fuel, fuel ≤ n → ∀ cs y, DataW.trod enc P w 0 (fun _ => true) true fuel t cs = some y → Hv P t y.1 → ∃ x : α, Reps (memOf w) noPlc cs (v x) ∧ Q x
def I64 (n : Int) : Prop := -9223372036854775808 ≤ n ∧ n ≤ 9223372036854775807
theorem Qg5 {n : Nat} {t : TypeId} (ht : P.underlying t = some (.int .i64)) : Dec enc P w n t (fun i => [.int .i64 i]) I64 := by
 intro fuel _ cs y h _
 obtain ⟨i, rfl, _, hw⟩ := DataW.trod_int ht h
 exact ⟨i, Reps.cons (.int _ _) Reps.nil, show _ ∧ _ by simpa [Lit.wf, IntKind.min, IntKind.max, IntKind.signed, IntKind.bits] using hw⟩
theorem Qr8 {n : Nat} {t : TypeId} (ht : P.underlying t = some .bool) : Dec enc P w n t (fun i => [.bool i]) (fun _ => True) := by
 intro fuel _ cs y h _
 obtain ⟨i, rfl, _⟩ := DataW.trod_bool ht h
 exact ⟨i, Reps.cons (.bool _) Reps.nil, trivial⟩
theorem Qkg {n : Nat} {t : TypeId} (ht : P.underlying t = some .string) : Dec enc P w n t (fun i => [.str i]) (fun s => s.length ≤ reachBytes) := by
 intro fuel _ cs y h hv
 obtain ⟨i, rfl, rfl, hw⟩ := DataW.trod_string ht h
 refine ⟨i.data.toList, Reps.cons (.str _ _ rfl) Reps.nil, hv _ ?_⟩
 simp [DataW.weights]
theorem Qi2 {P : Program} : ∀ {ts : List TypeId} {ds : List (DataW H)} {i : Nat} {t : TypeId} {d : DataW H} {k : Nat}, ts[i]? = some t → ds[i]? = some d → k ∈ d.weights P t → k ∈ DataW.weightsEach P ts ds
 | [], _, i, t, d, k, h, _, _ => by simp at h
 | _ :: _, [], i, t, d, k, _, h, _ => by simp at h
 | t0 :: ts, d0 :: ds, 0, t, d, k, h1, h2, h3 => by
  simp at h1 h2
  subst h1 h2
  simp only [DataW.weightsEach]
  exact List.mem_append_left _ h3
 | t0 :: ts, d0 :: ds, i + 1, t, d, k, h1, h2, h3 => by
  simp only [DataW.weightsEach]
  exact List.mem_append_right _ (Qi2 (i := i) (by simpa using h1) (by simpa using h2) h3)
theorem Qkh {P : Program} {e : TypeId} : ∀ {ds : List (DataW H)} {d : DataW H} {k : Nat}, d ∈ ds → k ∈ d.weights P e → k ∈ DataW.weightsAll P e ds
 | [], d, k, h, _ => by cases h
 | d0 :: ds, d, k, h, h3 => by
  simp only [DataW.weightsAll]
  rcases List.mem_cons.1 h with rfl | h
  ·exact List.mem_append_left _ h3
  ·exact List.mem_append_right _ (Qkh h h3)
theorem Qeo {n : Nat} {t : TypeId} {fs : Array Field} {cs : List Value} {y : DataW H × List MemPlace} (ht : P.underlying t = some (.struct fs)) (h : DataW.trod enc P w 0 (fun _ => true) true n t cs = some y) (hv : Hv P t y.1) :
  cs.length = P.cellsOf t ∧ ∃ m, n = m + 1 ∧ ∀ (i : Nat) (f : Field), fs[i]? = some f → ∃ z, DataW.trod enc P w 0 (fun _ => true) true m f.type ((cs.drop f.offset).take (P.cellsOf f.type)) = some z ∧ Hv P f.type z.1 := by
 obtain ⟨xs, m, hm, rfl, hl, hx, hf⟩ := DataW.trod_struct ht h
 refine ⟨hl, m, hm, fun i f hi => ?_⟩
 have hi2 : i < xs.length := by rw [hx]; exact (Array.getElem?_eq_some_iff.1 hi).1
 refine ⟨xs[i], by rw [hf i f hi, List.getElem?_eq_getElem hi2], fun k hk => hv k ?_⟩
 simp only [DataW.weights, ht]
 exact Qi2 (i := i) (by simp [hi]) (by simp [hi2]) hk
theorem Qci {M : Mem} {ι : Plc} {cs : List Value} {a m k : Nat} {xs ys : List V} (hx : Reps M ι ((cs.drop a).take m) xs) (hy : Reps M ι ((cs.drop (a + m)).take k) ys) : Reps M ι ((cs.drop a).take (m + k)) (xs ++ ys) := by
 have : (cs.drop a).take (m + k) = (cs.drop a).take m ++ (cs.drop (a + m)).take k := by rw [List.take_add, List.drop_drop]
 rw [this]
 exact hx.append hy
theorem Qgc {M : Mem} {ι : Plc} {cs : List Value} {m : Nat} {xs : List V} (hl : cs.length = m) (hx : Reps M ι ((cs.drop 0).take m) xs) : Reps M ι cs xs := by
 rw [List.drop_zero, List.take_of_length_le (by omega)] at hx
 exact hx
theorem Qoo (b off j : Nat) : (⟨b, off, none⟩ : Addr).add j = ⟨b, off + j, none⟩ := by
 by_cases h : j = 0
 ·subst h; rfl
 ·simp [Addr.add, h]
theorem Qr9 {α : Type} (P : Nat → α → Prop) : ∀ n, (∀ i, i < n → ∃ x, P i x) → ∃ xs : List α, xs.length = n ∧ ∀ i x, xs[i]? = some x → P i x := by
 intro n
 induction n with
 | zero => intro _; exact ⟨[], rfl, fun i x hi => by cases hi⟩
 | succ n ih =>
  intro h
  obtain ⟨xs, hl, hx⟩ := ih (fun i hi => h i (by omega))
  obtain ⟨y, hy⟩ := h n (by omega)
  refine ⟨xs ++ [y], by simp [hl], fun i x hi => ?_⟩
  by_cases e : i < xs.length
  ·rw [List.getElem?_append_left e] at hi; exact hx i x hi
  ·have h1 := (List.getElem?_eq_some_iff.1 hi).1
   have e2 : i = n := by simp at h1; omega
   subst e2
   rw [List.getElem?_append_right (by omega), hl, Nat.sub_self] at hi
   cases hi
   exact hy
theorem Qki {β : Type} {ls : List (List β)} {sz : Nat} (hs : ∀ l ∈ ls, l.length = sz) (h0 : 0 < sz) (i : Nat) : ls.flatten[i]? = (ls[i / sz]?).bind fun l => l[i % sz]? := by
 induction ls generalizing i with
 | nil => simp
 | cons l ls ih =>
  have hl := hs l (List.mem_cons_self ..)
  rw [List.flatten_cons]
  by_cases h : i < sz
  ·rw [List.getElem?_append_left (by omega), Nat.div_eq_of_lt h, Nat.mod_eq_of_lt h]
   rfl
  ·have e1 : i / sz = (i - sz) / sz + 1 := by
    have := Nat.sub_add_cancel (Nat.le_of_not_lt h)
    rw [← Nat.add_div_right _ h0, this]
   have e2 : i % sz = (i - sz) % sz := by
    have := Nat.sub_add_cancel (Nat.le_of_not_lt h)
    rw [← Nat.add_mod_right (i - sz), this]
   rw [List.getElem?_append_right (by omega), hl, ih (fun l' h' => hs l' (List.mem_cons_of_mem _ h')), e1, e2]
   rfl
theorem Qfp {n : Nat} {t e : TypeId} {f : α → V} {Q : α → Prop} {sz : Nat} (ht : P.underlying t = some (.slice e)) (hc : P.cellsOf e = sz) (h0 : 0 < sz) (hbt : 0 < P.bytesOf e) (hf : ∀ x, (f x).cells.length = sz) (hd : Dec enc P w n e (fun x => (f x).cells) Q) :
  Dec enc P w (n + 1) t (fun s => [vSl f s]) (fun s => s.l.length ≤ reachBytes ∧ ∀ x ∈ s.l, Q x) := by
 intro fuel hfu cs y h hv
 rcases DataW.trod_slice ht h with ⟨rfl, _⟩ | ⟨a, len, cap, elems, rest, m, rfl, rfl, rfl, _, hl, hm, hel, hi, hr, _⟩
 ·exact ⟨.nil, Reps.cons .nils Reps.nil, Nat.zero_le _, fun x hx => by cases hx⟩
 ·have key : ∀ i, i < len → ∃ x : α, (∃ us : List Value, us.length = sz ∧ (∀ j u, us[j]? = some u → w.cell? ((a.add (i * sz)).add j) = some u) ∧ Reps (memOf w) noPlc us (f x).cells) ∧ Q x := by
   intro i hil
   have h1 := hi i hil
   rw [List.getElem?_eq_getElem (by omega), hc] at h1
   obtain ⟨us, hu, h2⟩ := Option.bind_eq_some_iff.1 h1
   obtain ⟨_, hul, hat⟩ := World.cells?_some hu
   obtain ⟨x, hx, hq⟩ := hd m (by omega) us _ h2 (fun k hk => hv k (by
    simp only [DataW.weights, ht]
    refine List.mem_cons_of_mem _ (List.mem_append_left _ (Qkh (List.mem_map_of_mem (List.getElem_mem (l := elems) (n := i) (by omega))) hk))))
   refine ⟨x, ⟨us, hul, fun j u hj => ?_, hx⟩, hq⟩
   have hjl : j < sz := by rw [← hul]; exact (List.getElem?_eq_some_iff.1 hj).1
   rw [hat j hjl, hj]
  obtain ⟨xs, hxl, hx⟩ := Qr9 _ len key
  have hlenb : len ≤ reachBytes := by
   have h3 : (elems.length + rest.length) * P.bytesOf e ≤ reachBytes := hv _ (by
    simp only [DataW.weights, ht, List.length_map]
    exact List.mem_cons_self ..)
   have h4 : elems.length + rest.length ≤ (elems.length + rest.length) * P.bytesOf e := Nat.le_mul_of_pos_right _ hbt
   omega
  refine ⟨.row xs, Reps.cons ?_ Reps.nil, by show xs.length ≤ _; omega, fun x hxm => ?_⟩
  ·show Rep (memOf w) noPlc (.slice (some a) len cap) (.sl (xs.map f) .no)
   by_cases hcap : cap = 0
   ·obtain rfl : len = 0 := by omega
    subst hcap
    obtain rfl : xs = [] := List.length_eq_zero_iff.1 hxl
    exact .sl0 a .no fun s e => by cases e
   ·
    have hsome : ∃ u, w.cell? a = some u := by
     have h1 : ∃ us, w.cells? 0 (a.add 0) sz = some us := by
      by_cases hlen : len = 0
      ·obtain ⟨hr1, hr2⟩ := hr rfl
       obtain ⟨d0, hd0⟩ : ∃ d, rest[0]? = some d := ⟨_, List.getElem?_eq_getElem (by omega)⟩
       have h1 := hr2 0 (by omega)
       rw [hd0, hc, hlen] at h1
       obtain ⟨us, hu, _⟩ := Option.bind_eq_some_iff.1 h1
       exact ⟨us, by simpa using hu⟩
      ·have h1 := hi 0 (by omega)
       rw [List.getElem?_eq_getElem (by omega), hc] at h1
       obtain ⟨us, hu, _⟩ := Option.bind_eq_some_iff.1 h1
       exact ⟨us, by simpa using hu⟩
     obtain ⟨us, hu⟩ := h1
     obtain ⟨_, hul, hat⟩ := World.cells?_some hu
     have := hat 0 h0
     rw [List.getElem?_eq_getElem (by omega)] at this
     exact ⟨_, by simpa [Addr.add] using this⟩
    obtain ⟨u0, hu0⟩ := hsome
    have hsp : a.spot = none := by
     cases hsp : a.spot with
     | none => rfl
     | some s =>
      exfalso
      unfold World.cell? at hu0
      rw [hsp] at hu0
      cases hb : w.heap[a.block]? with
      | none => simp [hb] at hu0
      | some o => cases o <;> simp [hb] at hu0
    obtain ⟨b, off, spot⟩ := a
    simp only at hsp
    subst hsp
    have hall : ∀ i, i < len → ∃ us : List Value, us.length = sz ∧ (∀ j u, us[j]? = some u → w.cell? ⟨b, off + (i * sz + j), none⟩ = some u) ∧ ∃ x, xs[i]? = some x ∧ Reps (memOf w) noPlc us (f x).cells := by
     intro i hil
     obtain ⟨us, h1, h2, h3⟩ := (hx i _ (List.getElem?_eq_getElem (by omega))).1
     refine ⟨us, h1, fun j u hj => ?_, _, List.getElem?_eq_getElem (by omega), h3⟩
     have := h2 j u hj
     rw [Qoo, Qoo, Nat.add_assoc] at this
     exact this
    obtain ⟨uss, hul, hus⟩ := Qr9 _ len hall
    have hsz : ∀ l ∈ uss, l.length = sz := fun l hl => by
     obtain ⟨i, hi, e⟩ := List.getElem_of_mem hl
     exact (hus i l (by rw [List.getElem?_eq_getElem hi, e])).1
    have hfl : (xs.map f).flatMap V.cells = (xs.map fun x => (f x).cells).flatten := by rw [List.flatMap_def, List.map_map]; rfl
    have hszx : ∀ l ∈ xs.map (fun x => (f x).cells), l.length = sz := fun l hl => by
     obtain ⟨x, _, rfl⟩ := List.mem_map.1 hl
     exact hf x
    have hlen1 : uss.flatten.length = len * sz := by
     rw [List.length_flatten, List.map_congr_left (g := fun _ => sz) hsz, List.map_const', List.sum_replicate_nat, hul]
    have hlen2 : (xs.map fun x => (f x).cells).flatten.length = len * sz := by
     rw [List.length_flatten, List.map_congr_left (g := fun _ => sz) hszx, List.map_const', List.sum_replicate_nat, List.length_map, hxl]
    have key := Rep.sl (M := memOf w) (ι := noPlc) (xs.map f) .no b off cap sz uss.flatten
     (fun y hy => by obtain ⟨x, _, rfl⟩ := List.mem_map.1 hy; exact hf x)
     (by rw [hfl, hlen1, hlen2])
     (fun i u hu => by
      rw [Qki hsz h0] at hu
      obtain ⟨l, hl1, hl2⟩ := Option.bind_eq_some_iff.1 hu
      have h1 := (hus _ l hl1).2.1 _ u hl2
      show w.cell? ⟨b, off + i, none⟩ = _
      rw [show i / sz * sz + i % sz = i by rw [Nat.mul_comm]; exact Nat.div_add_mod i sz] at h1
      exact h1)
     (fun i u c hu hc' => by
      rw [hfl, Qki hszx h0] at hc'
      rw [Qki hsz h0] at hu
      obtain ⟨l, hl1, hl2⟩ := Option.bind_eq_some_iff.1 hu
      obtain ⟨k, hk1, hk2⟩ := Option.bind_eq_some_iff.1 hc'
      obtain ⟨x, hxx, hrep⟩ := (hus _ l hl1).2.2
      rw [List.getElem?_map, hxx] at hk1
      cases hk1
      exact hrep.2 _ u c hl2 hk2)
     (by rw [List.length_map, hxl]; exact hl) (fun e => by cases e)
    rw [List.length_map, hxl] at key
    exact key
  ·obtain ⟨k, hk, e⟩ := List.getElem_of_mem hxm
   have := (hx k _ (List.getElem?_eq_getElem hk)).2
   rwa [e] at this
theorem Dec.mono {n m : Nat} {t : TypeId} {v : α → List V} {Q : α → Prop} (h : Dec enc P w n t v Q) (hm : m ≤ n) : Dec enc P w m t v Q := fun fuel hf cs y hy hv => h fuel (Nat.le_trans hf hm) cs y hy hv
end
end Go.Ev
set_option maxRecDepth 100000
namespace Go.Proofs.YtapnplljnpconaaGreatDoor
open Go Go.Ev Go.ChangeShapes Go.WideShapes Go.RowKit
section
variable {H : Type} {enc : TypeId × Value → H} {w : World}
abbrev DecP (enc : TypeId × Value → H) (w : World) (n : Nat) (t : TypeId) {α : Type} (v : α → List V) (Q : α → Prop) : Prop := Dec enc Tryz.prog w n t v Q
def maxS (s : List UInt8) : Prop := s.length ≤ reachBytes
def SmOk {α : Type} (K : Sl α → Prop) (s : Sm α) : Prop := I64 s.kind ∧ I64 s.ns ∧ maxS s.pre ∧ maxS s.name ∧ I64 s.op ∧ maxS s.text ∧ I64 s.mark ∧ I64 s.a ∧ I64 s.b ∧ K s.of
def SlOk {α : Type} (K : α → Prop) (s : Sl α) : Prop := s.l.length ≤ reachBytes ∧ ∀ x ∈ s.l, K x
def CoOk {α : Type} (K : Sl α → Prop) (c : Co α) : Prop := SlOk (fun p : Cp α => I64 p.comb ∧ SlOk (SmOk K) p.list) c.list
def CxOk : (n : Nat) → Cx n → Prop
 | 0, x => x.elim
 | n + 1, c => CoOk (SlOk (CxOk n)) c
theorem Waf {n : Nat} : DecP enc w n 46 (fun x : Int × List UInt8 × Bool => [.int .i64 x.1, .str x.2.1, .bool x.2.2]) (fun x => I64 x.1 ∧ maxS x.2.1) := by
 intro fuel hfu cs y h hv
 obtain ⟨hl, m, rfl, hf⟩ := Qeo Tryz.underlying46 h hv
 obtain ⟨_, h0, v0⟩ := hf 0 _ rfl
 obtain ⟨_, h1, v1⟩ := hf 1 _ rfl
 obtain ⟨_, h2, v2⟩ := hf 2 _ rfl
 obtain ⟨x0, r0, q0⟩ := Qg5 (n := m) Tryz.underlying3 m (Nat.le_refl _) _ _ h0 v0
 obtain ⟨x1, r1, q1⟩ := Qkg (n := m) Tryz.underlying9 m (Nat.le_refl _) _ _ h1 v1
 obtain ⟨x2, r2, q2⟩ := Qr8 (n := m) Tryz.underlying4 m (Nat.le_refl _) _ _ h2 v2
 exact ⟨(x0, x1, x2), Qgc (m := 3) hl (Qci (m := 2) (Qci (m := 1) r0 r1) r2), q0, q1⟩
theorem Wh0 {n : Nat} : DecP enc w n 83 (fun x : Int × Int => [.int .i64 x.1, .int .i64 x.2]) (fun x => I64 x.1 ∧ I64 x.2) := by
 intro fuel hfu cs y h hv
 obtain ⟨hl, m, rfl, hf⟩ := Qeo Tryz.underlying83 h hv
 obtain ⟨_, h0, v0⟩ := hf 0 _ rfl
 obtain ⟨_, h1, v1⟩ := hf 1 _ rfl
 obtain ⟨x0, r0, q0⟩ := Qg5 (n := m) Tryz.underlying3 m (Nat.le_refl _) _ _ h0 v0
 obtain ⟨x1, r1, q1⟩ := Qg5 (n := m) Tryz.underlying3 m (Nat.le_refl _) _ _ h1 v1
 exact ⟨(x0, x1), Qgc (m := 2) hl (Qci (m := 1) r0 r1), q0, q1⟩
section
variable {n : Nat} {α : Type} {v : α → V} {K : Sl α → Prop} (hd : DecP enc w n 51 (fun s => [vSl v s]) K)
include hd
theorem Wh1 : DecP enc w (n + 1) 96 (fun s => (vSm v s).cells) (SmOk K) := by
 intro fuel hfu cs y h hv
 obtain ⟨hl, m, rfl, hf⟩ := Qeo Tryz.underlying96 h hv
 obtain ⟨_, h0, v0⟩ := hf 0 _ rfl
 obtain ⟨_, h1, v1⟩ := hf 1 _ rfl
 obtain ⟨_, h2, v2⟩ := hf 2 _ rfl
 obtain ⟨_, h3, v3⟩ := hf 3 _ rfl
 obtain ⟨_, h4, v4⟩ := hf 4 _ rfl
 obtain ⟨_, h5, v5⟩ := hf 5 _ rfl
 obtain ⟨_, h6, v6⟩ := hf 6 _ rfl
 obtain ⟨_, h7, v7⟩ := hf 7 _ rfl
 obtain ⟨x0, r0, q0⟩ := Qg5 (n := m) Tryz.underlying3 m (Nat.le_refl _) _ _ h0 v0
 obtain ⟨x1, r1, q1⟩ := Qg5 (n := m) Tryz.underlying3 m (Nat.le_refl _) _ _ h1 v1
 obtain ⟨x2, r2, q2⟩ := Qkg (n := m) Tryz.underlying9 m (Nat.le_refl _) _ _ h2 v2
 obtain ⟨x3, r3, q3⟩ := Qkg (n := m) Tryz.underlying9 m (Nat.le_refl _) _ _ h3 v3
 obtain ⟨x4, r4, q4⟩ := Waf (n := m) m (Nat.le_refl _) _ _ h4 v4
 obtain ⟨x5, r5, q5⟩ := Qg5 (n := m) Tryz.underlying3 m (Nat.le_refl _) _ _ h5 v5
 obtain ⟨x6, r6, q6⟩ := Wh0 (n := m) m (Nat.le_refl _) _ _ h6 v6
 obtain ⟨x7, r7, q7⟩ := hd m (by omega) _ _ h7 v7
 exact ⟨⟨x0, x1, x2, x3, x4.1, x4.2.1, x4.2.2, x5, x6.1, x6.2, x7⟩, Qgc (m := 11) hl (Qci (m := 10) (Qci (m := 8) (Qci (m := 7) (Qci (m := 4) (Qci (m := 3) (Qci (m := 2) (Qci (m := 1) r0 r1) r2) r3) r4) r5) r6) r7),
  q0, q1, q2, q3, q4.1, q4.2, q5, q6.1, q6.2, q7⟩
theorem Wh2 : DecP enc w (n + 3) 94 (fun c => (vCp v c).cells) (fun p => I64 p.comb ∧ SlOk (SmOk K) p.list) := by
 intro fuel hfu cs y h hv
 obtain ⟨hl, m, rfl, hf⟩ := Qeo Tryz.underlying94 h hv
 obtain ⟨_, h0, v0⟩ := hf 0 _ rfl
 obtain ⟨_, h1, v1⟩ := hf 1 _ rfl
 obtain ⟨x0, r0, q0⟩ := Qg5 (n := m) Tryz.underlying3 m (Nat.le_refl _) _ _ h0 v0
 obtain ⟨x1, r1, q1⟩ := Qfp (sz := 11) Tryz.underlying92 (by kernel_rfl) (by decide) (of_decide_eq_true (by kernel_rfl)) (fun _ => rfl) (Wh1 hd) m (by omega) _ _ h1 v1
 exact ⟨⟨x0, x1⟩, Qgc (m := 2) hl (Qci (m := 1) r0 r1), q0, q1⟩
theorem Wh3 : DecP enc w (n + 5) 91 (fun c => (vCo v c).cells) (CoOk K) := by
 intro fuel hfu cs y h hv
 obtain ⟨hl, m, rfl, hf⟩ := Qeo Tryz.underlying91 h hv
 obtain ⟨_, h0, v0⟩ := hf 0 _ rfl
 obtain ⟨x0, r0, q0⟩ := Qfp (sz := 2) Tryz.underlying89 (by kernel_rfl) (by decide) (of_decide_eq_true (by kernel_rfl)) (fun _ => rfl) (Wh2 hd) m (by omega) _ _ h0 v0
 exact ⟨⟨x0⟩, Qgc (m := 1) hl r0, q0⟩
end
theorem Qop : ∀ (n : Nat) (x : Cx n), (vCx n x).cells.length = 1
 | 0, x => x.elim
 | n + 1, x => rfl
theorem Wbo : ∀ n, DecP enc w n 91 (fun c => (vCx n c).cells) (CxOk n)
 | 0 => fun fuel hf cs y h _ => by
  obtain rfl : fuel = 0 := by omega
  cases h
 | n + 1 => by
  have ih := Wbo n
  have h1 : DecP enc w (n + 1) 51 (fun s => [vSl (vCx n) s]) (SlOk (CxOk n)) := Qfp (sz := 1) Tryz.underlying51 (by kernel_rfl) (by decide) (of_decide_eq_true (by kernel_rfl)) (Qop n) ih
  exact Dec.mono (Wh3 h1) (by omega)
theorem Qsa (n : Nat) : DecP enc w (n + 1) 51 (fun s => [vSl (vCx n) s]) (SlOk (CxOk n)) := Qfp (sz := 1) Tryz.underlying51 (by kernel_rfl) (by decide) (of_decide_eq_true (by kernel_rfl)) (Qop n) (Wbo n)
theorem Qsb (n : Nat) : DecP enc w (n + 1) 23 (fun s => [vSl V.str s]) (SlOk maxS) := Qfp (sz := 1) Tryz.underlying23 (by kernel_rfl) (by decide) (of_decide_eq_true (by kernel_rfl)) (fun _ => rfl) (Qkg Tryz.underlying9)
structure Nms where
 has : Bool
 dflt : List UInt8
 pres : Sl (List UInt8)
 spaces : Sl (List UInt8)
@[reducible] def vNms (n : Nms) : V := .agg [.bool n.has, .str n.dflt, vSl V.str n.pres, vSl V.str n.spaces]
def Wh4 (n : Nms) : Prop := maxS n.dflt ∧ SlOk maxS n.pres ∧ SlOk maxS n.spaces
theorem Wer {n : Nat} : DecP enc w n 25 (fun x => (vNms x).cells) Wh4 := by
 intro fuel hfu cs y h hv
 obtain ⟨hl, m, rfl, hf⟩ := Qeo Tryz.underlying25 h hv
 obtain ⟨_, h0, v0⟩ := hf 0 _ rfl
 obtain ⟨_, h1, v1⟩ := hf 1 _ rfl
 obtain ⟨_, h2, v2⟩ := hf 2 _ rfl
 obtain ⟨_, h3, v3⟩ := hf 3 _ rfl
 obtain ⟨x0, r0, q0⟩ := Qr8 (n := m) Tryz.underlying4 m (Nat.le_refl _) _ _ h0 v0
 obtain ⟨x1, r1, q1⟩ := Qkg (n := m) Tryz.underlying9 m (Nat.le_refl _) _ _ h1 v1
 obtain ⟨x2, r2, q2⟩ := (Qsb m).mono (Nat.le_succ m) m (Nat.le_refl _) _ _ h2 v2
 obtain ⟨x3, r3, q3⟩ := (Qsb m).mono (Nat.le_succ m) m (Nat.le_refl _) _ _ h3 v3
 exact ⟨⟨x0, x1, x2, x3⟩, Qgc (m := 4) hl (Qci (m := 3) (Qci (m := 2) (Qci (m := 1) r0 r1) r2) r3), q1, q2, q3⟩
theorem Qtu {r : Reach} {b0 : Nat} {v : Value} {d : DataW H} {p : List MemPlace} (hv : Value.okWide Tryz.prog w r b0 25 v) (h : DataW.Trod enc Tryz.prog w 0 (fun _ => true) true 25 v d p) (hz : Hv Tryz.prog 25 d) :
  ∃ x : Nms, Wh4 x ∧ Rep (memOf w) noPlc v (vNms x) := by
 obtain ⟨cs, rfl, _⟩ := okWide_struct Tryz.underlying25 hv
 obtain ⟨fuel, hf⟩ := h
 obtain ⟨x, hx, hq⟩ := Wer (n := fuel) fuel (by omega) _ _ hf hz
 exact ⟨x, hq, Rep.agg_iff.2 hx⟩
end
end Go.Proofs.YtapnplljnpconaaGreatDoor
