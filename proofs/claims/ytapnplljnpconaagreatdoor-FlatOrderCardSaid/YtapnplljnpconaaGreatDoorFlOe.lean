/- Part of a proof: the small language, and functions of the program on it. -/
import Derived.Test.YtapnplljnpconaaGreatDoorFlOd
import Derived.Test.YtapnplljnpconaaGreatDoorRows
import Derived.WalkKit
import Derived.WalkSpells
import Derived.WalkLawsBesides
import Derived.Deep.QuietTactic
import Derived.BigQuiet
import Derived.Lib.Hide
import Derived.Deep.RegionHeld3
import Derived.Deep.AppendLies
import Derived.Deep.RegionLaw
import Derived.Deep.DrawnRows
import Derived.Deep.DeepFit
import Derived.RegionTactic
import Derived.ProofKit
import Derived.Lib.SmallJoins
import Derived.ChangeSlices
import Derived.ChangeArms
import Derived.DataReads
import Derived.Test.YtapnplljnpconaaGreatDoorChecked
set_option linter.unusedSimpArgs false
set_option linter.unusedVariables false
set_option linter.unusedSectionVars false
namespace Go.Proofs.YtapnplljnpconaaGreatDoor
open Go.Ev
set_option maxRecDepth 100000
set_option maxHeartbeats 4000000
abbrev B64 := BitVec 64
def hiB : B64 := 9259542123273814144#64
def byB (x : UInt8) : B64 := BitVec.ofNat 64 x.toNat
theorem Wbj (x : UInt8) : (byB x).toNat = x.toNat := by
  have := UInt8.toNat_lt x
  unfold byB
  rw [BitVec.toNat_ofNat]; omega
theorem Qkf (A : B64) : BitVec.ofInt 64 (A.toNat : Int) = A := by
  apply BitVec.eq_of_toNat_eq
  rw [BitVec.toNat_ofInt]
  have := A.isLt
  omega
theorem Wbk (A : B64) : IntKind.u64.wrap (A.toNat : Int) = A.toNat := by
  have := A.isLt
  simp only [IntKind.wrap_u64]; omega
theorem or_u (A B : B64) {e : EqK} : eB .or e (.int .u64 A.toNat) (.int .u64 B.toNat) = some (.int .u64 (A ||| B).toNat) := by
  show some (V.int .u64 (IntKind.u64.wrap (BitVec.ofInt 64 (A.toNat : Int) ||| BitVec.ofInt 64 (B.toNat : Int)).toNat)) = _
  rw [Qkf, Qkf, Wbk]
theorem Qtg (A : B64) {e : EqK} : eB .and e (.int .u64 A.toNat) (.int .u64 9259542123273814144) = some (.int .u64 (A &&& hiB).toNat) := by
  show some (V.int .u64 (IntKind.u64.wrap (BitVec.ofInt 64 (A.toNat : Int) &&& BitVec.ofInt 64 (9259542123273814144 : Int)).toNat)) = _
  rw [Qkf, show BitVec.ofInt 64 (9259542123273814144 : Int) = hiB from rfl, Wbk]
theorem Whr (x : UInt8) {σ : Objs} : eC σ (.toInt .u64) (.int .u8 x.toNat) = some (.int .u64 (byB x).toNat) := by
  have := UInt8.toNat_lt x
  show some (V.int .u64 (IntKind.u64.wrap (x.toNat : Int))) = _
  rw [Wbj]
  congr 2
  simp only [IntKind.wrap_u64]; omega
theorem Qoj (x : UInt8) (k : Nat) (h : k = 8 ∨ k = 16 ∨ k = 24 ∨ k = 32 ∨ k = 40 ∨ k = 48 ∨ k = 56) {e : EqK} : eB .shl e (.int .u64 (byB x).toNat) (.int .u64 k) = some (.int .u64 (byB x <<< k).toNat) := by
  have hx := UInt8.toNat_lt x
  show (if (k : Int) < 0 then none else some (V.int .u64 (IntKind.u64.wrap (((byB x).toNat : Int) * 2 ^ (min (k : Int).toNat 64))))) = _
  rw [if_neg (by omega)]
  congr 2
  rw [BitVec.toNat_shiftLeft, Nat.shiftLeft_eq, Wbj]
  have e : (2 : Int) ^ (min (k : Int).toNat 64) = ((2 ^ k : Nat) : Int) := by rcases h with rfl | rfl | rfl | rfl | rfl | rfl | rfl <;> rfl
  rw [e, ← Int.natCast_mul]
  have e2 : 2 ^ 64 = 18446744073709551616 := rfl
  generalize x.toNat * 2 ^ k = y
  simp only [IntKind.wrap_u64]
  omega
def wdB (r : List UInt8) : B64 :=
  byB (r.getD 0 0) ||| byB (r.getD 1 0) <<< 8 ||| byB (r.getD 2 0) <<< 16 ||| byB (r.getD 3 0) <<< 24 ||| byB (r.getD 4 0) <<< 32 ||| byB (r.getD 5 0) <<< 40 ||| byB (r.getD 6 0) <<< 48 ||| byB (r.getD 7 0) <<< 56
def loB8 (r : List UInt8) : Prop := ∀ i, i < 8 → (r.getD i 0).toNat < 128
theorem Wj8 (k : Nat) (h : k = 0 ∨ k = 8 ∨ k = 16 ∨ k = 24 ∨ k = 32 ∨ k = 40 ∨ k = 48 ∨ k = 56) : ∀ n : Fin 256, (BitVec.ofNat 64 n.val <<< k) &&& hiB = 0#64 ↔ n.val < 128 := by
  rcases h with rfl | rfl | rfl | rfl | rfl | rfl | rfl | rfl <;> decide
theorem hi_x (x : UInt8) (k : Nat) (h : k = 0 ∨ k = 8 ∨ k = 16 ∨ k = 24 ∨ k = 32 ∨ k = 40 ∨ k = 48 ∨ k = 56) : (byB x <<< k) &&& hiB = 0#64 ↔ x.toNat < 128 := Wj8 k h ⟨x.toNat, UInt8.toNat_lt x⟩
theorem Qhu (A B C : B64) : (A ||| B) &&& C = (A &&& C) ||| (B &&& C) := by
  ext i hi
  simp only [BitVec.getElem_and, BitVec.getElem_or]
  cases A[i] <;> cases B[i] <;> cases C[i] <;> rfl
theorem or_z (A B : B64) : A ||| B = 0#64 ↔ A = 0#64 ∧ B = 0#64 := by
  constructor
  · intro h
    have key : ∀ i (hi : i < 64), A[i] = false ∧ B[i] = false := fun i hi => by
      have h2 : (A ||| B)[i] = (0#64)[i] := by rw [h]
      simp only [BitVec.getElem_or, BitVec.getElem_zero, Bool.or_eq_false_iff] at h2
      exact h2
    constructor
    · ext i hi; rw [(key i hi).1, BitVec.getElem_zero]
    · ext i hi; rw [(key i hi).2, BitVec.getElem_zero]
  · rintro ⟨rfl, rfl⟩; rfl
theorem Qqa (r : List UInt8) : wdB r &&& hiB = 0#64 ↔ loB8 r := by
  have h0 : byB (r.getD 0 0) = byB (r.getD 0 0) <<< 0 := by simp
  unfold wdB
  rw [h0]
  simp only [Qhu, or_z]
  rw [hi_x _ 0 (by simp), hi_x _ 8 (by simp), hi_x _ 16 (by simp), hi_x _ 24 (by simp), hi_x _ 32 (by simp), hi_x _ 40 (by simp), hi_x _ 48 (by simp), hi_x _ 56 (by simp)]
  constructor
  · rintro ⟨⟨⟨⟨⟨⟨⟨a0, a1⟩, a2⟩, a3⟩, a4⟩, a5⟩, a6⟩, a7⟩ i hi
    match i, hi with
    | 0, _ => exact a0
    | 1, _ => exact a1
    | 2, _ => exact a2
    | 3, _ => exact a3
    | 4, _ => exact a4
    | 5, _ => exact a5
    | 6, _ => exact a6
    | 7, _ => exact a7
  · intro h
    exact ⟨⟨⟨⟨⟨⟨⟨h 0 (by omega), h 1 (by omega)⟩, h 2 (by omega)⟩, h 3 (by omega)⟩, h 4 (by omega)⟩, h 5 (by omega)⟩, h 6 (by omega)⟩, h 7 (by omega)⟩
theorem Qkg (r : List UInt8) (hr : 8 ≤ r.length) (σ : Objs) (hσ : Wf σ) : E cx 131 [.sl (Qac r) .no] σ = some (.int .u64 (wdB r).toNat, σ) := by
  have s1 : ∀ x, eB .shl .no (.int .u64 (byB x).toNat) (.int .u64 8) = some (.int .u64 (byB x <<< 8).toNat) := fun x => Qoj x 8 (by simp) (e := .no)
  have s2 : ∀ x, eB .shl .no (.int .u64 (byB x).toNat) (.int .u64 16) = some (.int .u64 (byB x <<< 16).toNat) := fun x => Qoj x 16 (by simp) (e := .no)
  have s3 : ∀ x, eB .shl .no (.int .u64 (byB x).toNat) (.int .u64 24) = some (.int .u64 (byB x <<< 24).toNat) := fun x => Qoj x 24 (by simp) (e := .no)
  have s4 : ∀ x, eB .shl .no (.int .u64 (byB x).toNat) (.int .u64 32) = some (.int .u64 (byB x <<< 32).toNat) := fun x => Qoj x 32 (by simp) (e := .no)
  have s5 : ∀ x, eB .shl .no (.int .u64 (byB x).toNat) (.int .u64 40) = some (.int .u64 (byB x <<< 40).toNat) := fun x => Qoj x 40 (by simp) (e := .no)
  have s6 : ∀ x, eB .shl .no (.int .u64 (byB x).toNat) (.int .u64 48) = some (.int .u64 (byB x <<< 48).toNat) := fun x => Qoj x 48 (by simp) (e := .no)
  have s7 : ∀ x, eB .shl .no (.int .u64 (byB x).toNat) (.int .u64 56) = some (.int .u64 (byB x <<< 56).toNat) := fun x => Qoj x 56 (by simp) (e := .no)
  have h0 : ∀ (k : Nat), k < 8 → eI 1 (.int .i64 k) (.sl (Qac r) .no) = some (.eptr [.int .u8 (r.getD k 0).toNat] 0) := fun k hk => by
    rw [Qbr (by omega), Int.toNat_natCast]
  have i0 : eI 1 (.int .i64 0) (.sl (Qac r) .no) = some (.eptr [.int .u8 (r.getD 0 0).toNat] 0) := h0 0 (by omega)
  have i1 : eI 1 (.int .i64 1) (.sl (Qac r) .no) = some (.eptr [.int .u8 (r.getD 1 0).toNat] 0) := h0 1 (by omega)
  have i2 : eI 1 (.int .i64 2) (.sl (Qac r) .no) = some (.eptr [.int .u8 (r.getD 2 0).toNat] 0) := h0 2 (by omega)
  have i3 : eI 1 (.int .i64 3) (.sl (Qac r) .no) = some (.eptr [.int .u8 (r.getD 3 0).toNat] 0) := h0 3 (by omega)
  have i4 : eI 1 (.int .i64 4) (.sl (Qac r) .no) = some (.eptr [.int .u8 (r.getD 4 0).toNat] 0) := h0 4 (by omega)
  have i5 : eI 1 (.int .i64 5) (.sl (Qac r) .no) = some (.eptr [.int .u8 (r.getD 5 0).toNat] 0) := h0 5 (by omega)
  have i6 : eI 1 (.int .i64 6) (.sl (Qac r) .no) = some (.eptr [.int .u8 (r.getD 6 0).toNat] 0) := h0 6 (by omega)
  have i7 : eI 1 (.int .i64 7) (.sl (Qac r) .no) = some (.eptr [.int .u8 (r.getD 7 0).toNat] 0) := h0 7 (by omega)
  clear h0
  rw [e_Z1l]
  simp +contextual -implicitDefEqProofs (disch := first | assumption | omega | (simp -implicitDefEqProofs only [go_sem]; try omega)) only [↓reduceIte, go_sem, iP, iN, w64, w8, w32, s_Z1l, Whr, Qoj, or_u, i0, i1, i2, i3, i4, i5, i6, i7, s1, s2, s3, s4, s5, s6, s7, wdB]
theorem Wee (r : List UInt8) : ((wdB r &&& hiB).toNat : Int) = 0 ↔ loB8 r := by
  rw [← Qqa]
  constructor
  · intro h; apply BitVec.eq_of_toNat_eq; show _ = 0; omega
  · intro h; rw [h]; rfl
theorem Wj9 (a b : List UInt8) : (((wdB a ||| wdB b) &&& hiB).toNat : Int) = 0 ↔ loB8 a ∧ loB8 b := by
  rw [← Qqa, ← Qqa, ← or_z, ← Qhu]
  constructor
  · intro h; apply BitVec.eq_of_toNat_eq; show _ = 0; omega
  · intro h; rw [h]; rfl
theorem Whs (a b c d : List UInt8) : ((((wdB a ||| wdB b) ||| (wdB c ||| wdB d)) &&& hiB).toNat : Int) = 0 ↔ (loB8 a ∧ loB8 b) ∧ (loB8 c ∧ loB8 d) := by
  rw [← Qqa, ← Qqa, ← Qqa, ← Qqa, ← or_z, ← or_z, ← or_z, ← Qhu, ← Qhu, ← Qhu]
  constructor
  · intro h; apply BitVec.eq_of_toNat_eq; show _ = 0; omega
  · intro h; rw [h]; rfl
def Qcg (r : List UInt8) : Bool := Qdj r.length r
theorem Qw0 : Qcg [] = true := rfl
theorem Qok {x : UInt8} {r : List UInt8} (h : x.toNat < 128) : Qcg (x :: r) = Qcg r := by
  unfold Qcg
  rw [Qii (by simp), Qcj, if_pos h]
  rfl
theorem Qjk : ∀ (k : Nat) (r : List UInt8), k ≤ r.length → (∀ i, i < k → (r.getD i 0).toNat < 128) → Qcg (r.drop k) = Qcg r
  | 0, r, _, _ => rfl
  | k + 1, [], h, _ => by simp at h
  | k + 1, x :: r, h, hx => by
    have h0 : x.toNat < 128 := hx 0 (by omega)
    rw [Qok h0]
    exact Qjk k r (by simpa using h) fun i hi => by simpa using hx (i + 1) (by omega)
theorem Qmz {r : List UInt8} {k : Nat} (h : loB8 (r.drop k)) : ∀ i, k ≤ i → i < k + 8 → (r.getD i 0).toNat < 128 := by
  intro i h1 h2
  have := h (i - k) (by omega)
  rw [List.getD_eq_getElem?_getD, List.getElem?_drop, show k + (i - k) = i by omega] at this
  rwa [List.getD_eq_getElem?_getD]
theorem Wef {r : List UInt8} (h : 8 ≤ r.length) (h1 : loB8 r) : Qcg (r.drop 8) = Qcg r := Qjk 8 r h h1
theorem Qz4 {r : List UInt8} (h : 16 ≤ r.length) (h1 : loB8 r) (h2 : loB8 (r.drop 8)) : Qcg (r.drop 16) = Qcg r := Qjk 16 r h fun i hi => by
  by_cases c : i < 8
  · exact h1 i c
  · exact Qmz h2 i (by omega) (by omega)
theorem Qz5 {r : List UInt8} (h : 32 ≤ r.length) (h1 : loB8 r) (h2 : loB8 (r.drop 8)) (h3 : loB8 (r.drop 16)) (h4 : loB8 (r.drop 24)) : Qcg (r.drop 32) = Qcg r := Qjk 32 r h fun i hi => by
  by_cases c : i < 8
  · exact h1 i c
  · by_cases c : i < 16
    · exact Qmz h2 i (by omega) (by omega)
    · by_cases c : i < 24
      · exact Qmz h3 i (by omega) (by omega)
      · exact Qmz h4 i (by omega) (by omega)
theorem Qkh {r : List UInt8} {c : Cap} {k : Nat} (h : k ≤ r.length) : Qba 1 (.sl (Qac r) c) (some (.int .i64 k)) none none = some (.sl (Qac (r.drop k)) .no) := by
  have := Qtc (f := fun b : UInt8 => V.int .u8 b.toNat) (sz := 1) (l := r) (c := c) (fun _ => rfl) (k := .i64) (a := (k : Int)) (by omega)
  rwa [Int.toNat_natCast] at this
theorem Qrx (r1 : Rk) : ∀ (f : Nat) (r : List UInt8), r.length < f → (∀ s : List UInt8, s.length ≤ r.length → r1 [.sl (Qac s) .no] [] = some (.bool (Qcg s), [])) →
    l_Z1k_1 (Mi cx) 0 0 r1 0 [.sl (Qac r) .no] [] = some (.bool (Qcg r), [])
  | 0, r, hf, hr => by omega
  | f + 1, r, hf, hr => by
    have h0 := hr r (Nat.le_refl _)
    rw [u_Z1k_1]
    by_cases c1 : 32 < (r.length : Int)
    · have w0 := fun σ hσ => Qkg r (by omega) σ hσ
      have w1 := fun σ hσ => Qkg (r.drop 8) (by rw [List.length_drop]; omega) σ hσ
      have w2 := fun σ hσ => Qkg (r.drop 16) (by rw [List.length_drop]; omega) σ hσ
      have w3 := fun σ hσ => Qkg (r.drop 24) (by rw [List.length_drop]; omega) σ hσ
      have k8 : Qba 1 (.sl (Qac r) .no) (some (.int .i64 8)) none none = some (.sl (Qac (r.drop 8)) .no) := Qkh (k := 8) (by omega)
      have k16 : Qba 1 (.sl (Qac r) .no) (some (.int .i64 16)) none none = some (.sl (Qac (r.drop 16)) .no) := Qkh (k := 16) (by omega)
      have k24 : Qba 1 (.sl (Qac r) .no) (some (.int .i64 24)) none none = some (.sl (Qac (r.drop 24)) .no) := Qkh (k := 24) (by omega)
      have k32 : Qba 1 (.sl (Qac r) .no) (some (.int .i64 32)) none none = some (.sl (Qac (r.drop 32)) .no) := Qkh (k := 32) (by omega)
      have hh := Whs r (r.drop 8) (r.drop 16) (r.drop 24)
      by_cases c2 : ((((wdB r ||| wdB (r.drop 8)) ||| (wdB (r.drop 16) ||| wdB (r.drop 24))) &&& hiB).toNat : Int) = 0
      · obtain ⟨⟨q1, q2⟩, q3, q4⟩ := hh.1 c2
        have ih := Qrx r1 f (r.drop 32) (by rw [List.length_drop]; omega) (fun s hs => hr s (by rw [List.length_drop] at hs; omega))
        rw [Qz5 (by omega) q1 q2 q3 q4] at ih
        clear hh hr
        simp +contextual -implicitDefEqProofs (disch := first | assumption | omega | (simp -implicitDefEqProofs only [go_sem]; try omega)) only [↓reduceIte, go_sem, iP, iN, w64, w8, w32, b_Z1k_1, c1, c2, w0, w1, w2, w3, k8, k16, k24, k32, or_u, Qtg, ih]
      · clear hh hr
        simp +contextual -implicitDefEqProofs (disch := first | assumption | omega | (simp -implicitDefEqProofs only [go_sem]; try omega)) only [↓reduceIte, go_sem, iP, iN, w64, w8, w32, b_Z1k_1, j_Z1k_2, j_Z1k_0, c1, c2, w0, w1, w2, w3, k8, k16, k24, k32, or_u, Qtg, h0]
    · clear hr
      simp +contextual -implicitDefEqProofs (disch := first | assumption | omega | (simp -implicitDefEqProofs only [go_sem]; try omega)) only [↓reduceIte, go_sem, iP, iN, w64, w8, w32, b_Z1k_1, j_Z1k_2, j_Z1k_0, c1, h0]
def fstN (x : UInt8) : Nat := Qe7.getD x.toNat 0
def szN (x : UInt8) : Nat := if 194 ≤ x.toNat ∧ x.toNat ≤ 223 then 2 else if 224 ≤ x.toNat ∧ x.toNat ≤ 239 then 3 else if 240 ≤ x.toNat ∧ x.toNat ≤ 244 then 4 else 1
def loN (x : UInt8) : Nat := if x.toNat = 224 then 160 else if x.toNat = 240 then 144 else 128
def upN (x : UInt8) : Nat := if x.toNat = 237 then 159 else if x.toNat = 244 then 143 else 191
theorem Weg : ∀ n : Fin 256, 128 ≤ n.val → Qe7.getD n.val 0 < 256 ∧ Qe7.getD n.val 0 % 8 = (if 194 ≤ n.val ∧ n.val ≤ 223 then 2 else if 224 ≤ n.val ∧ n.val ≤ 239 then 3 else if 240 ≤ n.val ∧ n.val ≤ 244 then 4 else 1) ∧ Qe7.getD n.val 0 / 16 < 16 ∧
    (194 ≤ n.val → n.val ≤ 244 → accN[Qe7.getD n.val 0 / 16]? = some (if n.val = 224 then 160 else if n.val = 240 then 144 else 128, if n.val = 237 then 159 else if n.val = 244 then 143 else 191)) := by decide
theorem Weh : accN.length = 16 := by decide
theorem Qw1 : Qe7.length = 256 := by decide
theorem Wei (x : UInt8) : Qcq 256 1 (.int .u8 x.toNat) (.eptr Qhp 0) = some (.eptr Qhp x.toNat) := by
  have := UInt8.toNat_lt x
  have h : index (.int .u8 x.toNat) 256 = some x.toNat := by simp [index]; omega
  simp [Qcq, h]
theorem Wht (x : UInt8) : eL [] false 1 (.eptr Qhp x.toNat) = some (.int .u8 (fstN x)) := by
  have hx := UInt8.toNat_lt x
  have h : x.toNat < Qe7.length := by rw [Qw1]; exact hx
  show Ev.part false 1 Qhp x.toNat = _
  unfold Ev.part Qhp fstN
  rw [if_neg (by decide), if_pos rfl, List.getElem?_map, List.getElem?_eq_getElem h, List.getD_eq_getElem?_getD, List.getElem?_eq_getElem h]
  rfl
theorem Wka (n : Nat) (h : n < 256) : eB .and .no (.int .u8 n) (.int .u8 7) = some (.int .u8 (n % 8 : Nat)) := by
  have key : (BitVec.ofInt 8 (n : Int) &&& BitVec.ofInt 8 7).toNat = n % 8 := by
    rw [BitVec.toNat_and]
    have e1 : (BitVec.ofInt 8 (n : Int)).toNat = n := by simp [BitVec.toNat_ofInt]; omega
    have e2 : (BitVec.ofInt 8 7).toNat = 2 ^ 3 - 1 := rfl
    rw [e1, e2, Nat.and_two_pow_sub_one_eq_mod]
  show some (V.int .u8 (IntKind.u8.wrap (BitVec.ofInt 8 (n : Int) &&& BitVec.ofInt 8 7).toNat)) = _
  rw [key, w8 (by omega)]
theorem Wkb (n : Nat) : eB .shr .no (.int .u8 n) (.int .u64 4) = some (.int .u8 (n / 16 : Nat)) := by
  show (if (4 : Int) < 0 then none else some (V.int .u8 ((n : Int).fdiv (2 ^ (min (4 : Int).toNat 8))))) = _
  rw [if_neg (by decide)]
  have : ((2 : Int) ^ (min (4 : Int).toNat 8)) = 16 := rfl
  rw [this, Int.fdiv_eq_ediv_of_nonneg _ (by decide)]
  rfl
theorem Qz6 (n : Nat) (h : n < 16) : Qcq 16 2 (.int .u8 n) (.eptr accV 0) = some (.eptr accV (n * 2)) := by
  have h : index (.int .u8 n) 16 = some n := by simp [index]; omega
  simp [Qcq, h]
theorem Wbl : ∀ (l : List (Nat × Nat)) (n : Nat) (p : Nat × Nat), l[n]? = some p → Ev.part true 2 (l.flatMap fun p => [V.int .u8 (p.1 : Int), V.int .u8 (p.2 : Int)]) (n * 2) = some (V.agg [.int .u8 p.1, .int .u8 p.2])
  | [], n, p, h => by simp at h
  | q :: l, 0, p, h => by
    simp at h
    subst h
    rfl
  | q :: l, n + 1, p, h => by
    have ih := Wbl l n p (by simpa using h)
    unfold Ev.part at ih ⊢
    rw [if_pos rfl] at ih ⊢
    rw [List.flatMap_cons, show (n + 1) * 2 = (n * 2 + 1) + 1 by omega]
    show (if _ ≤ _ then some (V.agg ((((l.flatMap _).drop (n * 2)).take 2).map V.ng)) else none) = _
    split at ih
    · rename_i hle
      rw [if_pos (by simp; simp at hle; omega)]
      exact ih
    · cases ih
theorem Wej {n lo hi : Nat} (h : accN[n]? = some (lo, hi)) : eL [] true 2 (.eptr accV (n * 2)) = some (.agg [.int .u8 lo, .int .u8 hi]) := Wbl accN n (lo, hi) h
theorem Qb9 : (Mi cx).G.g 1 = .eptr Qhp 0 := rfl
theorem Qew : (Mi cx).G.g 2 = .eptr accV 0 := rfl
theorem Whu {x y : UInt8} (h : 194 ≤ x.toNat ∧ x.toNat ≤ 244) : secB x y = true ↔ loN x ≤ y.toNat ∧ y.toNat ≤ upN x := Qji
theorem Qa4 {r : List UInt8} (h : r ≠ []) (hn : nxB r = none) : Qcg r = false := by unfold Qcg; rw [Qii h, hn]
theorem Qij {r : List UInt8} {k : Nat} (h : r ≠ []) (hn : nxB r = some k) : Qcg r = Qcg (r.drop k) := by unfold Qcg; rw [Qii h, hn]
theorem nx_2 {x y : UInt8} {r : List UInt8} (hx : szN x = 2) : nxB (x :: y :: r) = if 128 ≤ y.toNat ∧ y.toNat ≤ 191 then some 2 else none := by
  have h : 194 ≤ x.toNat ∧ x.toNat ≤ 223 := by unfold szN at hx; split at hx; assumption; (split at hx; cases hx; split at hx <;> cases hx)
  rw [Qcj, if_neg (by omega), if_pos h]
  simp only [Qd3]
theorem Wkc {x : UInt8} (hx : szN x = 2) : nxB [x] = none := by
  have h : 194 ≤ x.toNat ∧ x.toNat ≤ 223 := by unfold szN at hx; split at hx; assumption; (split at hx; cases hx; split at hx <;> cases hx)
  rw [Qcj, if_neg (by omega), if_pos h]
theorem sz3 {x : UInt8} (hx : szN x = 3) : 224 ≤ x.toNat ∧ x.toNat ≤ 239 := by unfold szN at hx; split at hx; cases hx; (split at hx; assumption; split at hx <;> cases hx)
theorem sz4 {x : UInt8} (hx : szN x = 4) : 240 ≤ x.toNat ∧ x.toNat ≤ 244 := by unfold szN at hx; split at hx; cases hx; (split at hx; cases hx; split at hx; assumption; cases hx)
theorem nx_3 {x y z : UInt8} {r : List UInt8} (hx : szN x = 3) : nxB (x :: y :: z :: r) = if (loN x ≤ y.toNat ∧ y.toNat ≤ upN x) ∧ 128 ≤ z.toNat ∧ z.toNat ≤ 191 then some 3 else none := by
  have h := sz3 hx
  rw [Qcj, if_neg (by omega), if_neg (by omega), if_pos h]
  simp only [Bool.and_eq_true, Qd3, Whu (x := x) (y := y) ⟨by omega, by omega⟩]
theorem Wkd {x : UInt8} {r : List UInt8} (hx : szN x = 3) (hr : r.length < 2) : nxB (x :: r) = none := by
  have h := sz3 hx
  rw [Qcj, if_neg (by omega), if_neg (by omega), if_pos h]
  match r, hr with
  | [], _ => rfl
  | [_], _ => rfl
theorem nx_4 {x y z t : UInt8} {r : List UInt8} (hx : szN x = 4) : nxB (x :: y :: z :: t :: r) = if ((loN x ≤ y.toNat ∧ y.toNat ≤ upN x) ∧ 128 ≤ z.toNat ∧ z.toNat ≤ 191) ∧ 128 ≤ t.toNat ∧ t.toNat ≤ 191 then some 4 else none := by
  have h := sz4 hx
  rw [Qcj, if_neg (by omega), if_neg (by omega), if_neg (by omega), if_pos h]
  simp only [Bool.and_eq_true, Qd3, Whu (x := x) (y := y) ⟨by omega, by omega⟩]
theorem Wke {x : UInt8} {r : List UInt8} (hx : szN x = 4) (hr : r.length < 3) : nxB (x :: r) = none := by
  have h := sz4 hx
  rw [Qcj, if_neg (by omega), if_neg (by omega), if_neg (by omega), if_pos h]
  match r, hr with
  | [], _ => rfl
  | [_], _ => rfl
  | [_, _], _ => rfl
theorem nx_1 {x : UInt8} {r : List UInt8} (hx : szN x = 1) (h128 : ¬ x.toNat < 128) : nxB (x :: r) = none := by
  unfold szN at hx
  rw [Qcj, if_neg h128]
  split at hx
  · cases hx
  · split at hx
    · cases hx
    · split at hx
      · cases hx
      · rw [if_neg (by assumption), if_neg (by assumption), if_neg (by assumption)]
theorem Qry (x : UInt8) : szN x = 1 ∨ szN x = 2 ∨ szN x = 3 ∨ szN x = 4 := by unfold szN; split; simp; split; simp; split <;> simp
theorem Qm0 : ∀ (f : Nat) (r : List UInt8) (c : Cap), r.length < f → (c = .fx ∨ c = .no) →
    l_Z1k_0 (Mi cx) 0 0 [.sl (Qac r) c] [] = some (.bool (Qcg r), [])
  | 0, r, c, hf, _ => by omega
  | f + 1, [], c, hf, hc => by
    rw [u_Z1k_0]
    simp +contextual -implicitDefEqProofs (disch := first | assumption | omega | (simp -implicitDefEqProofs only [go_sem]; try omega)) only [↓reduceIte, go_sem, iP, iN, w64, w8, w32, b_Z1k_0, Qac, Qw0]
  | f + 1, x :: r, c, hf, hc => by
    have ihn : ∀ s : List UInt8, s.length ≤ r.length → l_Z1k_0 (Mi cx) 0 0 [.sl (Qac s) .no] [] = some (.bool (Qcg s), []) := fun s hs => Qm0 f s .no (by simp at hf; omega) (.inr rfl)
    have hl : (x :: r).length = r.length + 1 := rfl
    have i0 : ∀ c, eI 1 (.int .i64 0) (.sl (Qac (x :: r)) c) = some (.eptr [.int .u8 x.toNat] 0) := fun c => Qbr (by simp)
    have k1 : ∀ c, Qba 1 (.sl (Qac (x :: r)) c) (some (.int .i64 1)) none none = some (.sl (Qac r) .no) := fun c => Qkh (r := x :: r) (k := 1) (by simp)
    have hn : (V.sl (Qac (x :: r)) c).ng = .sl (Qac (x :: r)) .no := rfl
    have c0 : (0 : Int) < ((x :: r).length : Nat) := by rw [hl]; omega
    rw [u_Z1k_0]
    by_cases c1 : x.toNat < 128
    · have c1' : (x.toNat : Int) < 128 := by omega
      have ih := ihn r (Nat.le_refl _)
      rw [Qok c1]
      by_cases c2 : 8 < (r.length : Int)
      · have w0 := fun σ hσ => Qkg r (by omega) σ hσ
        by_cases c3 : ((wdB r &&& hiB).toNat : Int) = 0
        · have q1 := (Wee r).1 c3
          have v8 := Wef (by omega) q1
          have k8 : Qba 1 (.sl (Qac r) .no) (some (.int .i64 8)) none none = some (.sl (Qac (r.drop 8)) .no) := Qkh (k := 8) (by omega)
          have ih8 := ihn (r.drop 8) (by rw [List.length_drop]; omega)
          rw [v8] at ih8
          have l8 : (r.drop 8).length = r.length - 8 := List.length_drop ..
          generalize r.drop 8 = s at v8 k8 ih8 l8
          by_cases c4 : 16 < (s.length : Int)
          · have w1 := fun σ hσ => Qkg s (by omega) σ hσ
            have w2 := fun σ hσ => Qkg (s.drop 8) (by rw [List.length_drop]; omega) σ hσ
            have k8' : Qba 1 (.sl (Qac s) .no) (some (.int .i64 8)) none none = some (.sl (Qac (s.drop 8)) .no) := Qkh (k := 8) (by omega)
            have k16 : Qba 1 (.sl (Qac s) .no) (some (.int .i64 16)) none none = some (.sl (Qac (s.drop 16)) .no) := Qkh (k := 16) (by omega)
            by_cases c5 : (((wdB s ||| wdB (s.drop 8)) &&& hiB).toNat : Int) = 0
            · obtain ⟨q2, q3⟩ := (Wj9 s (s.drop 8)).1 c5
              have v16 := Qz4 (by omega) q2 q3
              have hv := Qrx (l_Z1k_0 (Mi cx) 0 0) ((s.drop 16).length + 1) (s.drop 16) (by omega) (fun t ht => ihn t (by rw [List.length_drop] at ht; omega))
              rw [v16, v8] at hv
              clear ihn q1 q2 q3
              simp +contextual -implicitDefEqProofs (disch := first | assumption | omega | (simp -implicitDefEqProofs only [go_sem]; try omega)) only [↓reduceIte, go_sem, iP, iN, w64, w8, w32, b_Z1k_0, i0, k1, c0, c1', c2, c3, c4, c5, w0, w1, w2, k8, k8', k16, or_u, Qtg, hv]
            · clear ihn q1
              simp +contextual -implicitDefEqProofs (disch := first | assumption | omega | (simp -implicitDefEqProofs only [go_sem]; try omega)) only [↓reduceIte, go_sem, iP, iN, w64, w8, w32, b_Z1k_0, j_Z1k_2, j_Z1k_0, i0, k1, c0, c1', c2, c3, c4, c5, w0, w1, w2, k8, k8', k16, or_u, Qtg, ih8]
          · clear ihn q1
            simp +contextual -implicitDefEqProofs (disch := first | assumption | omega | (simp -implicitDefEqProofs only [go_sem]; try omega)) only [↓reduceIte, go_sem, iP, iN, w64, w8, w32, b_Z1k_0, j_Z1k_2, j_Z1k_0, i0, k1, c0, c1', c2, c3, c4, w0, k8, or_u, Qtg, ih8]
        · clear ihn
          simp +contextual -implicitDefEqProofs (disch := first | assumption | omega | (simp -implicitDefEqProofs only [go_sem]; try omega)) only [↓reduceIte, go_sem, iP, iN, w64, w8, w32, b_Z1k_0, j_Z1k_2, j_Z1k_0, i0, k1, c0, c1', c2, c3, w0, or_u, Qtg, ih]
      · clear ihn
        simp +contextual -implicitDefEqProofs (disch := first | assumption | omega | (simp -implicitDefEqProofs only [go_sem]; try omega)) only [↓reduceIte, go_sem, iP, iN, w64, w8, w32, b_Z1k_0, j_Z1k_2, j_Z1k_0, i0, k1, c0, c1', c2, ih]
    · have c1' : ¬ (x.toNat : Int) < 128 := by omega
      obtain ⟨a1, a2, a3, a4⟩ := Weg ⟨x.toNat, UInt8.toNat_lt x⟩ (by show 128 ≤ x.toNat; omega)
      have a2' : fstN x % 8 = szN x := a2
      have T1 := Wei x
      have T2 := Wht x
      have T3 := Wka (fstN x) a1
      rw [a2'] at T3
      have T4 := Wkb (fstN x)
      have T5 := Qz6 (fstN x / 16) a3
      obtain ⟨⟨lo, hi⟩, hp⟩ : ∃ p, accN[fstN x / 16]? = some p := ⟨_, List.getElem?_eq_getElem (by rw [Weh]; exact a3)⟩
      have T6 := Wej hp
      have T7 : ∀ a b : Int, stV [.cells [.int .u8 0, .int .u8 0]] 2 (.ptr 0 0) (.agg [.int .u8 a, .int .u8 b]) (.agg [.int .u8 a, .int .u8 b]) = some (.undef, [.cells [.int .u8 a, .int .u8 b]]) := fun a b => rfl
      have hlh : 194 ≤ x.toNat → x.toNat ≤ 244 → lo = loN x ∧ hi = upN x := fun h1 h2 => by
        have := a4 h1 h2
        rw [show accN[Qe7.getD x.toNat 0 / 16]? = some (lo, hi) from hp] at this
        cases this
        exact ⟨rfl, rfl⟩
      have hne : x :: r ≠ [] := by simp
      have hlu : 128 ≤ hi ∧ hi ≤ 255 ∨ True := .inr trivial
      clear a1 a2 a3 a4 hp
      have tl : (szN x : Int) = 1 ∨ (szN x : Int) = 2 ∨ (szN x : Int) = 3 ∨ (szN x : Int) = 4 := by have := Qry x; omega
      rcases Qry x with e | e | e | e
      · rw [e] at T3
        rw [Qa4 hne (nx_1 e c1)]
        simp +contextual -implicitDefEqProofs (disch := first | assumption | omega | (simp -implicitDefEqProofs only [go_sem]; try omega)) only [↓reduceIte, go_sem, iP, iN, w64, w8, w32, b_Z1k_0, j_Z1k_1, Qb9, Qew, i0, k1, c0, c1', T1, T2, T3, T4, T5, T6, T7]
      · rw [e] at T3
        have hx2 : 194 ≤ x.toNat ∧ x.toNat ≤ 223 := by unfold szN at e; split at e; assumption; (split at e; cases e; split at e <;> cases e)
        obtain ⟨rfl, rfl⟩ := hlh (by omega) (by omega)
        have el : loN x = 128 := by unfold loN; rw [if_neg (by omega), if_neg (by omega)]
        have eu : upN x = 191 := by unfold upN; rw [if_neg (by omega), if_neg (by omega)]
        rw [el, eu] at T6
        match r with
        | [] =>
          rw [Qa4 hne (Wkc e)]
          simp +contextual -implicitDefEqProofs (disch := first | assumption | omega | (simp -implicitDefEqProofs only [go_sem]; try omega)) only [↓reduceIte, go_sem, iP, iN, w64, w8, w32, b_Z1k_0, j_Z1k_1, Qb9, Qew, i0, k1, c0, c1', T1, T2, T3, T4, T5, T6, T7]
        | y :: r =>
          have i1 : eI 1 (.int .i64 1) (.sl (Qac (x :: y :: r)) .no) = some (.eptr [.int .u8 y.toNat] 0) := Qbr (by simp; omega)
          have k2 : ∀ c, Qba 1 (.sl (Qac (x :: y :: r)) c) (some (.int .i64 2)) none none = some (.sl (Qac r) .no) := fun c => Qkh (r := x :: y :: r) (k := 2) (by simp)
          have d1 : ¬ ((x :: y :: r).length : Int) < 2 := by simp; omega
          by_cases p1 : (y.toNat : Int) < 128
          · rw [Qa4 hne (by rw [nx_2 e, if_neg (by omega)])]
            simp +contextual -implicitDefEqProofs (disch := first | assumption | omega | (simp -implicitDefEqProofs only [go_sem]; try omega)) only [↓reduceIte, go_sem, iP, iN, w64, w8, w32, b_Z1k_0, j_Z1k_1, Qb9, Qew, i0, i1, k1, k2, c0, c1', d1, p1, T1, T2, T3, T4, T5, T6, T7]
          · by_cases p2 : 191 < (y.toNat : Int)
            · rw [Qa4 hne (by rw [nx_2 e, if_neg (by omega)])]
              simp +contextual -implicitDefEqProofs (disch := first | assumption | omega | (simp -implicitDefEqProofs only [go_sem]; try omega)) only [↓reduceIte, go_sem, iP, iN, w64, w8, w32, b_Z1k_0, j_Z1k_1, Qb9, Qew, i0, i1, k1, k2, c0, c1', d1, p1, p2, T1, T2, T3, T4, T5, T6, T7]
            · have ih := ihn r (by simp)
              rw [Qij hne (by rw [nx_2 e, if_pos (by omega)])]
              clear ihn
              simp +contextual -implicitDefEqProofs (disch := first | assumption | omega | (simp -implicitDefEqProofs only [go_sem]; try omega)) only [↓reduceIte, go_sem, iP, iN, w64, w8, w32, b_Z1k_0, j_Z1k_0, Qb9, Qew, i0, i1, k1, k2, c0, c1', d1, p1, p2, T1, T2, T3, T4, T5, T6, T7, ih]
      · rw [e] at T3
        have hx2 := sz3 e
        obtain ⟨rfl, rfl⟩ := hlh (by omega) (by omega)
        by_cases hlen : r.length < 2
        · rw [Qa4 hne (Wkd e hlen)]
          have d1 : ((x :: r).length : Int) < 3 := by rw [hl]; omega
          clear ihn
          simp +contextual -implicitDefEqProofs (disch := first | assumption | omega | (simp -implicitDefEqProofs only [go_sem]; try omega)) only [↓reduceIte, go_sem, iP, iN, w64, w8, w32, b_Z1k_0, j_Z1k_1, Qb9, Qew, i0, k1, c0, c1', d1, T1, T2, T3, T4, T5, T6, T7]
        · match r, hlen with
          | [], h => exact absurd (by simp) h
          | [_], h => exact absurd (by simp) h
          | y :: z :: r, _ =>
            have i1 : ∀ c, eI 1 (.int .i64 1) (.sl (Qac (x :: y :: z :: r)) c) = some (.eptr [.int .u8 y.toNat] 0) := fun c => Qbr (by simp; omega)
            have i2 : ∀ c, eI 1 (.int .i64 2) (.sl (Qac (x :: y :: z :: r)) c) = some (.eptr [.int .u8 z.toNat] 0) := fun c => Qbr (by simp; omega)
            have k2 : ∀ c, Qba 1 (.sl (Qac (x :: y :: z :: r)) c) (some (.int .i64 3)) none none = some (.sl (Qac r) .no) := fun c => Qkh (r := x :: y :: z :: r) (k := 3) (by simp)
            have d1 : ¬ ((x :: y :: z :: r).length : Int) < 3 := by simp; omega
            by_cases p0 : (y.toNat : Int) < (loN x : Nat)
            · rw [Qa4 hne (by rw [nx_3 e, if_neg (by omega)])]
              clear ihn
              simp +contextual -implicitDefEqProofs (disch := first | assumption | omega | (simp -implicitDefEqProofs only [go_sem]; try omega)) only [↓reduceIte, go_sem, iP, iN, w64, w8, w32, b_Z1k_0, j_Z1k_1, Qb9, Qew, i0, i1, i2, k1, k2, c0, c1', d1, p0, T1, T2, T3, T4, T5, T6, T7]
            · skip
              by_cases p1 : ((upN x : Nat) : Int) < (y.toNat : Int)
              · rw [Qa4 hne (by rw [nx_3 e, if_neg (by omega)])]
                clear ihn
                simp +contextual -implicitDefEqProofs (disch := first | assumption | omega | (simp -implicitDefEqProofs only [go_sem]; try omega)) only [↓reduceIte, go_sem, iP, iN, w64, w8, w32, b_Z1k_0, j_Z1k_1, Qb9, Qew, i0, i1, i2, k1, k2, c0, c1', d1, p0, p1, T1, T2, T3, T4, T5, T6, T7]
              · skip
                by_cases p2 : (z.toNat : Int) < 128
                · rw [Qa4 hne (by rw [nx_3 e, if_neg (by omega)])]
                  clear ihn
                  simp +contextual -implicitDefEqProofs (disch := first | assumption | omega | (simp -implicitDefEqProofs only [go_sem]; try omega)) only [↓reduceIte, go_sem, iP, iN, w64, w8, w32, b_Z1k_0, j_Z1k_1, Qb9, Qew, i0, i1, i2, k1, k2, c0, c1', d1, p0, p1, p2, T1, T2, T3, T4, T5, T6, T7]
                · skip
                  by_cases p3 : 191 < (z.toNat : Int)
                  · rw [Qa4 hne (by rw [nx_3 e, if_neg (by omega)])]
                    clear ihn
                    simp +contextual -implicitDefEqProofs (disch := first | assumption | omega | (simp -implicitDefEqProofs only [go_sem]; try omega)) only [↓reduceIte, go_sem, iP, iN, w64, w8, w32, b_Z1k_0, j_Z1k_1, Qb9, Qew, i0, i1, i2, k1, k2, c0, c1', d1, p0, p1, p2, p3, T1, T2, T3, T4, T5, T6, T7]
                  · skip
                    have ih := ihn r (by simp; omega)
                    rw [Qij hne (by rw [nx_3 e, if_pos (by omega)])]
                    clear ihn
                    simp +contextual -implicitDefEqProofs (disch := first | assumption | omega | (simp -implicitDefEqProofs only [go_sem]; try omega)) only [↓reduceIte, go_sem, iP, iN, w64, w8, w32, b_Z1k_0, j_Z1k_0, Qb9, Qew, i0, i1, i2, k1, k2, c0, c1', d1, p0, p1, p2, p3, T1, T2, T3, T4, T5, T6, T7, ih]
      · rw [e] at T3
        have hx2 := sz4 e
        obtain ⟨rfl, rfl⟩ := hlh (by omega) (by omega)
        by_cases hlen : r.length < 3
        · rw [Qa4 hne (Wke e hlen)]
          have d1 : ((x :: r).length : Int) < 4 := by rw [hl]; omega
          clear ihn
          simp +contextual -implicitDefEqProofs (disch := first | assumption | omega | (simp -implicitDefEqProofs only [go_sem]; try omega)) only [↓reduceIte, go_sem, iP, iN, w64, w8, w32, b_Z1k_0, j_Z1k_1, Qb9, Qew, i0, k1, c0, c1', d1, T1, T2, T3, T4, T5, T6, T7]
        · match r, hlen with
          | [], h => exact absurd (by simp) h
          | [_], h => exact absurd (by simp) h
          | [_, _], h => exact absurd (by simp) h
          | y :: z :: t :: r, _ =>
            have i1 : ∀ c, eI 1 (.int .i64 1) (.sl (Qac (x :: y :: z :: t :: r)) c) = some (.eptr [.int .u8 y.toNat] 0) := fun c => Qbr (by simp; omega)
            have i2 : ∀ c, eI 1 (.int .i64 2) (.sl (Qac (x :: y :: z :: t :: r)) c) = some (.eptr [.int .u8 z.toNat] 0) := fun c => Qbr (by simp; omega)
            have i3 : ∀ c, eI 1 (.int .i64 3) (.sl (Qac (x :: y :: z :: t :: r)) c) = some (.eptr [.int .u8 t.toNat] 0) := fun c => Qbr (by simp; omega)
            have k2 : ∀ c, Qba 1 (.sl (Qac (x :: y :: z :: t :: r)) c) (some (.int .i64 4)) none none = some (.sl (Qac r) .no) := fun c => Qkh (r := x :: y :: z :: t :: r) (k := 4) (by simp)
            have d1 : ¬ ((x :: y :: z :: t :: r).length : Int) < 4 := by simp; omega
            by_cases p0 : (y.toNat : Int) < (loN x : Nat)
            · rw [Qa4 hne (by rw [nx_4 e, if_neg (by omega)])]
              clear ihn
              simp +contextual -implicitDefEqProofs (disch := first | assumption | omega | (simp -implicitDefEqProofs only [go_sem]; try omega)) only [↓reduceIte, go_sem, iP, iN, w64, w8, w32, b_Z1k_0, j_Z1k_1, Qb9, Qew, i0, i1, i2, i3, k1, k2, c0, c1', d1, p0, T1, T2, T3, T4, T5, T6, T7]
            · skip
              by_cases p1 : ((upN x : Nat) : Int) < (y.toNat : Int)
              · rw [Qa4 hne (by rw [nx_4 e, if_neg (by omega)])]
                clear ihn
                simp +contextual -implicitDefEqProofs (disch := first | assumption | omega | (simp -implicitDefEqProofs only [go_sem]; try omega)) only [↓reduceIte, go_sem, iP, iN, w64, w8, w32, b_Z1k_0, j_Z1k_1, Qb9, Qew, i0, i1, i2, i3, k1, k2, c0, c1', d1, p0, p1, T1, T2, T3, T4, T5, T6, T7]
              · skip
                by_cases p2 : (z.toNat : Int) < 128
                · rw [Qa4 hne (by rw [nx_4 e, if_neg (by omega)])]
                  clear ihn
                  simp +contextual -implicitDefEqProofs (disch := first | assumption | omega | (simp -implicitDefEqProofs only [go_sem]; try omega)) only [↓reduceIte, go_sem, iP, iN, w64, w8, w32, b_Z1k_0, j_Z1k_1, Qb9, Qew, i0, i1, i2, i3, k1, k2, c0, c1', d1, p0, p1, p2, T1, T2, T3, T4, T5, T6, T7]
                · skip
                  by_cases p3 : 191 < (z.toNat : Int)
                  · rw [Qa4 hne (by rw [nx_4 e, if_neg (by omega)])]
                    clear ihn
                    simp +contextual -implicitDefEqProofs (disch := first | assumption | omega | (simp -implicitDefEqProofs only [go_sem]; try omega)) only [↓reduceIte, go_sem, iP, iN, w64, w8, w32, b_Z1k_0, j_Z1k_1, Qb9, Qew, i0, i1, i2, i3, k1, k2, c0, c1', d1, p0, p1, p2, p3, T1, T2, T3, T4, T5, T6, T7]
                  · skip
                    by_cases p4 : (t.toNat : Int) < 128
                    · rw [Qa4 hne (by rw [nx_4 e, if_neg (by omega)])]
                      clear ihn
                      simp +contextual -implicitDefEqProofs (disch := first | assumption | omega | (simp -implicitDefEqProofs only [go_sem]; try omega)) only [↓reduceIte, go_sem, iP, iN, w64, w8, w32, b_Z1k_0, j_Z1k_1, Qb9, Qew, i0, i1, i2, i3, k1, k2, c0, c1', d1, p0, p1, p2, p3, p4, T1, T2, T3, T4, T5, T6, T7]
                    · skip
                      by_cases p5 : 191 < (t.toNat : Int)
                      · rw [Qa4 hne (by rw [nx_4 e, if_neg (by omega)])]
                        clear ihn
                        simp +contextual -implicitDefEqProofs (disch := first | assumption | omega | (simp -implicitDefEqProofs only [go_sem]; try omega)) only [↓reduceIte, go_sem, iP, iN, w64, w8, w32, b_Z1k_0, j_Z1k_1, Qb9, Qew, i0, i1, i2, i3, k1, k2, c0, c1', d1, p0, p1, p2, p3, p4, p5, T1, T2, T3, T4, T5, T6, T7]
                      · skip
                        have ih := ihn r (by simp; omega)
                        rw [Qij hne (by rw [nx_4 e, if_pos (by omega)])]
                        clear ihn
                        simp +contextual -implicitDefEqProofs (disch := first | assumption | omega | (simp -implicitDefEqProofs only [go_sem]; try omega)) only [↓reduceIte, go_sem, iP, iN, w64, w8, w32, b_Z1k_0, j_Z1k_0, Qb9, Qew, i0, i1, i2, i3, k1, k2, c0, c1', d1, p0, p1, p2, p3, p4, p5, T1, T2, T3, T4, T5, T6, T7, ih]
theorem Wek (r : List UInt8) (hr : r.length ≤ 1000000000) (σ : Objs) (hσ : Wf σ) : E cx 96 [.sl (Qac r) .no] σ = some (.bool (Qcg r), σ) := by
  refine Qcm Qci ?_ (by rw [Qaf, Qcx]; rfl) rfl σ hσ
  have h := Qm0 (r.length + 1) r .no (by omega) (.inr rfl)
  have h' := Qm0 (r.length + 1) r .fx (by omega) (.inl rfl)
  have hc : Qba 1 (.sl (Qac r) .no) none (some (.int .i64 r.length)) (some (.int .i64 r.length)) = some (.sl (Qac r) .fx) := by
    have e1 : (Qac r).length = r.length := Qn6
    have hb : bound (.int .i64 r.length) r.length = some r.length := by simp [bound]
    have hall : (Qac r).all (fun y => decide (y.cells.length = 1)) = true := all_map (f := fun b : UInt8 => V.int .u8 b.toNat) (fun _ => rfl)
    have hbs : bounds r.length none (some (.int .i64 r.length)) (some (.int .i64 r.length)) = some (0, r.length, some r.length) := by
      simp only [bounds, hb, Option.map_some, Option.bind_eq_bind, Option.bind_some, Option.getD_some]
      rfl
    simp only [Qba, e1, hbs, Option.bind_eq_bind, Option.bind_some, hall, if_true, List.drop_zero, Nat.sub_zero]
    rw [List.take_of_length_le (by rw [e1]; exact Nat.le_refl _)]
  rw [e_Z1k]
  simp +contextual -implicitDefEqProofs (disch := first | assumption | omega | (simp -implicitDefEqProofs only [go_sem]; try omega)) only [↓reduceIte, go_sem, iP, iN, w64, w8, w32, s_Z1k, hc, h, h']
theorem Qz7 {b : List UInt8} {i : Nat} (h : i < b.length) : nozB (b.drop i) = (decide (b.getD i 0 ≠ 0) && nozB (b.drop (i + 1))) := by
  rw [List.drop_eq_getElem_cons h, List.getD_eq_getElem?_getD, List.getElem?_eq_getElem h]
  rfl
theorem Qrz (b : List UInt8) (hb : b.length ≤ 1000000000) : ∀ (f : Nat) (i : Int), (b.length : Int) - i < f → 0 ≤ i ∧ i ≤ b.length →
    l_Zy_0 (Mi cx) 0 0 [.sl (Qac b) .no, .sl (Qac b) .no, .int .i64 b.length, .int .i64 i] [] = some (.bool (nozB (b.drop i.toNat) && Qcg b), [])
  | 0, i, hf, hi => by omega
  | f + 1, i, hf, hi => by
    have hv := fun σ hσ => Wek b hb σ hσ
    rw [u_Zy_0]
    by_cases c1 : i < b.length
    · rw [Qz7 (i := i.toNat) (by omega)]
      have i0 : eI 1 (.int .i64 i) (.sl (Qac b) .no) = some (.eptr [.int .u8 (b.getD i.toNat 0).toNat] 0) := Qbr ⟨hi.1, c1⟩
      by_cases c2 : b.getD i.toNat 0 = 0
      · have c3 : ((b.getD i.toNat 0).toNat : Int) = 0 := by rw [c2]; rfl
        have e : decide (b.getD i.toNat 0 ≠ 0) = false := by simp only [c2]; rfl
        rw [e, Bool.false_and, Bool.false_and]
        simp +contextual -implicitDefEqProofs (disch := first | assumption | omega | (simp -implicitDefEqProofs only [go_sem]; try omega)) only [↓reduceIte, go_sem, iP, iN, w64, w8, w32, b_Zy_0, i0, c1, c3]
      · have c3 : ¬ ((b.getD i.toNat 0).toNat : Int) = 0 := fun e => c2 (UInt8.toNat_inj.1 (by show _ = 0; omega))
        have e : decide (b.getD i.toNat 0 ≠ 0) = true := decide_eq_true c2
        have ih := Qrz b hb f (i + 1) (by omega) (by omega)
        rw [show (i + 1).toNat = i.toNat + 1 by omega] at ih
        rw [e, Bool.true_and]
        simp +contextual -implicitDefEqProofs (disch := first | assumption | omega | (simp -implicitDefEqProofs only [go_sem]; try omega)) only [↓reduceIte, go_sem, iP, iN, w64, w8, w32, b_Zy_0, i0, c1, c3, ih]
    · have e : b.drop i.toNat = [] := List.drop_eq_nil_of_le (by omega)
      rw [e]
      show _ = some (V.bool (Qcg b), [])
      simp +contextual -implicitDefEqProofs (disch := first | assumption | omega | (simp -implicitDefEqProofs only [go_sem]; try omega)) only [↓reduceIte, go_sem, iP, iN, w64, w8, w32, b_Zy_0, c1, hv]
theorem Qth (b : List UInt8) (hb : b.length ≤ 1000000000) (σ : Objs) (hσ : Wf σ) : E cx 72 [.sl (Qac b) .no] σ = some (.bool (Qcn b), σ) := by
  refine Qcm Qci ?_ (by rw [Qaf, Qcx]; rfl) rfl σ hσ
  have h := Qrz b hb (b.length + 1) 0 (by omega) (by omega)
  have h' : l_Zy_0 (Mi cx) 0 0 [.sl (Qac b) .no, .sl (Qac b) .no, .int .i64 b.length, .int .i64 0] [] = some (.bool (Qcn b), []) := h
  rw [e_Zy]
  simp +contextual -implicitDefEqProofs (disch := first | assumption | omega | (simp -implicitDefEqProofs only [go_sem]; try omega)) only [↓reduceIte, go_sem, iP, iN, w64, w8, w32, s_Zy, h']
end Go.Proofs.YtapnplljnpconaaGreatDoor
namespace Go.Proofs.YtapnplljnpconaaGreatDoor
open Go.RowKit
def RowA {α : Type} (f : α → Value) (d : α) (base : Nat) (w : World) (a : Option Addr) (n c : Nat) (xs : List α) : Prop :=
  xs.length = n ∧ n ≤ c ∧ c ≤ maxLen ∧ (0 < n → ∃ b off, a = some ⟨b, off, none⟩ ∧ base ≤ b ∧ b < w.heap.size ∧ ∀ j, j < n → w.cell? ⟨b, off + j, none⟩ = some (f (xs.getD j d)))
section
variable {α : Type} {f : α → Value} {d : α} {base : Nat} {w w' : World} {a : Option Addr} {n c : Nat} {xs : List α} {v : Value}
theorem RowA.len (h : RowA f d base w a n c xs) : xs.length = n := h.1
theorem RowA.le_cap (h : RowA f d base w a n c xs) : n ≤ c := h.2.1
theorem RowA.le (h : RowA f d base w a n c xs) : n ≤ 9223372036854775807 := by
  have h1 := h.2.1; have h2 := h.2.2.1; simp only [maxLen] at h2; omega
theorem RowA.at (h : RowA f d base w a n c xs) (hn : 0 < n) :
    ∃ b off, a = some ⟨b, off, none⟩ ∧ base ≤ b ∧ b < w.heap.size ∧ ∀ j, j < n → w.cell? ⟨b, off + j, none⟩ = some (f (xs.getD j d)) := h.2.2.2 hn
theorem RowA.mono {base' : Nat} (h : RowA f d base w a n c xs) (hb : base' ≤ base) : RowA f d base' w a n c xs := by
  obtain ⟨h1, h2, h3, h4⟩ := h
  refine ⟨h1, h2, h3, fun hn => ?_⟩
  obtain ⟨b, off, e, hbb, hlt, hc⟩ := h4 hn
  exact ⟨b, off, e, by omega, hlt, hc⟩
theorem RowA.keepB {B : Nat} (h : RowA f d base w a n c xs) (hb : Below B w w') (hB : w.heap.size ≤ B) : RowA f d base w' a n c xs := by
  obtain ⟨h1, h2, h3, h4⟩ := h
  refine ⟨h1, h2, h3, fun hn => ?_⟩
  obtain ⟨b, off, e, hbb, hlt, hc⟩ := h4 hn
  refine ⟨b, off, e, hbb, Nat.lt_of_lt_of_le hlt hb.size, fun j hj => ?_⟩
  rw [hb.cell (p := ⟨b, off + j, none⟩) (Nat.lt_of_lt_of_le hlt hB)]
  exact hc j hj
theorem RowA.keep (h : RowA f d base w a n c xs) (hb : Below w.heap.size w w') : RowA f d base w' a n c xs := h.keepB hb (Nat.le_refl _)
theorem RowA.drew (h : RowA f d base w a n c xs) : RowA f d base w.drew a n c xs := h.keep (Below.refl _ _).drew
theorem RowA.setCell (h : RowA f d base w a n c xs) {p : Addr} (hp : p.block < base) (u : Value) : RowA f d base (w.setCell p u) a n c xs := by
  obtain ⟨h1, h2, h3, h4⟩ := h
  refine ⟨h1, h2, h3, fun hn => ?_⟩
  obtain ⟨b, off, e, hbb, hlt, hc⟩ := h4 hn
  refine ⟨b, off, e, hbb, by simpa [World.setCell] using hlt, fun j hj => ?_⟩
  rw [World.cell?_of_block (w := w) (Below.heap_setCell w p u b (by omega))]
  exact hc j hj
theorem RowA.nil (f : α → Value) (d : α) (base : Nat) (w : World) : RowA f d base w none 0 0 [] := ⟨rfl, Nat.le_refl _, by simp [maxLen], fun h => absurd h (Nat.lt_irrefl _)⟩
theorem RowA.take (h : RowA f d base w a n c xs) (m c' : Nat) (hm : m ≤ n) (hc : m ≤ c') (hc' : c' ≤ c) : RowA f d base w a m c' (xs.take m) := by
  obtain ⟨h1, h2, h3, h4⟩ := h
  refine ⟨by simp; omega, hc, Nat.le_trans hc' h3, fun hn => ?_⟩
  obtain ⟨b, off, e, hbb, hlt, hx⟩ := h4 (by omega)
  refine ⟨b, off, e, hbb, hlt, fun j hj => ?_⟩
  rw [hx j (by omega)]
  simp [List.getD_eq_getElem?_getD, hj]
end
def RowV {α : Type} (f : α → Value) (d : α) (base : Nat) (w : World) (v : Value) (xs : List α) : Prop := ∃ a n c, v = .slice a n c ∧ RowA f d base w a n c xs
theorem RowV.keep {α} {f : α → Value} {d base w w' v} {xs : List α} (h : RowV f d base w v xs) (hb : Below w.heap.size w w') : RowV f d base w' v xs :=
  let ⟨a, n, c, e, hr⟩ := h; ⟨a, n, c, e, hr.keep hb⟩
theorem RowV.mono {α} {f : α → Value} {d base base' w v} {xs : List α} (h : RowV f d base w v xs) (hb : base' ≤ base) : RowV f d base' w v xs :=
  let ⟨a, n, c, e, hr⟩ := h; ⟨a, n, c, e, hr.mono hb⟩
theorem RowV.setCell {α} {f : α → Value} {d base w v} {xs : List α} (h : RowV f d base w v xs) {p : Addr} (hp : p.block < base) (u : Value) : RowV f d base (w.setCell p u) v xs :=
  let ⟨a, n, c, e, hr⟩ := h; ⟨a, n, c, e, hr.setCell hp u⟩
abbrev VB : Bool → Value := Value.bool
abbrev VI : Int → Value := Value.int .i64
theorem Qz8 (b off j : Nat) : (⟨b, off, none⟩ : Addr).add j = ⟨b, off + j, none⟩ := by
  unfold Addr.add; split <;> simp_all
theorem RowA.news {α} {f : α → Value} {d base w a n c} {xs : List α} (h : RowA f d base w (some a) n c xs) : ∀ j u, (xs.map f)[j]? = some u → w.cell? (a.add j) = some u := by
  intro j u hu
  have hl := h.len
  have hj : j < n := by
    rcases Nat.lt_or_ge j n with h | h
    · exact h
    · rw [List.getElem?_eq_none (by simp; omega)] at hu; cases hu
  obtain ⟨b, off, e, _, _, hc⟩ := h.at (by omega)
  simp only [Option.some.injEq] at e
  subst e
  rw [Qz8, hc j hj]
  rw [List.getElem?_map, List.getElem?_eq_getElem (by omega)] at hu
  simp only [Option.map_some, Option.some.injEq] at hu
  rw [← hu]
  simp [List.getD, show j < xs.length by omega]
def RowG {α : Type} (g : α → List Value) (sz : Nat) (d : α) (w : World) (a : Option Addr) (n c : Nat) (xs : List α) : Prop :=
  xs.length = n ∧ n ≤ c ∧ c ≤ maxLen ∧ (0 < n → ∃ b off, a = some ⟨b, off, none⟩ ∧ b < w.heap.size ∧ ∀ j, j < n → ∀ i v, (g (xs.getD j d))[i]? = some v → w.cell? ⟨b, off + j * sz + i, none⟩ = some v)
theorem RowG.len {α} {g : α → List Value} {sz d w a n c} {xs : List α} (h : RowG g sz d w a n c xs) : xs.length = n := h.1
theorem RowG.le_cap {α} {g : α → List Value} {sz d w a n c} {xs : List α} (h : RowG g sz d w a n c xs) : n ≤ c := h.2.1
theorem RowG.le {α} {g : α → List Value} {sz d w a n c} {xs : List α} (h : RowG g sz d w a n c xs) : n ≤ 9223372036854775807 := by
  have h1 := h.2.1; have h2 := h.2.2.1; simp only [maxLen] at h2; omega
theorem RowG.keep {α} {g : α → List Value} {sz d w w' a n c} {xs : List α} (h : RowG g sz d w a n c xs) (hb : Below w.heap.size w w') : RowG g sz d w' a n c xs := by
  obtain ⟨h1, h2, h3, h4⟩ := h
  refine ⟨h1, h2, h3, fun hn => ?_⟩
  obtain ⟨b, off, e, hlt, hc⟩ := h4 hn
  refine ⟨b, off, e, Nat.lt_of_lt_of_le hlt hb.size, fun j hj i v hv => ?_⟩
  rw [hb.cell (p := ⟨b, off + j * sz + i, none⟩) hlt]
  exact hc j hj i v hv
theorem RowG.at {α} {g : α → List Value} {sz d w a n c} {xs : List α} (h : RowG g sz d w a n c xs) (hn : 0 < n) :
    ∃ b off, a = some ⟨b, off, none⟩ ∧ b < w.heap.size ∧ ∀ j, j < n → ∀ i v, (g (xs.getD j d))[i]? = some v → w.cell? ⟨b, off + j * sz + i, none⟩ = some v := h.2.2.2 hn
end Go.Proofs.YtapnplljnpconaaGreatDoor
namespace Go.Proofs.YtapnplljnpconaaGreatDoor
open Go.ChangeShapes Go.WideShapes Go.ChangeAt Go.RowKit
theorem Tryz.ownKnob : ownKnob Tryz.prog.godebug = none := by kernel_rfl
theorem Tryz.laidOut : laidOutB Tryz.prog = true := by kernel_rfl
section
variable {H : Type} {enc : TypeId × Value → H} {P : Program}
theorem Qiz (hl : laidOutB P = true) {W W' : World} {sp : Nat → Bool} : ∀ (ts : List TypeId) (vs : List Value) (ds : List (DataW H)) (ps : List MemPlace),
    (∀ t ∈ ts, P.readableRec t = true ∧ t < P.types.size) → DataW.TrodAll enc P W 0 (fun _ => true) true ts vs ds ps → (∀ p ∈ ps, W.sameAt W' p) → (∀ p ∈ ps, sp p.block = true) →
    DataW.TrodAll enc P W' 0 sp true ts vs ds ps
  | [], _, _, _, _, h, _, _ => by
    obtain ⟨rfl, rfl, rfl⟩ := trodAll_nil h
    exact trodAll_mk0
  | t :: ts, _, _, _, ht, h, h1, h2 => by
    obtain ⟨v, vs', d, ds', p, q, rfl, rfl, rfl, hv, hr⟩ := trodAll_cons h
    have ht0 := ht t (by simp)
    exact trodAll_cons_mk (WideElems.Trod_stays hl ht0.1 ht0.2 hv (fun x hx => h1 x (by simp [hx])) (fun x hx => h2 x (by simp [hx])))
      (Qiz hl ts vs' ds' q (fun t h => ht t (by simp [h])) hr (fun x hx => h1 x (by simp [hx])) (fun x hx => h2 x (by simp [hx])))
theorem Qz9 {f : Func} {s : ChangeSpec} {tb : TypeId} {W W' : World} {args : Array Value} {ds : List (DataW H)} {before : List MemPlace}
    (hl : laidOutB P = true) (ht : ∀ t ∈ f.params.toList, P.readableRec t = true ∧ t < P.types.size)
    (hW : DataW.Whole enc P f.params.toList s.vars false W args.toList ds [] before) (hv : s.vars = []) (hr : f.resultTypes = #[tb]) (hb : P.underlying tb = some .bool)
    (hfn : s.fn H ds = { results := [.lit (.bool true)], args := ds }) (hbl : Below W.heap.size W W') : s.post enc P f false true false false W args (.bool true) W' := by
  have hlt : ∀ p ∈ before, p.block < W.heap.size := fun p hp => hW.lt p hp
  have hW0 := hW
  obtain ⟨p, q, hA, hV, hpq, hz, hn⟩ := hW
  rw [hv] at hV
  obtain ⟨_, rfl⟩ := trodVars_none hV
  simp only [List.append_nil] at hpq
  subst hpq
  have hfn' : s.fn H (ds ++ []) = { results := [.lit (.bool true)], args := ds } := by rw [List.append_nil]; exact hfn
  have hold : ∀ x ∈ before, (fun b => decide (b < W.heap.size)) x.block = true := fun x hx => by simpa using hlt x hx
  have keep : ∀ sp : Nat → Bool, (∀ x ∈ before, sp x.block = true) → DataW.TrodAll enc P W' 0 sp true f.params.toList args.toList ds before := fun sp hs =>
    Qiz hl _ _ _ _ ht hA (fun x hx => hbl.same (hlt x hx)) hs
  have hres : ∀ (b : Nat) (sp : Nat → Bool) (hd : Bool), DataW.TrodAll enc P W' b sp hd f.resultTypes.toList ((Value.bool true).resultList f.resultTypes.size) (s.fn H (ds ++ [])).results [] := fun b sp hd => by
    rw [hfn', hr]; exact trodAll_mk1 (shut_bool hb true)
  refine ⟨ds, [], before, [], before, [], hW0, hres _ _ _, ?_, ?_, World.keptBut_mono (fun x hx => ⟨hx, Or.inr (Or.inl hx)⟩) (hbl.frame (· ∈ before)), fun h => by cases h⟩
  · rw [hfn']; exact keep _ hold
  · rw [hv, hfn']; rfl
end
end Go.Proofs.YtapnplljnpconaaGreatDoor
namespace Go.Ev
open Go Go.ChangeShapes Go.WideShapes Go.RowKit
section
variable {H : Type} {enc : TypeId × Value → H} {P : Program} {w : World} {α : Type}
def Hv (P : Program) (t : TypeId) (d : DataW H) : Prop := ∀ k ∈ d.weights P t, k ≤ reachBytes
def Dec (enc : TypeId × Value → H) (P : Program) (w : World) (n : Nat) (t : TypeId) (v : α → List V) (Q : α → Prop) : Prop :=
  ∀ fuel, fuel ≤ n → ∀ cs y, DataW.trod enc P w 0 (fun _ => true) true fuel t cs = some y → Hv P t y.1 → ∃ x : α, Reps (memOf w) noPlc cs (v x) ∧ Q x
def I64 (n : Int) : Prop := -9223372036854775808 ≤ n ∧ n ≤ 9223372036854775807
theorem Qg0 {n : Nat} {t : TypeId} (ht : P.underlying t = some (.int .i64)) : Dec enc P w n t (fun i => [.int .i64 i]) I64 := by
  intro fuel _ cs y h _
  obtain ⟨i, rfl, _, hw⟩ := DataW.trod_int ht h
  exact ⟨i, Reps.cons (.int _ _) Reps.nil, show _ ∧ _ by simpa [Lit.wf, IntKind.min, IntKind.max, IntKind.signed, IntKind.bits] using hw⟩
theorem Qr0 {n : Nat} {t : TypeId} (ht : P.underlying t = some .bool) : Dec enc P w n t (fun i => [.bool i]) (fun _ => True) := by
  intro fuel _ cs y h _
  obtain ⟨i, rfl, _⟩ := DataW.trod_bool ht h
  exact ⟨i, Reps.cons (.bool _) Reps.nil, trivial⟩
theorem Qki {n : Nat} {t : TypeId} (ht : P.underlying t = some .string) : Dec enc P w n t (fun i => [.str i]) (fun s => s.length ≤ reachBytes) := by
  intro fuel _ cs y h hv
  obtain ⟨i, rfl, rfl, hw⟩ := DataW.trod_string ht h
  refine ⟨i.data.toList, Reps.cons (.str _ _ rfl) Reps.nil, hv _ ?_⟩
  simp [DataW.weights]
theorem Qi0 {P : Program} : ∀ {ts : List TypeId} {ds : List (DataW H)} {i : Nat} {t : TypeId} {d : DataW H} {k : Nat}, ts[i]? = some t → ds[i]? = some d → k ∈ d.weights P t → k ∈ DataW.weightsEach P ts ds
  | [], _, i, t, d, k, h, _, _ => by simp at h
  | _ :: _, [], i, t, d, k, _, h, _ => by simp at h
  | t0 :: ts, d0 :: ds, 0, t, d, k, h1, h2, h3 => by
    simp at h1 h2
    subst h1 h2
    simp only [DataW.weightsEach]
    exact List.mem_append_left _ h3
  | t0 :: ts, d0 :: ds, i + 1, t, d, k, h1, h2, h3 => by
    simp only [DataW.weightsEach]
    exact List.mem_append_right _ (Qi0 (i := i) (by simpa using h1) (by simpa using h2) h3)
theorem Qkj {P : Program} {e : TypeId} : ∀ {ds : List (DataW H)} {d : DataW H} {k : Nat}, d ∈ ds → k ∈ d.weights P e → k ∈ DataW.weightsAll P e ds
  | [], d, k, h, _ => by cases h
  | d0 :: ds, d, k, h, h3 => by
    simp only [DataW.weightsAll]
    rcases List.mem_cons.1 h with rfl | h
    · exact List.mem_append_left _ h3
    · exact List.mem_append_right _ (Qkj h h3)
theorem Qel {n : Nat} {t : TypeId} {fs : Array Field} {cs : List Value} {y : DataW H × List MemPlace} (ht : P.underlying t = some (.struct fs)) (h : DataW.trod enc P w 0 (fun _ => true) true n t cs = some y) (hv : Hv P t y.1) :
    cs.length = P.cellsOf t ∧ ∃ m, n = m + 1 ∧ ∀ (i : Nat) (f : Field), fs[i]? = some f → ∃ z, DataW.trod enc P w 0 (fun _ => true) true m f.type ((cs.drop f.offset).take (P.cellsOf f.type)) = some z ∧ Hv P f.type z.1 := by
  obtain ⟨xs, m, hm, rfl, hl, hx, hf⟩ := DataW.trod_struct ht h
  refine ⟨hl, m, hm, fun i f hi => ?_⟩
  have hi2 : i < xs.length := by rw [hx]; exact (Array.getElem?_eq_some_iff.1 hi).1
  refine ⟨xs[i], by rw [hf i f hi, List.getElem?_eq_getElem hi2], fun k hk => hv k ?_⟩
  simp only [DataW.weights, ht]
  exact Qi0 (i := i) (by simp [hi]) (by simp [hi2]) hk
theorem Qch {M : Mem} {ι : Plc} {cs : List Value} {a m k : Nat} {xs ys : List V} (hx : Reps M ι ((cs.drop a).take m) xs) (hy : Reps M ι ((cs.drop (a + m)).take k) ys) : Reps M ι ((cs.drop a).take (m + k)) (xs ++ ys) := by
  have : (cs.drop a).take (m + k) = (cs.drop a).take m ++ (cs.drop (a + m)).take k := by rw [List.take_add, List.drop_drop]
  rw [this]
  exact hx.append hy
theorem Qf8 {M : Mem} {ι : Plc} {cs : List Value} {m : Nat} {xs : List V} (hl : cs.length = m) (hx : Reps M ι ((cs.drop 0).take m) xs) : Reps M ι cs xs := by
  rw [List.drop_zero, List.take_of_length_le (by omega)] at hx
  exact hx
theorem Qol (b off j : Nat) : (⟨b, off, none⟩ : Addr).add j = ⟨b, off + j, none⟩ := by
  by_cases h : j = 0
  · subst h; rfl
  · simp [Addr.add, h]
theorem Qr1 {α : Type} (P : Nat → α → Prop) : ∀ n, (∀ i, i < n → ∃ x, P i x) → ∃ xs : List α, xs.length = n ∧ ∀ i x, xs[i]? = some x → P i x := by
  intro n
  induction n with
  | zero => intro _; exact ⟨[], rfl, fun i x hi => by cases hi⟩
  | succ n ih =>
    intro h
    obtain ⟨xs, hl, hx⟩ := ih (fun i hi => h i (by omega))
    obtain ⟨y, hy⟩ := h n (by omega)
    refine ⟨xs ++ [y], by simp [hl], fun i x hi => ?_⟩
    by_cases e : i < xs.length
    · rw [List.getElem?_append_left e] at hi; exact hx i x hi
    · have h1 := (List.getElem?_eq_some_iff.1 hi).1
      have e2 : i = n := by simp at h1; omega
      subst e2
      rw [List.getElem?_append_right (by omega), hl, Nat.sub_self] at hi
      cases hi
      exact hy
theorem Qkk {β : Type} {ls : List (List β)} {sz : Nat} (hs : ∀ l ∈ ls, l.length = sz) (h0 : 0 < sz) (i : Nat) : ls.flatten[i]? = (ls[i / sz]?).bind fun l => l[i % sz]? := by
  induction ls generalizing i with
  | nil => simp
  | cons l ls ih =>
    have hl := hs l (List.mem_cons_self ..)
    rw [List.flatten_cons]
    by_cases h : i < sz
    · rw [List.getElem?_append_left (by omega), Nat.div_eq_of_lt h, Nat.mod_eq_of_lt h]
      rfl
    · have e1 : i / sz = (i - sz) / sz + 1 := by
        have := Nat.sub_add_cancel (Nat.le_of_not_lt h)
        rw [← Nat.add_div_right _ h0, this]
      have e2 : i % sz = (i - sz) % sz := by
        have := Nat.sub_add_cancel (Nat.le_of_not_lt h)
        rw [← Nat.add_mod_right (i - sz), this]
      rw [List.getElem?_append_right (by omega), hl, ih (fun l' h' => hs l' (List.mem_cons_of_mem _ h')), e1, e2]
      rfl
theorem Qem {n : Nat} {t e : TypeId} {f : α → V} {Q : α → Prop} {sz : Nat} (ht : P.underlying t = some (.slice e)) (hc : P.cellsOf e = sz) (h0 : 0 < sz) (hbt : 0 < P.bytesOf e) (hf : ∀ x, (f x).cells.length = sz) (hd : Dec enc P w n e (fun x => (f x).cells) Q) :
    Dec enc P w (n + 1) t (fun s => [vSl f s]) (fun s => s.l.length ≤ reachBytes ∧ ∀ x ∈ s.l, Q x) := by
  intro fuel hfu cs y h hv
  rcases DataW.trod_slice ht h with ⟨rfl, _⟩ | ⟨a, len, cap, elems, rest, m, rfl, rfl, rfl, _, hl, hm, hel, hi, hr, _⟩
  · exact ⟨.nil, Reps.cons .nils Reps.nil, Nat.zero_le _, fun x hx => by cases hx⟩
  · have key : ∀ i, i < len → ∃ x : α, (∃ us : List Value, us.length = sz ∧ (∀ j u, us[j]? = some u → w.cell? ((a.add (i * sz)).add j) = some u) ∧ Reps (memOf w) noPlc us (f x).cells) ∧ Q x := by
      intro i hil
      have h1 := hi i hil
      rw [List.getElem?_eq_getElem (by omega), hc] at h1
      obtain ⟨us, hu, h2⟩ := Option.bind_eq_some_iff.1 h1
      obtain ⟨_, hul, hat⟩ := World.cells?_some hu
      obtain ⟨x, hx, hq⟩ := hd m (by omega) us _ h2 (fun k hk => hv k (by
        simp only [DataW.weights, ht]
        refine List.mem_cons_of_mem _ (List.mem_append_left _ (Qkj (List.mem_map_of_mem (List.getElem_mem (l := elems) (n := i) (by omega))) hk))))
      refine ⟨x, ⟨us, hul, fun j u hj => ?_, hx⟩, hq⟩
      have hjl : j < sz := by rw [← hul]; exact (List.getElem?_eq_some_iff.1 hj).1
      rw [hat j hjl, hj]
    obtain ⟨xs, hxl, hx⟩ := Qr1 _ len key
    have hlenb : len ≤ reachBytes := by
      have h3 : (elems.length + rest.length) * P.bytesOf e ≤ reachBytes := hv _ (by
        simp only [DataW.weights, ht, List.length_map]
        exact List.mem_cons_self ..)
      have h4 : elems.length + rest.length ≤ (elems.length + rest.length) * P.bytesOf e := Nat.le_mul_of_pos_right _ hbt
      omega
    refine ⟨.row xs, Reps.cons ?_ Reps.nil, by show xs.length ≤ _; omega, fun x hxm => ?_⟩
    · show Rep (memOf w) noPlc (.slice (some a) len cap) (.sl (xs.map f) .no)
      by_cases hcap : cap = 0
      · obtain rfl : len = 0 := by omega
        subst hcap
        obtain rfl : xs = [] := List.length_eq_zero_iff.1 hxl
        exact .sl0 a .no fun s e => by cases e
      ·
        have hsome : ∃ u, w.cell? a = some u := by
          have h1 : ∃ us, w.cells? 0 (a.add 0) sz = some us := by
            by_cases hlen : len = 0
            · obtain ⟨hr1, hr2⟩ := hr rfl
              obtain ⟨d0, hd0⟩ : ∃ d, rest[0]? = some d := ⟨_, List.getElem?_eq_getElem (by omega)⟩
              have h1 := hr2 0 (by omega)
              rw [hd0, hc, hlen] at h1
              obtain ⟨us, hu, _⟩ := Option.bind_eq_some_iff.1 h1
              exact ⟨us, by simpa using hu⟩
            · have h1 := hi 0 (by omega)
              rw [List.getElem?_eq_getElem (by omega), hc] at h1
              obtain ⟨us, hu, _⟩ := Option.bind_eq_some_iff.1 h1
              exact ⟨us, by simpa using hu⟩
          obtain ⟨us, hu⟩ := h1
          obtain ⟨_, hul, hat⟩ := World.cells?_some hu
          have := hat 0 h0
          rw [List.getElem?_eq_getElem (by omega)] at this
          exact ⟨_, by simpa [Addr.add] using this⟩
        obtain ⟨u0, hu0⟩ := hsome
        have hsp : a.spot = none := by
          cases hsp : a.spot with
          | none => rfl
          | some s =>
            exfalso
            unfold World.cell? at hu0
            rw [hsp] at hu0
            cases hb : w.heap[a.block]? with
            | none => simp [hb] at hu0
            | some o => cases o <;> simp [hb] at hu0
        obtain ⟨b, off, spot⟩ := a
        simp only at hsp
        subst hsp
        have hall : ∀ i, i < len → ∃ us : List Value, us.length = sz ∧ (∀ j u, us[j]? = some u → w.cell? ⟨b, off + (i * sz + j), none⟩ = some u) ∧ ∃ x, xs[i]? = some x ∧ Reps (memOf w) noPlc us (f x).cells := by
          intro i hil
          obtain ⟨us, h1, h2, h3⟩ := (hx i _ (List.getElem?_eq_getElem (by omega))).1
          refine ⟨us, h1, fun j u hj => ?_, _, List.getElem?_eq_getElem (by omega), h3⟩
          have := h2 j u hj
          rw [Qol, Qol, Nat.add_assoc] at this
          exact this
        obtain ⟨uss, hul, hus⟩ := Qr1 _ len hall
        have hsz : ∀ l ∈ uss, l.length = sz := fun l hl => by
          obtain ⟨i, hi, e⟩ := List.getElem_of_mem hl
          exact (hus i l (by rw [List.getElem?_eq_getElem hi, e])).1
        have hfl : (xs.map f).flatMap V.cells = (xs.map fun x => (f x).cells).flatten := by rw [List.flatMap_def, List.map_map]; rfl
        have hszx : ∀ l ∈ xs.map (fun x => (f x).cells), l.length = sz := fun l hl => by
          obtain ⟨x, _, rfl⟩ := List.mem_map.1 hl
          exact hf x
        have hlen1 : uss.flatten.length = len * sz := by
          rw [List.length_flatten, List.map_congr_left (g := fun _ => sz) hsz, List.map_const', List.sum_replicate_nat, hul]
        have hlen2 : (xs.map fun x => (f x).cells).flatten.length = len * sz := by
          rw [List.length_flatten, List.map_congr_left (g := fun _ => sz) hszx, List.map_const', List.sum_replicate_nat, List.length_map, hxl]
        have key := Rep.sl (M := memOf w) (ι := noPlc) (xs.map f) .no b off cap sz uss.flatten
          (fun y hy => by obtain ⟨x, _, rfl⟩ := List.mem_map.1 hy; exact hf x)
          (by rw [hfl, hlen1, hlen2])
          (fun i u hu => by
            rw [Qkk hsz h0] at hu
            obtain ⟨l, hl1, hl2⟩ := Option.bind_eq_some_iff.1 hu
            have h1 := (hus _ l hl1).2.1 _ u hl2
            show w.cell? ⟨b, off + i, none⟩ = _
            rw [show i / sz * sz + i % sz = i by rw [Nat.mul_comm]; exact Nat.div_add_mod i sz] at h1
            exact h1)
          (fun i u c hu hc' => by
            rw [hfl, Qkk hszx h0] at hc'
            rw [Qkk hsz h0] at hu
            obtain ⟨l, hl1, hl2⟩ := Option.bind_eq_some_iff.1 hu
            obtain ⟨k, hk1, hk2⟩ := Option.bind_eq_some_iff.1 hc'
            obtain ⟨x, hxx, hrep⟩ := (hus _ l hl1).2.2
            rw [List.getElem?_map, hxx] at hk1
            cases hk1
            exact hrep.2 _ u c hl2 hk2)
          (by rw [List.length_map, hxl]; exact hl) (fun e => by cases e)
        rw [List.length_map, hxl] at key
        exact key
    · obtain ⟨k, hk, e⟩ := List.getElem_of_mem hxm
      have := (hx k _ (List.getElem?_eq_getElem hk)).2
      rwa [e] at this
theorem Dec.mono {n m : Nat} {t : TypeId} {v : α → List V} {Q : α → Prop} (h : Dec enc P w n t v Q) (hm : m ≤ n) : Dec enc P w m t v Q := fun fuel hf cs y hy hv => h fuel (Nat.le_trans hf hm) cs y hy hv
end
end Go.Ev
set_option maxRecDepth 100000
namespace Go.Proofs.YtapnplljnpconaaGreatDoor
open Go Go.Ev Go.ChangeShapes Go.WideShapes Go.RowKit
section
variable {H : Type} {enc : TypeId × Value → H} {w : World}
abbrev DecP (enc : TypeId × Value → H) (w : World) (n : Nat) (t : TypeId) {α : Type} (v : α → List V) (Q : α → Prop) : Prop := Dec enc Tryz.prog w n t v Q
def maxS (s : List UInt8) : Prop := s.length ≤ reachBytes
def SmOk {α : Type} (K : Sl α → Prop) (s : Sm α) : Prop := I64 s.kind ∧ I64 s.ns ∧ maxS s.pre ∧ maxS s.name ∧ I64 s.op ∧ maxS s.text ∧ I64 s.mark ∧ I64 s.a ∧ I64 s.b ∧ K s.of
def SlOk {α : Type} (K : α → Prop) (s : Sl α) : Prop := s.l.length ≤ reachBytes ∧ ∀ x ∈ s.l, K x
def CoOk {α : Type} (K : Sl α → Prop) (c : Co α) : Prop := SlOk (fun p : Cp α => I64 p.comb ∧ SlOk (SmOk K) p.list) c.list
def CxOk : (n : Nat) → Cx n → Prop
  | 0, x => x.elim
  | n + 1, c => CoOk (SlOk (CxOk n)) c
theorem Waa {n : Nat} : DecP enc w n 46 (fun x : Int × List UInt8 × Bool => [.int .i64 x.1, .str x.2.1, .bool x.2.2]) (fun x => I64 x.1 ∧ maxS x.2.1) := by
  intro fuel hfu cs y h hv
  obtain ⟨hl, m, rfl, hf⟩ := Qel Tryz.underlying46 h hv
  obtain ⟨_, h0, v0⟩ := hf 0 _ rfl
  obtain ⟨_, h1, v1⟩ := hf 1 _ rfl
  obtain ⟨_, h2, v2⟩ := hf 2 _ rfl
  obtain ⟨x0, r0, q0⟩ := Qg0 (n := m) Tryz.underlying3 m (Nat.le_refl _) _ _ h0 v0
  obtain ⟨x1, r1, q1⟩ := Qki (n := m) Tryz.underlying9 m (Nat.le_refl _) _ _ h1 v1
  obtain ⟨x2, r2, q2⟩ := Qr0 (n := m) Tryz.underlying4 m (Nat.le_refl _) _ _ h2 v2
  exact ⟨(x0, x1, x2), Qf8 (m := 3) hl (Qch (m := 2) (Qch (m := 1) r0 r1) r2), q0, q1⟩
theorem Whv {n : Nat} : DecP enc w n 83 (fun x : Int × Int => [.int .i64 x.1, .int .i64 x.2]) (fun x => I64 x.1 ∧ I64 x.2) := by
  intro fuel hfu cs y h hv
  obtain ⟨hl, m, rfl, hf⟩ := Qel Tryz.underlying83 h hv
  obtain ⟨_, h0, v0⟩ := hf 0 _ rfl
  obtain ⟨_, h1, v1⟩ := hf 1 _ rfl
  obtain ⟨x0, r0, q0⟩ := Qg0 (n := m) Tryz.underlying3 m (Nat.le_refl _) _ _ h0 v0
  obtain ⟨x1, r1, q1⟩ := Qg0 (n := m) Tryz.underlying3 m (Nat.le_refl _) _ _ h1 v1
  exact ⟨(x0, x1), Qf8 (m := 2) hl (Qch (m := 1) r0 r1), q0, q1⟩
section
variable {n : Nat} {α : Type} {v : α → V} {K : Sl α → Prop} (hd : DecP enc w n 51 (fun s => [vSl v s]) K)
include hd
theorem Whw : DecP enc w (n + 1) 96 (fun s => (vSm v s).cells) (SmOk K) := by
  intro fuel hfu cs y h hv
  obtain ⟨hl, m, rfl, hf⟩ := Qel Tryz.underlying96 h hv
  obtain ⟨_, h0, v0⟩ := hf 0 _ rfl
  obtain ⟨_, h1, v1⟩ := hf 1 _ rfl
  obtain ⟨_, h2, v2⟩ := hf 2 _ rfl
  obtain ⟨_, h3, v3⟩ := hf 3 _ rfl
  obtain ⟨_, h4, v4⟩ := hf 4 _ rfl
  obtain ⟨_, h5, v5⟩ := hf 5 _ rfl
  obtain ⟨_, h6, v6⟩ := hf 6 _ rfl
  obtain ⟨_, h7, v7⟩ := hf 7 _ rfl
  obtain ⟨x0, r0, q0⟩ := Qg0 (n := m) Tryz.underlying3 m (Nat.le_refl _) _ _ h0 v0
  obtain ⟨x1, r1, q1⟩ := Qg0 (n := m) Tryz.underlying3 m (Nat.le_refl _) _ _ h1 v1
  obtain ⟨x2, r2, q2⟩ := Qki (n := m) Tryz.underlying9 m (Nat.le_refl _) _ _ h2 v2
  obtain ⟨x3, r3, q3⟩ := Qki (n := m) Tryz.underlying9 m (Nat.le_refl _) _ _ h3 v3
  obtain ⟨x4, r4, q4⟩ := Waa (n := m) m (Nat.le_refl _) _ _ h4 v4
  obtain ⟨x5, r5, q5⟩ := Qg0 (n := m) Tryz.underlying3 m (Nat.le_refl _) _ _ h5 v5
  obtain ⟨x6, r6, q6⟩ := Whv (n := m) m (Nat.le_refl _) _ _ h6 v6
  obtain ⟨x7, r7, q7⟩ := hd m (by omega) _ _ h7 v7
  exact ⟨⟨x0, x1, x2, x3, x4.1, x4.2.1, x4.2.2, x5, x6.1, x6.2, x7⟩, Qf8 (m := 11) hl (Qch (m := 10) (Qch (m := 8) (Qch (m := 7) (Qch (m := 4) (Qch (m := 3) (Qch (m := 2) (Qch (m := 1) r0 r1) r2) r3) r4) r5) r6) r7),
    q0, q1, q2, q3, q4.1, q4.2, q5, q6.1, q6.2, q7⟩
theorem Whx : DecP enc w (n + 3) 94 (fun c => (vCp v c).cells) (fun p => I64 p.comb ∧ SlOk (SmOk K) p.list) := by
  intro fuel hfu cs y h hv
  obtain ⟨hl, m, rfl, hf⟩ := Qel Tryz.underlying94 h hv
  obtain ⟨_, h0, v0⟩ := hf 0 _ rfl
  obtain ⟨_, h1, v1⟩ := hf 1 _ rfl
  obtain ⟨x0, r0, q0⟩ := Qg0 (n := m) Tryz.underlying3 m (Nat.le_refl _) _ _ h0 v0
  obtain ⟨x1, r1, q1⟩ := Qem (sz := 11) Tryz.underlying92 (by kernel_rfl) (by decide) (of_decide_eq_true (by kernel_rfl)) (fun _ => rfl) (Whw hd) m (by omega) _ _ h1 v1
  exact ⟨⟨x0, x1⟩, Qf8 (m := 2) hl (Qch (m := 1) r0 r1), q0, q1⟩
theorem Why : DecP enc w (n + 5) 91 (fun c => (vCo v c).cells) (CoOk K) := by
  intro fuel hfu cs y h hv
  obtain ⟨hl, m, rfl, hf⟩ := Qel Tryz.underlying91 h hv
  obtain ⟨_, h0, v0⟩ := hf 0 _ rfl
  obtain ⟨x0, r0, q0⟩ := Qem (sz := 2) Tryz.underlying89 (by kernel_rfl) (by decide) (of_decide_eq_true (by kernel_rfl)) (fun _ => rfl) (Whx hd) m (by omega) _ _ h0 v0
  exact ⟨⟨x0⟩, Qf8 (m := 1) hl r0, q0⟩
end
theorem Qom : ∀ (n : Nat) (x : Cx n), (vCx n x).cells.length = 1
  | 0, x => x.elim
  | n + 1, x => rfl
theorem Wbm : ∀ n, DecP enc w n 91 (fun c => (vCx n c).cells) (CxOk n)
  | 0 => fun fuel hf cs y h _ => by
    obtain rfl : fuel = 0 := by omega
    cases h
  | n + 1 => by
    have ih := Wbm n
    have h1 : DecP enc w (n + 1) 51 (fun s => [vSl (vCx n) s]) (SlOk (CxOk n)) := Qem (sz := 1) Tryz.underlying51 (by kernel_rfl) (by decide) (of_decide_eq_true (by kernel_rfl)) (Qom n) ih
    exact Dec.mono (Why h1) (by omega)
theorem Wab (n : Nat) : DecP enc w (n + 1) 51 (fun s => [vSl (vCx n) s]) (SlOk (CxOk n)) := Qem (sz := 1) Tryz.underlying51 (by kernel_rfl) (by decide) (of_decide_eq_true (by kernel_rfl)) (Qom n) (Wbm n)
theorem Qw2 (n : Nat) : DecP enc w (n + 2) 22 (fun s => [vSl (vSl (vCx n)) s]) (SlOk (SlOk (CxOk n))) :=
  Qem (sz := 1) Tryz.underlying22 (by kernel_rfl) (by decide) (of_decide_eq_true (by kernel_rfl)) (fun x => by rw [Qcp]; rfl) (fun f hf cs y h hv => by
    obtain ⟨x, hx⟩ := Wab n f hf cs y h hv
    exact ⟨x, by show Reps _ _ cs (vSl (vCx n) x).cells; rw [Qcp]; exact hx.1, hx.2⟩)
theorem Qr2 (n : Nat) : DecP enc w (n + 1) 23 (fun s => [vSl V.str s]) (SlOk maxS) := Qem (sz := 1) Tryz.underlying23 (by kernel_rfl) (by decide) (of_decide_eq_true (by kernel_rfl)) (fun _ => rfl) (Qki Tryz.underlying9)
structure Nms where
  has : Bool
  dflt : List UInt8
  pres : Sl (List UInt8)
  spaces : Sl (List UInt8)
@[reducible] def vNms (n : Nms) : V := .agg [.bool n.has, .str n.dflt, vSl V.str n.pres, vSl V.str n.spaces]
def Whz (n : Nms) : Prop := maxS n.dflt ∧ SlOk maxS n.pres ∧ SlOk maxS n.spaces
theorem Wel {n : Nat} : DecP enc w n 25 (fun x => (vNms x).cells) Whz := by
  intro fuel hfu cs y h hv
  obtain ⟨hl, m, rfl, hf⟩ := Qel Tryz.underlying25 h hv
  obtain ⟨_, h0, v0⟩ := hf 0 _ rfl
  obtain ⟨_, h1, v1⟩ := hf 1 _ rfl
  obtain ⟨_, h2, v2⟩ := hf 2 _ rfl
  obtain ⟨_, h3, v3⟩ := hf 3 _ rfl
  obtain ⟨x0, r0, q0⟩ := Qr0 (n := m) Tryz.underlying4 m (Nat.le_refl _) _ _ h0 v0
  obtain ⟨x1, r1, q1⟩ := Qki (n := m) Tryz.underlying9 m (Nat.le_refl _) _ _ h1 v1
  obtain ⟨x2, r2, q2⟩ := (Qr2 m).mono (Nat.le_succ m) m (Nat.le_refl _) _ _ h2 v2
  obtain ⟨x3, r3, q3⟩ := (Qr2 m).mono (Nat.le_succ m) m (Nat.le_refl _) _ _ h3 v3
  exact ⟨⟨x0, x1, x2, x3⟩, Qf8 (m := 4) hl (Qch (m := 3) (Qch (m := 2) (Qch (m := 1) r0 r1) r2) r3), q1, q2, q3⟩
theorem Qti {r : Reach} {b0 : Nat} {v : Value} {d : DataW H} {p : List MemPlace} (hv : Value.okWide Tryz.prog w r b0 22 v) (h : DataW.Trod enc Tryz.prog w 0 (fun _ => true) true 22 v d p) (hz : Hv Tryz.prog 22 d) :
    ∃ (n : Nat) (x : Sl (Sl (Cx n))), SlOk (SlOk (CxOk n)) x ∧ Rep (memOf w) noPlc v (vSl (vSl (vCx n)) x) := by
  obtain ⟨a, len, cap, rfl⟩ := okWide_slice Tryz.underlying22 hv
  obtain ⟨fuel, hf⟩ := h
  obtain ⟨x, hx, hq⟩ := Qw2 fuel fuel (by omega) _ _ hf hz
  exact ⟨fuel, x, hq, hx.2 0 _ _ rfl rfl⟩
theorem Qtj {r : Reach} {b0 : Nat} {v : Value} {d : DataW H} {p : List MemPlace} (hv : Value.okWide Tryz.prog w r b0 25 v) (h : DataW.Trod enc Tryz.prog w 0 (fun _ => true) true 25 v d p) (hz : Hv Tryz.prog 25 d) :
    ∃ x : Nms, Whz x ∧ Rep (memOf w) noPlc v (vNms x) := by
  obtain ⟨cs, rfl, _⟩ := okWide_struct Tryz.underlying25 hv
  obtain ⟨fuel, hf⟩ := h
  obtain ⟨x, hx, hq⟩ := Wel (n := fuel) fuel (by omega) _ _ hf hz
  exact ⟨x, hq, Rep.agg_iff.2 hx⟩
end
end Go.Proofs.YtapnplljnpconaaGreatDoor
namespace Go.Ev
section
variable {α : Type} {f : α → V} {s : Sl α} {sz : Nat}
theorem Qex {k : IntKind} {i : Int} {x : α} (h : s.l[i.toNat]? = some x) (hi : 0 ≤ i) (hf : (f x).cells.length = sz) : eI sz (.int k i) (vSl f s) = some (.eptr (f x).cells 0) := by
  obtain ⟨hl, e⟩ := List.getElem?_eq_some_iff.1 h
  have h2 : s.l = s.l.take i.toNat ++ x :: s.l.drop (i.toNat + 1) := by rw [← e]; simp
  refine Qaz h2 ?_ hf
  rw [List.length_take]; omega
end
abbrev Qc6 : Sl (List UInt8) → V := vSl V.str
theorem Qg1 {n : Nat} {s : Sl (List UInt8)} : V.rb n (Qc6 s) = true := Qoe fun _ _ => rfl
attribute [go_sem] Qg1
end Go.Ev
namespace Go.Proofs.YtapnplljnpconaaGreatDoor
open Go.Ev
set_option maxRecDepth 100000
set_option maxHeartbeats 4000000
def errN (k : Int) : V := .ifc 98 (.eptr [.int .i64 k, .int .i64 0, .nili] 0)
theorem Qw3 (k a : Int) (σ : Objs) (hσ : Wf σ) : E cx 52 [.int .i64 k, .int .i64 a] σ = some (.ifc 98 (.eptr [.int .i64 k, .int .i64 a, .nili] 0), σ) := by
  rw [e_Zw]
  simp +contextual -implicitDefEqProofs (disch := first | assumption | omega | (simp -implicitDefEqProofs only [go_sem]; try omega)) only [↓reduceIte, go_sem, iP, iN, w64, w8, w32, s_Zw]
theorem Qf9 (s : List UInt8) (hs : s.length ≤ 1000000000) (σ : Objs) (hσ : Wf σ) : E cx 50 [.str s] σ = some (.bool (Qcn s), σ) := by
  have h := fun σ hσ => Qth s hs σ hσ
  rw [e_Z1g]
  simp +contextual -implicitDefEqProofs (disch := first | assumption | omega | (simp -implicitDefEqProofs only [go_sem]; try omega)) only [↓reduceIte, go_sem, iP, iN, w64, w8, w32, s_Z1g, h]
def Qik (s : List UInt8) : Bool := decide (¬ s = []) && Qcn s
theorem Qon (s : List UInt8) (hs : s.length ≤ 1000000000) (σ : Objs) (hσ : Wf σ) : E cx 51 [.str s] σ = some (.bool (Qik s), σ) := by
  have h := fun σ hσ => Qf9 s hs σ hσ
  rw [e_Z1b]
  unfold Qik
  by_cases c : s = []
  · simp +contextual -implicitDefEqProofs (disch := first | assumption | omega | (simp -implicitDefEqProofs only [go_sem]; try omega)) only [↓reduceIte, go_sem, iP, iN, w64, w8, w32, s_Z1b, h, c]
  · simp +contextual -implicitDefEqProofs (disch := first | assumption | omega | (simp -implicitDefEqProofs only [go_sem]; try omega)) only [↓reduceIte, go_sem, iP, iN, w64, w8, w32, s_Z1b, h, c]
theorem Qfr (s : List UInt8) (hs : s.length ≤ 1000000000) (σ : Objs) (hσ : Wf σ) : E cx 33 [.str s] σ = some (.bool (Qcn s), σ) := by
  have h := fun σ hσ => Whq s hs σ hσ
  rw [e_Z2z]
  simp +contextual -implicitDefEqProofs (disch := first | assumption | omega | (simp -implicitDefEqProofs only [go_sem]; try omega)) only [↓reduceIte, go_sem, iP, iN, w64, w8, w32, s_Z2z, h]
def idxF (l : List (List UInt8)) (t : List UInt8) : Nat → Nat → Int
  | 0, i => -1
  | f + 1, i => if i < l.length then (if t = l.getD i [] then (i : Int) else idxF l t f (i + 1)) else -1
def idxS (l : List (List UInt8)) (t : List UInt8) : Int := idxF l t (l.length + 1) 0
def hasS (l : List (List UInt8)) (t : List UInt8) : Bool := l.any fun x => decide (t = x)
theorem Qm1 {α : Type} {l : List α} {i : Nat} (h : i < l.length) (d : α) : l[i]? = some (l.getD i d) := by
  rw [List.getElem?_eq_getElem h, List.getD_eq_getElem?_getD, List.getElem?_eq_getElem h]; rfl
theorem Qoo (s : Sl (List UInt8)) (t : List UInt8) (hs : s.l.length ≤ 1000000000) : ∀ (f i : Nat), s.l.length < f + i → i ≤ s.l.length →
    l_Z1j_0 (Mi cx) 0 0 [Qc6 s, .str t, .int .i64 s.l.length, .int .i64 i] [] = some (.int .i64 (idxF s.l t f i), [])
  | 0, i, hf, hi => by omega
  | f + 1, i, hf, hi => by
    rw [u_Z1j_0]
    unfold idxF
    by_cases c1 : (i : Int) < s.l.length
    · have hx := Qex (f := V.str) (s := s) (k := .i64) (i := (i : Int)) (Qm1 (by omega) []) (by omega) (sz := 1) rfl
      rw [Int.toNat_natCast] at hx
      have c1' : i < s.l.length := by omega
      by_cases c2 : t = s.l.getD i []
      · simp +contextual -implicitDefEqProofs (disch := first | assumption | omega | (simp -implicitDefEqProofs only [go_sem]; try omega)) only [↓reduceIte, go_sem, iP, iN, w64, w8, w32, b_Z1j_0, c1, c1', c2, hx]
      · have ih := Qoo s t hs f (i + 1) (by omega) (by omega)
        rw [Int.natCast_succ] at ih
        simp +contextual -implicitDefEqProofs (disch := first | assumption | omega | (simp -implicitDefEqProofs only [go_sem]; try omega)) only [↓reduceIte, go_sem, iP, iN, w64, w8, w32, b_Z1j_0, c1, c1', c2, hx, ih]
    · have c1' : ¬ i < s.l.length := by omega
      simp +contextual -implicitDefEqProofs (disch := first | assumption | omega | (simp -implicitDefEqProofs only [go_sem]; try omega)) only [↓reduceIte, go_sem, iP, iN, w64, w8, w32, b_Z1j_0, c1, c1']
theorem Qw4 (s : Sl (List UInt8)) (t : List UInt8) (hs : s.l.length ≤ 1000000000) (σ : Objs) (hσ : Wf σ) : E cx 67 [Qc6 s, .str t] σ = some (.int .i64 (idxS s.l t), σ) := by
  refine Qcm Qci ?_ (by rw [Qaf, Qg1]; rfl) rfl σ hσ
  have h : l_Z1j_0 (Mi cx) 0 0 [Qc6 s, .str t, .int .i64 s.l.length, .int .i64 0] [] = some (.int .i64 (idxS s.l t), []) := Qoo s t hs (s.l.length + 1) 0 (by omega) (by omega)
  rw [e_Z1j]
  simp +contextual -implicitDefEqProofs (disch := first | assumption | omega | (simp -implicitDefEqProofs only [go_sem]; try omega)) only [↓reduceIte, go_sem, iP, iN, w64, w8, w32, s_Z1j, h]
theorem Qr3 (l : List (List UInt8)) (t : List UInt8) : ∀ (f i : Nat), l.length < f + i → i ≤ l.length → (decide (0 ≤ idxF l t f i) = hasS (l.drop i) t)
  | 0, i, hf, hi => by omega
  | f + 1, i, hf, hi => by
    unfold idxF
    split
    · rename_i c1
      have e : l.drop i = l.getD i [] :: l.drop (i + 1) := by
        rw [List.drop_eq_getElem_cons c1, List.getD_eq_getElem?_getD, List.getElem?_eq_getElem c1]; rfl
      rw [e]
      show _ = (decide (t = l.getD i []) || hasS (l.drop (i + 1)) t)
      split
      · rename_i c2
        rw [← c2]
        simp
      · rename_i c2
        rw [Qr3 l t f (i + 1) (by omega) (by omega), decide_eq_false c2, Bool.false_or]
    · have e : l.drop i = [] := List.drop_eq_nil_of_le (by omega)
      rw [e]; rfl
theorem Wem (l : List (List UInt8)) (t : List UInt8) : decide (0 ≤ idxS l t) = hasS l t := Qr3 l t _ 0 (by omega) (by omega)
theorem Qga (s : Sl (List UInt8)) (t : List UInt8) (hs : s.l.length ≤ 1000000000) (σ : Objs) (hσ : Wf σ) : E cx 46 [Qc6 s, .str t] σ = some (.bool (hasS s.l t), σ) := by
  have h := fun σ hσ => Qw4 s t hs σ hσ
  rw [e_Z1h, ← Wem]
  simp +contextual -implicitDefEqProofs (disch := first | assumption | omega | (simp -implicitDefEqProofs only [go_sem]; try omega)) only [↓reduceIte, go_sem, iP, iN, w64, w8, w32, s_Z1h, h]
def okAt (n : Nms) (i : Nat) : Bool := Qik (n.pres.l.getD i []) && !hasS (n.pres.l.take i) (n.pres.l.getD i []) && Qcn (n.spaces.l.getD i [])
def okF (n : Nms) : Nat → Nat → Bool
  | 0, i => true
  | f + 1, i => if i < n.pres.l.length then okAt n i && okF n f (i + 1) else true
def okN0 (n : Nms) : Bool := decide (n.pres.l.length = n.spaces.l.length) && Qcn n.dflt
def okN (n : Nms) : Bool := okN0 n && okF n (n.pres.l.length + 1) 0
def NmB (n : Nms) : Prop := n.dflt.length ≤ 100 ∧ n.pres.l.length ≤ 30 ∧ n.spaces.l.length ≤ 30 ∧ (∀ x ∈ n.pres.l, x.length ≤ 100) ∧ ∀ x ∈ n.spaces.l, x.length ≤ 100
theorem Qw5 {l : List (List UInt8)} (h : ∀ x ∈ l, x.length ≤ 100) (i : Nat) : (l.getD i []).length ≤ 1000000000 := by
  rw [List.getD_eq_getElem?_getD]
  cases hx : l[i]? with
  | none => simp
  | some x =>
    have := h x (List.mem_of_getElem? hx)
    simp only [Option.getD_some]; omega
def Qaa (n : Nms) : List V := [.bool n.has, .str n.dflt, Qc6 n.pres, Qc6 n.spaces]
theorem Qal {n : Nms} {k : Nat} : V.rbs k (Qaa n) = true := by simp only [Qaa, Qaf, Qj8, Qj9, Qg1, Qby, Bool.and_true]
section
variable {n : Nms} (hn : NmB n)
include hn
theorem Qjl : ∀ (f i : Nat) (ok : Bool), n.pres.l.length < f + i → i ≤ n.pres.l.length → (ok = true → n.pres.l.length = n.spaces.l.length) →
    l_Z14_0 (Mi cx) 0 1 [.ptr 0 0, .bool ok, Qc6 n.pres, .int .i64 n.pres.l.length, .int .i64 i] [.cells (Qaa n)] = some (if (ok && okF n f i) = true then .nili else errN 11, [])
  | 0, i, ok, hf, hi, hl => by omega
  | f + 1, i, ok, hf, hi, hl => by
    obtain ⟨b1, b2, b3, b4, b5⟩ := hn
    rw [u_Z14_0]
    unfold okF
    by_cases c1 : (i : Int) < n.pres.l.length
    · have c1' : i < n.pres.l.length := by omega
      have hx := Qex (f := V.str) (s := n.pres) (k := .i64) (i := (i : Int)) (Qm1 (by omega) []) (by omega) (sz := 1) rfl
      rw [Int.toNat_natCast] at hx
      rw [if_pos c1']
      have h1 := fun σ hσ => Qon (n.pres.l.getD i []) (Qw5 b4 i) σ hσ
      have h2 := fun σ hσ => Qga (n.pres.take i) (n.pres.l.getD i []) (by rw [Sl.take_l, List.length_take]; omega) σ hσ
      rw [Sl.take_l] at h2
      have h3 := fun σ hσ => Qf9 (n.spaces.l.getD i []) (Qw5 b5 i) σ hσ
      have hc := Qln (f := V.str) (s := n.pres) (sz := 1) (fun _ => rfl) (k := .i64) (b := (i : Int)) (by omega)
      rw [Int.toNat_natCast] at hc
      cases ok with
      | false =>
        have ih := Qjl f (i + 1) false (by omega) (by omega) (by simp)
        rw [Int.natCast_succ] at ih
        unfold Qaa at ih
        simp +contextual -implicitDefEqProofs (disch := first | assumption | omega | (simp -implicitDefEqProofs only [go_sem]; try omega)) only [↓reduceIte, go_sem, iP, iN, w64, w8, w32, b_Z14_0, Qaa, c1, hx, ih]
      | true =>
        have hlen := hl rfl
        have hy := Qex (f := V.str) (s := n.spaces) (k := .i64) (i := (i : Int)) (Qm1 (by omega) []) (by omega) (sz := 1) rfl
        rw [Int.toNat_natCast] at hy
        have iht := Qjl f (i + 1) true (by omega) (by omega) (fun _ => hlen)
        rw [Int.natCast_succ] at iht
        unfold Qaa at iht
        have ihf := Qjl f (i + 1) false (by omega) (by omega) (by simp)
        rw [Int.natCast_succ] at ihf
        unfold Qaa at ihf
        unfold okAt
        cases g1 : Qik (n.pres.l.getD i []) with
        | false => simp +contextual -implicitDefEqProofs (disch := first | assumption | omega | (simp -implicitDefEqProofs only [go_sem]; try omega)) only [↓reduceIte, go_sem, iP, iN, w64, w8, w32, b_Z14_0, Qaa, c1, hx, h1, g1, ihf]
        | true =>
          cases g2 : hasS (n.pres.l.take i) (n.pres.l.getD i []) with
          | true => simp +contextual -implicitDefEqProofs (disch := first | assumption | omega | (simp -implicitDefEqProofs only [go_sem]; try omega)) only [↓reduceIte, go_sem, iP, iN, w64, w8, w32, b_Z14_0, Qaa, c1, hx, h1, h2, hc, g1, g2, ihf]
          | false =>
            cases g3 : Qcn (n.spaces.l.getD i []) with
            | false => simp +contextual -implicitDefEqProofs (disch := first | assumption | omega | (simp -implicitDefEqProofs only [go_sem]; try omega)) only [↓reduceIte, go_sem, iP, iN, w64, w8, w32, b_Z14_0, Qaa, c1, hx, hy, h1, h2, h3, hc, g1, g2, g3, ihf]
            | true => simp +contextual -implicitDefEqProofs (disch := first | assumption | omega | (simp -implicitDefEqProofs only [go_sem]; try omega)) only [↓reduceIte, go_sem, iP, iN, w64, w8, w32, b_Z14_0, Qaa, c1, hx, hy, h1, h2, h3, hc, g1, g2, g3, iht]
    · have c1' : ¬ i < n.pres.l.length := by omega
      rw [if_neg c1']
      have h4 := fun σ hσ => Qw3 11 0 σ hσ
      cases ok with
      | false => simp +contextual -implicitDefEqProofs (disch := first | assumption | omega | (simp -implicitDefEqProofs only [go_sem]; try omega)) only [↓reduceIte, go_sem, iP, iN, w64, w8, w32, b_Z14_0, Qaa, c1, h4, errN]
      | true => simp +contextual -implicitDefEqProofs (disch := first | assumption | omega | (simp -implicitDefEqProofs only [go_sem]; try omega)) only [↓reduceIte, go_sem, iP, iN, w64, w8, w32, b_Z14_0, Qaa, c1, h4, errN]
theorem Qi1 (σ : Objs) (hσ : Wf σ) : E cx 29 [vNms n] σ = some (if okN n = true then .nili else errN 11, σ) := by
  refine Qcm Qci ?_ (by rw [Qaf, Qa9, show V.rbs 0 [.bool n.has, .str n.dflt, vSl V.str n.pres, vSl V.str n.spaces] = true from Qal]; rfl) (by split <;> rfl) σ hσ
  have h1 := fun σ hσ => Qf9 n.dflt (by have := hn.1; omega) σ hσ
  have key := fun ok h => Qjl hn (n.pres.l.length + 1) 0 ok (by omega) (by omega) h
  rw [e_Z14]
  unfold okN okN0
  by_cases c : (n.pres.l.length : Int) = n.spaces.l.length
  · have c' : n.pres.l.length = n.spaces.l.length := by omega
    have k1 := key (Qcn n.dflt) (fun _ => c')
    unfold Qaa at k1
    rw [c, show ((0 : Nat) : Int) = 0 from rfl] at k1
    have e : (decide (n.pres.l.length = n.spaces.l.length) && Qcn n.dflt) = Qcn n.dflt := by rw [decide_eq_true c', Bool.true_and]
    rw [e]
    simp +contextual -implicitDefEqProofs (disch := first | assumption | omega | (simp -implicitDefEqProofs only [go_sem]; try omega)) only [↓reduceIte, go_sem, iP, iN, w64, w8, w32, s_Z14, h1, c, k1]
  · have c' : ¬ n.pres.l.length = n.spaces.l.length := by omega
    have k1 := key false (by simp)
    unfold Qaa at k1
    rw [show ((0 : Nat) : Int) = 0 from rfl] at k1
    have e : (decide (n.pres.l.length = n.spaces.l.length) && Qcn n.dflt) = false := by rw [decide_eq_false c', Bool.false_and]
    rw [e]
    simp +contextual -implicitDefEqProofs (disch := first | assumption | omega | (simp -implicitDefEqProofs only [go_sem]; try omega)) only [↓reduceIte, go_sem, iP, iN, w64, w8, w32, s_Z14, h1, c, k1]
end
end Go.Proofs.YtapnplljnpconaaGreatDoor
namespace Go.Ev
section
variable {a b c d : List V} {τ : Objs} {r : V}
theorem Qi2 : Wf [.cells a, .cells b] = (V.rbs 2 a = true ∧ V.rbs 2 b = true) := by simp [Wf, O.rb]
theorem Qjm : Wf [.cells a, .cells b, .cells c] = (V.rbs 3 a = true ∧ V.rbs 3 b = true ∧ V.rbs 3 c = true) := by simp [Wf, O.rb]
theorem Wen : Wf [.cells a, .cells b, .cells c, .cells d] = (V.rbs 4 a = true ∧ V.rbs 4 b = true ∧ V.rbs 4 c = true ∧ V.rbs 4 d = true) := by simp [Wf, O.rb]
theorem Qkl (h1 : V.rbs 2 a = true) (h2 : V.rbs 2 b = true) : cuO 2 [.cells a, .cells b] = some [.cells a, .cells b] := Qe6 (σ := [.cells a, .cells b]) (by rw [Qi2]; exact ⟨h1, h2⟩)
theorem Qhv (h1 : V.rbs 2 a = true) (h2 : V.rbs 2 b = true) : cuO 2 (.cells a :: .cells b :: τ) = some [.cells a, .cells b] := Qd9 (σ := [.cells a, .cells b]) (τ := τ) (by rw [Qi2]; exact ⟨h1, h2⟩)
theorem Qw6 (h1 : V.rbs 3 a = true) (h2 : V.rbs 3 b = true) (h3 : V.rbs 3 c = true) : cuO 3 (.cells a :: .cells b :: .cells c :: τ) = some [.cells a, .cells b, .cells c] := Qd9 (σ := [.cells a, .cells b, .cells c]) (τ := τ) (by rw [Qjm]; exact ⟨h1, h2, h3⟩)
theorem Qfs (h1 : V.rbs 2 a = true) (h2 : V.rbs 2 b = true) (hr : r.rb 2 = true) : nK 2 (.cells a :: .cells b :: τ) r = some (r, [.cells a, .cells b]) := Qpp (σ := [.cells a, .cells b]) (τ := τ) (by rw [Qi2]; exact ⟨h1, h2⟩) hr
theorem get2 {O1 O2 : O} {cs : List V} {τ : Objs} : Objs.get (O1 :: O2 :: .cells cs :: τ) 2 = some cs := rfl
theorem Wac {M : Mach} {σ : Objs} {g : FuncId} {x : V} : Qhi M σ (.fn g [] []) [x] = M.call g [x.ng] σ := rfl
end
attribute [go_sem] Qi2 Qjm Wen Qkl Qhv Qw6 Qfs get2 Wac
end Go.Ev
namespace Go.Proofs.YtapnplljnpconaaGreatDoor
open Go.Ev
set_option maxRecDepth 100000
set_option maxHeartbeats 4000000
section
variable {α : Type} {v : α → V} (hv : ∀ n x, V.rb n (v x) = true)
def smC (v : α → V) (s : Sm α) : List V := [.int .i64 s.kind, .int .i64 s.ns, .str s.pre, .str s.name, .int .i64 s.op, .str s.text, .bool s.fold, .int .i64 s.mark, .int .i64 s.a, .int .i64 s.b, vSl v s.of]
include hv
theorem Qb2 {s : Sm α} {n : Nat} : V.rbs n (smC v s) = true := by
  simp only [smC, Qaf, Qdi, Qj9, Qj8, Qby, Qaj hv, Bool.and_true]
def Qey (s : Sm α) : Bool := decide (s.ns = 0) && decide (s.pre = []) && decide (s.name = []) && (decide (s.op = 0) && decide (s.text = []) && decide (s.fold = false)) && decide (s.mark = 0) && (decide (s.a = 0) && decide (s.b = 0)) && decide ((s.of.l.length : Int) = 0)
omit hv in
theorem Qft {op : Int} {t : List UInt8} {f : Bool} : eB .eql (.agg [.i, .s, .b]) (.agg [.int .i64 op, .str t, .bool f]) (.agg [.int .i64 0, .str [], .bool false]) = some (.bool (decide (op = 0) && decide (t = []) && decide (f = false))) := by
  by_cases h1 : op = 0 <;> by_cases h2 : t = [] <;> cases f <;> simp [eB, eqV, Qa6, Qdp, h1, h2]
omit hv in
theorem Qop {a b : Int} : eB .eql (.agg [.i, .i]) (.agg [.int .i64 a, .int .i64 b]) (.agg [.int .i64 0, .int .i64 0]) = some (.bool (decide (a = 0) && decide (b = 0))) := by
  by_cases h1 : a = 0 <;> by_cases h2 : b = 0 <;> simp [eB, eqV, Qa6, Qdp, h1, h2]
omit hv in
theorem Qkm {s : Sm α} : Qai (smC v s) = true := by simp only [smC, Qcf, Qdm, Qdg, Qhk, Qhj, Qc2, Bool.and_true]
omit hv in
theorem Qen {s : Sm α} : (smC v s).map V.ng = smC v s := by simp only [smC, List.map_cons, List.map_nil, Qnx, Quw, Qq6, Qak]
omit hv in
omit hv in
theorem Qeo : ∀ (z xs : List V), z.length = xs.length → Qcc z 0 xs = xs
  | [], [], _ => rfl
  | [], _ :: _, h => by simp at h
  | _ :: _, [], h => by simp at h
  | c :: cs, x :: xs, h => by
    show x :: Qcc cs 0 xs = _
    rw [Qeo cs xs (by simpa using h)]
omit hv in
theorem Qi3 {σ : Objs} {o n : Nat} {z ds : List V} (h : Objs.get σ o = some z) (hz : z.length = n) (hd : ds.length = n) (hok : Qai ds = true) (hn : ds.map V.ng = ds) : stV σ n (.ptr o 0) (.agg ds) (.agg ds) = some (.undef, σ.set o (.cells ds)) := by
  unfold stV
  simp only [h, Option.bind_eq_bind, Option.bind_some, Qbz, hd, hz, Nat.zero_add, Nat.le_refl, hok, and_self, if_true, hn]
  rw [Qeo z ds (by rw [hz, hd])]
omit hv in
theorem Qbt {σ : Objs} {o n : Nat} {ds : List V} (h : Objs.get σ o = some ds) (hd : ds.length = n) (hn : ds.map V.ng = ds) : eL σ true n (.ptr o 0) = some (.agg ds) := by
  show (Objs.get σ o).bind _ = _
  rw [h, Option.bind_some]
  unfold Ev.part
  rw [if_pos rfl, if_pos (by omega), List.drop_zero, List.take_of_length_le (by omega), hn]
omit hv in
theorem Qbc {σ : Objs} {ds : List V} (hok : Qai ds = true) (hn : ds.map V.ng = ds) : boxV σ (.agg ds) = some (.ptr σ.length 0, σ ++ [.cells ds]) := by
  rw [Wa5, Qbz, if_pos hok, hn]
theorem Qkn (s r : Sm α) (g : FuncId) (hg : E cx g [.ptr 1 0] [.cells (smC v s), .cells (smC v s)] = some (.tup [], [.cells (smC v s), .cells (smC v r)])) (σ : Objs) (hσ : Wf σ) :
    E cx 133 [.agg (smC v s), .fn g [] []] σ = some (.bool (Qey r), σ) := by
  refine Qcm Qci ?_ (by simp only [Qaf, Qa9, Qb2 hv]; rfl) rfl σ hσ
  have h2' : stV [.cells (smC v s), .cells [.int .i64 0, .int .i64 0, .str [], .str [], .int .i64 0, .str [], .bool false, .int .i64 0, .int .i64 0, .int .i64 0, .nils]] 11 (.ptr 1 0) (.agg (smC v s)) (.agg (smC v s)) = some (.undef, [.cells (smC v s), .cells (smC v s)]) := Qi3 rfl rfl rfl Qkm Qen
  have h3 : eL [.cells (smC v s)] true 11 (.ptr 0 0) = some (.agg (smC v s)) := Qbt rfl rfl Qen
  have h4 : boxV [] (.agg (smC v s)) = some (.ptr 0 0, [.cells (smC v s)]) := Qbc Qkm Qen
  rw [e_Z1e]
  unfold Qey
  unfold smC at h2' h3 h4 hg ⊢
  by_cases c1 : r.ns = 0
  case neg => simp +contextual -implicitDefEqProofs (disch := first | assumption | omega | (simp -implicitDefEqProofs only [go_sem]; try omega)) only [↓reduceIte, go_sem, iP, iN, w64, w8, w32, s_Z1e, h2', h3, h4, hg, c1, Qft, Qop]
  by_cases c2 : r.pre = []
  case neg => simp +contextual -implicitDefEqProofs (disch := first | assumption | omega | (simp -implicitDefEqProofs only [go_sem]; try omega)) only [↓reduceIte, go_sem, iP, iN, w64, w8, w32, s_Z1e, h2', h3, h4, hg, c1, c2, Qft, Qop]
  by_cases c3 : r.name = []
  case neg => simp +contextual -implicitDefEqProofs (disch := first | assumption | omega | (simp -implicitDefEqProofs only [go_sem]; try omega)) only [↓reduceIte, go_sem, iP, iN, w64, w8, w32, s_Z1e, h2', h3, h4, hg, c1, c2, c3, Qft, Qop]
  by_cases c4 : (decide (r.op = 0) && decide (r.text = []) && decide (r.fold = false)) = true
  case neg => simp +contextual -implicitDefEqProofs (disch := first | assumption | omega | (simp -implicitDefEqProofs only [go_sem]; try omega)) only [↓reduceIte, go_sem, iP, iN, w64, w8, w32, s_Z1e, h2', h3, h4, hg, c1, c2, c3, c4, Qft, Qop]
  by_cases c5 : r.mark = 0
  case neg => simp +contextual -implicitDefEqProofs (disch := first | assumption | omega | (simp -implicitDefEqProofs only [go_sem]; try omega)) only [↓reduceIte, go_sem, iP, iN, w64, w8, w32, s_Z1e, h2', h3, h4, hg, c1, c2, c3, c4, c5, Qft, Qop]
  by_cases c6 : (decide (r.a = 0) && decide (r.b = 0)) = true
  case neg => simp +contextual -implicitDefEqProofs (disch := first | assumption | omega | (simp -implicitDefEqProofs only [go_sem]; try omega)) only [↓reduceIte, go_sem, iP, iN, w64, w8, w32, s_Z1e, h2', h3, h4, hg, c1, c2, c3, c4, c5, c6, Qft, Qop]
  by_cases c7 : (r.of.l.length : Int) = 0
  case neg => simp +contextual -implicitDefEqProofs (disch := first | assumption | omega | (simp -implicitDefEqProofs only [go_sem]; try omega)) only [↓reduceIte, go_sem, iP, iN, w64, w8, w32, s_Z1e, h2', h3, h4, hg, c1, c2, c3, c4, c5, c6, c7, Qft, Qop]
  simp +contextual -implicitDefEqProofs (disch := first | assumption | omega | (simp -implicitDefEqProofs only [go_sem]; try omega)) only [↓reduceIte, go_sem, iP, iN, w64, w8, w32, s_Z1e, h2', h3, h4, hg, c1, c2, c3, c4, c5, c6, c7, Qft, Qop]
@[reducible] def Qfu (s : Sm α) : Sm α := { s with ns := 0, pre := [] }
@[reducible] def Qi4 (s : Sm α) : Sm α := { s with name := [] }
@[reducible] def Qko (s : Sm α) : Sm α := { s with of := .nil }
@[reducible] def rOne (s : Sm α) : Sm α := { s with ns := 0, pre := [], name := [] }
@[reducible] def rTwo (s : Sm α) : Sm α := { s with ns := 0, pre := [], name := [], op := 0, text := [], fold := false, mark := 0 }
@[reducible] def Qtk (s : Sm α) : Sm α := { s with of := .nil, a := 0, b := 0 }
theorem Qm2 (A : List V) (hA : V.rbs 2 A = true) (s : Sm α) : E cx 135 [.ptr 1 0] [.cells A, .cells (smC v s)] = some (.tup [], [.cells A, .cells (smC v (Qfu s))]) := by
  have t1 : stV [.cells A, .cells (smC v s)] 1 (.ptr 1 1) (.int .i64 0) (.int .i64 0) = some (.undef, [.cells A, .cells (smC v { s with ns := 0 })]) := rfl
  have t2 : stV [.cells A, .cells (smC v { s with ns := 0 })] 1 (.ptr 1 2) (.str []) (.str []) = some (.undef, [.cells A, .cells (smC v (Qfu s))]) := rfl
  have t3 := Qfs (τ := []) (r := .tup []) hA (Qb2 hv (s := Qfu s) (n := 2)) rfl
  rw [e_Z1f]
  simp +contextual -implicitDefEqProofs (disch := first | assumption | omega | (simp -implicitDefEqProofs only [go_sem]; try omega)) only [↓reduceIte, go_sem, iP, iN, w64, w8, w32, s_Z1f, t1, t2, t3]
theorem Qqb (A : List V) (hA : V.rbs 2 A = true) (s : Sm α) : E cx 136 [.ptr 1 0] [.cells A, .cells (smC v s)] = some (.tup [], [.cells A, .cells (smC v (Qi4 s))]) := by
  have t1 : stV [.cells A, .cells (smC v s)] 1 (.ptr 1 3) (.str []) (.str []) = some (.undef, [.cells A, .cells (smC v (Qi4 s))]) := rfl
  have t3 := Qfs (τ := []) (r := .tup []) hA (Qb2 hv (s := Qi4 s) (n := 2)) rfl
  rw [e_Z1c]
  simp +contextual -implicitDefEqProofs (disch := first | assumption | omega | (simp -implicitDefEqProofs only [go_sem]; try omega)) only [↓reduceIte, go_sem, iP, iN, w64, w8, w32, s_Z1c, t1, t3]
theorem Qw7 (A : List V) (hA : V.rbs 2 A = true) (s : Sm α) : E cx 144 [.ptr 1 0] [.cells A, .cells (smC v s)] = some (.tup [], [.cells A, .cells (smC v (Qko s))]) := by
  have t1 : stV [.cells A, .cells (smC v s)] 1 (.ptr 1 10) .nils .nils = some (.undef, [.cells A, .cells (smC v (Qko s))]) := rfl
  have t3 := Qfs (τ := []) (r := .tup []) hA (Qb2 hv (s := Qko s) (n := 2)) rfl
  rw [e_Z1a]
  simp +contextual -implicitDefEqProofs (disch := first | assumption | omega | (simp -implicitDefEqProofs only [go_sem]; try omega)) only [↓reduceIte, go_sem, iP, iN, w64, w8, w32, s_Z1a, t1, t3]
theorem d_s1 (A : List V) (hA : V.rbs 2 A = true) (s : Sm α) : E cx 134 [.ptr 1 0] [.cells A, .cells (smC v s)] = some (.tup [], [.cells A, .cells (smC v (rOne s))]) := by
  have t1 := Qm2 hv A hA s
  have t2 := Qqb hv A hA (Qfu s)
  have t3 := Qfs (τ := []) (r := .tup []) hA (Qb2 hv (s := rOne s) (n := 2)) rfl
  rw [e_Zq_1]
  simp +contextual -implicitDefEqProofs (disch := first | assumption | omega | (simp -implicitDefEqProofs only [go_sem]; try omega)) only [↓reduceIte, go_sem, iP, iN, w64, w8, w32, s_Zq_1, t1, t2, t3]
theorem d_s2 (A : List V) (hA : V.rbs 2 A = true) (s : Sm α) : E cx 140 [.ptr 1 0] [.cells A, .cells (smC v s)] = some (.tup [], [.cells A, .cells (smC v (rTwo s))]) := by
  have t1 := Qm2 hv A hA s
  have t2 := Qqb hv A hA (Qfu s)
  have t4 : stV [.cells A, .cells (smC v (rOne s))] 3 (.ptr 1 4) (.agg [.int .i64 0, .str [], .bool false]) (.agg [.int .i64 0, .str [], .bool false]) = some (.undef, [.cells A, .cells (smC v { rOne s with op := 0, text := [], fold := false })]) := rfl
  have t5 : stV [.cells A, .cells (smC v { rOne s with op := 0, text := [], fold := false })] 1 (.ptr 1 7) (.int .i64 0) (.int .i64 0) = some (.undef, [.cells A, .cells (smC v (rTwo s))]) := rfl
  have t3 := Qfs (τ := []) (r := .tup []) hA (Qb2 hv (s := rTwo s) (n := 2)) rfl
  rw [e_Zq_2]
  simp +contextual -implicitDefEqProofs (disch := first | assumption | omega | (simp -implicitDefEqProofs only [go_sem]; try omega)) only [↓reduceIte, go_sem, iP, iN, w64, w8, w32, s_Zq_2, t1, t2, t4, t5, t3]
theorem d_s3 (A : List V) (hA : V.rbs 2 A = true) (s : Sm α) : E cx 141 [.ptr 1 0] [.cells A, .cells (smC v s)] = some (.tup [], [.cells A, .cells (smC v s)]) := by
  have t3 := Qfs (τ := []) (r := .tup []) hA (Qb2 hv (s := s) (n := 2)) rfl
  rw [e_Zq_3]
  simp +contextual -implicitDefEqProofs (disch := first | assumption | omega | (simp -implicitDefEqProofs only [go_sem]; try omega)) only [↓reduceIte, go_sem, iP, iN, w64, w8, w32, s_Zq_3, t3]
theorem d_s4 (A : List V) (hA : V.rbs 2 A = true) (s : Sm α) : E cx 143 [.ptr 1 0] [.cells A, .cells (smC v s)] = some (.tup [], [.cells A, .cells (smC v (Qtk s))]) := by
  have t1 := Qw7 hv A hA s
  have t4 : stV [.cells A, .cells (smC v (Qko s))] 2 (.ptr 1 8) (.agg [.int .i64 0, .int .i64 0]) (.agg [.int .i64 0, .int .i64 0]) = some (.undef, [.cells A, .cells (smC v (Qtk s))]) := rfl
  have t3 := Qfs (τ := []) (r := .tup []) hA (Qb2 hv (s := Qtk s) (n := 2)) rfl
  rw [e_Zq_4]
  simp +contextual -implicitDefEqProofs (disch := first | assumption | omega | (simp -implicitDefEqProofs only [go_sem]; try omega)) only [↓reduceIte, go_sem, iP, iN, w64, w8, w32, s_Zq_4, t1, t4, t3]
end
end Go.Proofs.YtapnplljnpconaaGreatDoor
namespace Go.Proofs.YtapnplljnpconaaGreatDoor
open Go.Ev
set_option maxRecDepth 100000
set_option maxHeartbeats 4000000
theorem Qr4 {n : Nat} {xs : List (List UInt8)} (h : xs.length = n) : Qe1 n 1 false (.eptr (xs.map V.str) 0) none none = some (.sl (xs.map V.str) .no) := by
  have hc : ∀ (k off : Nat), off + k ≤ xs.length → chunks false 1 (xs.map V.str) k off = some (((xs.drop off).take k).map V.str) := by
    intro k
    induction k with
    | zero => intro off _; simp [chunks]
    | succ k ih =>
      intro off ho
      have ho' : off < xs.length := by omega
      have e : Ev.part false 1 (xs.map V.str) off = some (V.str xs[off]) := by
        unfold Ev.part
        rw [if_neg (by decide), if_pos rfl, List.getElem?_map, List.getElem?_eq_getElem ho']
        rfl
      unfold chunks
      rw [e, ih (off + 1) (by omega)]
      rw [List.drop_eq_getElem_cons ho']
      rfl
  have hk : Qai (xs.map V.str) = true := by unfold Qai; rw [List.all_map]; exact List.all_eq_true.2 fun x _ => rfl
  have hb : bounds n none none none = some (0, n, none) := by simp [bounds]
  unfold Qe1
  simp only [hb, Option.bind_eq_bind, Option.bind_some, Nat.sub_zero, Nat.zero_mul, Nat.zero_add]
  rw [hc n 0 (by omega)]
  simp only [Option.bind_some, hk, if_true, List.drop_zero]
  rw [← h, List.take_length]
theorem Wad : (Mi cx).G.g 3 = .eptr (Qb0.map V.str) 0 := rfl
theorem Qtl : (Mi cx).G.g 4 = .eptr (Qb1.map V.str) 0 := rfl
def Qgl (t : List UInt8) : Bool := hasS Qb0 t
def Wae (t : List UInt8) : Bool := hasS Qb1 t
theorem Weo (t : List UInt8) (σ : Objs) (hσ : Wf σ) : E cx 137 [.str t] σ = some (.bool (Qgl t), σ) := by
  have h1 : Qe1 10 1 false (.eptr (Qb0.map V.str) 0) none none = some (Qc6 (.row Qb0)) := Qr4 rfl
  have h2 := fun σ hσ => Qga (.row Qb0) t (by decide) σ hσ
  have h3 : (V.eptr (Qb0.map V.str) 0).ng = .eptr (Qb0.map V.str) 0 := rfl
  rw [e_Z18]
  unfold Qgl
  generalize hL : (Sl.row Qb0) = L at h1 h2
  have h2' : ∀ σ, Wf σ → E cx 46 [Qc6 L, .str t] σ = some (.bool (hasS Qb0 t), σ) := by rw [← hL] at h2 ⊢; exact h2
  simp +contextual -implicitDefEqProofs (disch := first | assumption | omega | (simp -implicitDefEqProofs only [go_sem]; try omega)) only [↓reduceIte, go_sem, iP, iN, w64, w8, w32, s_Z18, Wad, h1, h2', h3]
theorem Qw8 (t : List UInt8) (σ : Objs) (hσ : Wf σ) : E cx 138 [.str t] σ = some (.bool (Wae t), σ) := by
  have h1 : Qe1 8 1 false (.eptr (Qb1.map V.str) 0) none none = some (Qc6 (.row Qb1)) := Qr4 rfl
  have h2 := fun σ hσ => Qga (.row Qb1) t (by decide) σ hσ
  have h3 : (V.eptr (Qb1.map V.str) 0).ng = .eptr (Qb1.map V.str) 0 := rfl
  rw [e_Z15]
  unfold Wae
  generalize hL : (Sl.row Qb1) = L at h1 h2
  have h2' : ∀ σ, Wf σ → E cx 46 [Qc6 L, .str t] σ = some (.bool (hasS Qb1 t), σ) := by rw [← hL] at h2 ⊢; exact h2
  simp +contextual -implicitDefEqProofs (disch := first | assumption | omega | (simp -implicitDefEqProofs only [go_sem]; try omega)) only [↓reduceIte, go_sem, iP, iN, w64, w8, w32, s_Z15, Qtl, h1, h2', h3]
section
variable {α : Type} {v : α → V} (hv : ∀ n x, V.rb n (v x) = true) {n : Nms} (hn : NmB n)
def SmB (s : Sm α) : Prop := s.pre.length ≤ 100 ∧ s.name.length ≤ 100 ∧ s.text.length ≤ 100
theorem ok_n {n : Nms} : Qai (Qaa n) = true := by simp only [Qaa, Qcf, Qdm, Qhk, Qhj, Qc2, Bool.and_true]
theorem no_n {n : Nms} : (Qaa n).map V.ng = Qaa n := by simp only [Qaa, List.map_cons, List.map_nil, Quw, Qq6, Qak]
def Qlt (n : Nms) (s : Sm α) : Bool := if s.ns = 3 then hasS n.pres.l s.pre else decide (0 ≤ s.ns) && decide (s.ns < 3) && decide (s.pre = [])
include hn hv
theorem Wep (s : Sm α) (σ : Objs) (hσ : Wf σ) : E cx 132 [.agg (Qaa n), .agg (smC v s)] σ = some (.bool (Qlt n s), σ) := by
  refine Qcm Qci ?_ (by simp only [Qaf, Qa9, Qb2 hv, Qal]; rfl) rfl σ hσ
  have h1 : boxV [] (.agg (Qaa n)) = some (.ptr 0 0, [.cells (Qaa n)]) := Qbc ok_n no_n
  have h2 : boxV [.cells (Qaa n)] (.agg (smC v s)) = some (.ptr 1 0, [.cells (Qaa n), .cells (smC v s)]) := Qbc Qkm Qen
  have hw : Wf [.cells (Qaa n), .cells (smC v s)] := by rw [Qi2]; exact ⟨Qal, Qb2 hv⟩
  have h3 := fun σ hσ => Qga n.pres s.pre (by have := hn.2.1; omega) σ hσ
  rw [e_Zv]
  unfold Qlt
  unfold smC Qaa at h1 h2 hw ⊢
  obtain ⟨kind, ns, pre, name, op, text, fold, mark, a, b, of⟩ := s
  simp only at h1 h2 h3 hw ⊢
  by_cases c1 : ns = 3
  case pos =>
    subst c1
    simp +contextual -implicitDefEqProofs (disch := first | assumption | omega | (simp -implicitDefEqProofs only [go_sem]; try omega)) only [↓reduceIte, go_sem, iP, iN, w64, w8, w32, s_Zv, h1, h2, h3]
  by_cases c2 : 0 ≤ ns
  case neg => simp +contextual -implicitDefEqProofs (disch := first | assumption | omega | (simp -implicitDefEqProofs only [go_sem]; try omega)) only [↓reduceIte, go_sem, iP, iN, w64, w8, w32, s_Zv, h1, h2, c1, c2]
  by_cases c3 : ns < 3
  case neg => simp +contextual -implicitDefEqProofs (disch := first | assumption | omega | (simp -implicitDefEqProofs only [go_sem]; try omega)) only [↓reduceIte, go_sem, iP, iN, w64, w8, w32, s_Zv, h1, h2, c1, c2, c3]
  simp +contextual -implicitDefEqProofs (disch := first | assumption | omega | (simp -implicitDefEqProofs only [go_sem]; try omega)) only [↓reduceIte, go_sem, iP, iN, w64, w8, w32, s_Zv, h1, h2, c1, c2, c3]
omit hn in
def Qw9 (s : Sm α) : Bool :=
  if s.op < 1 ∨ 7 < s.op ∨ Qcn s.text = false ∨ s.mark < 0 ∨ 2 < s.mark then false
  else if s.op = 1 ∧ (¬ s.text = [] ∨ ¬ s.mark = 0) then false
  else decide (s.fold = decide (s.mark = 1))
omit hn in
theorem Wh0 (s : Sm α) (hs : SmB s) (σ : Objs) (hσ : Wf σ) : E cx 139 [.agg (smC v s)] σ = some (.bool (Qw9 s), σ) := by
  refine Qcm Qci ?_ (by simp only [Qaf, Qa9, Qb2 hv]; rfl) rfl σ hσ
  have h1 : boxV [] (.agg (smC v s)) = some (.ptr 0 0, [.cells (smC v s)]) := Qbc Qkm Qen
  have h2 : eL [.cells (smC v s)] true 3 (.ptr 0 4) = some (.agg [.int .i64 s.op, .str s.text, .bool s.fold]) := rfl
  have h3 : stV [.cells (smC v s), .cells [.int .i64 0, .str [], .bool false]] 3 (.ptr 1 0) (.agg [.int .i64 s.op, .str s.text, .bool s.fold]) (.agg [.int .i64 s.op, .str s.text, .bool s.fold]) = some (.undef, [.cells (smC v s), .cells [.int .i64 s.op, .str s.text, .bool s.fold]]) := rfl
  have hw : Wf [.cells (smC v s), .cells [.int .i64 s.op, .str s.text, .bool s.fold]] := by rw [Qi2]; exact ⟨Qb2 hv, rfl⟩
  have h4 := fun σ hσ => Qf9 s.text (by have := hs.2.2; omega) σ hσ
  obtain ⟨kind, ns, pre, name, op, text, fold, mark, a, b, of⟩ := s
  rw [e_Z19]
  unfold Qw9
  simp only [smC] at h1 h2 h3 h4 hw ⊢
  by_cases c1 : op < 1
  case pos => simp +contextual -implicitDefEqProofs (disch := first | assumption | omega | (simp -implicitDefEqProofs only [go_sem]; try omega)) only [↓reduceIte, go_sem, iP, iN, w64, w8, w32, s_Z19, h1, h2, h3, c1, true_or]
  by_cases c2 : 7 < op
  case pos => simp +contextual -implicitDefEqProofs (disch := first | assumption | omega | (simp -implicitDefEqProofs only [go_sem]; try omega)) only [↓reduceIte, go_sem, iP, iN, w64, w8, w32, s_Z19, h1, h2, h3, c1, c2, true_or, or_true]
  cases c3 : Qcn text with
  | false => simp +contextual -implicitDefEqProofs (disch := first | assumption | omega | (simp -implicitDefEqProofs only [go_sem]; try omega)) only [↓reduceIte, go_sem, iP, iN, w64, w8, w32, s_Z19, h1, h2, h3, h4, c1, c2, c3, true_or, or_true]
  | true =>
    by_cases c4 : mark < 0
    case pos => simp +contextual -implicitDefEqProofs (disch := first | assumption | omega | (simp -implicitDefEqProofs only [go_sem]; try omega)) only [↓reduceIte, go_sem, iP, iN, w64, w8, w32, s_Z19, h1, h2, h3, h4, c1, c2, c3, c4, true_or, or_true]
    by_cases c5 : 2 < mark
    case pos => simp +contextual -implicitDefEqProofs (disch := first | assumption | omega | (simp -implicitDefEqProofs only [go_sem]; try omega)) only [↓reduceIte, go_sem, iP, iN, w64, w8, w32, s_Z19, h1, h2, h3, h4, c1, c2, c3, c4, c5, true_or, or_true]
    by_cases c6 : op = 1
    case neg => simp +contextual -implicitDefEqProofs (disch := first | assumption | omega | (simp -implicitDefEqProofs only [go_sem]; try omega)) only [↓reduceIte, go_sem, iP, iN, w64, w8, w32, s_Z19, h1, h2, h3, h4, c1, c2, c3, c4, c5, c6]
    subst c6
    by_cases c7 : text = []
    case neg => simp +contextual -implicitDefEqProofs (disch := first | assumption | omega | (simp -implicitDefEqProofs only [go_sem]; try omega)) only [↓reduceIte, go_sem, iP, iN, w64, w8, w32, s_Z19, h1, h2, h3, h4, c1, c2, c3, c4, c5, c7]
    subst c7
    by_cases c8 : mark = 0
    case neg => simp +contextual -implicitDefEqProofs (disch := first | assumption | omega | (simp -implicitDefEqProofs only [go_sem]; try omega)) only [↓reduceIte, go_sem, iP, iN, w64, w8, w32, s_Z19, h1, h2, h3, h4, c1, c2, c3, c4, c5, c8]
    subst c8
    simp +contextual -implicitDefEqProofs (disch := first | assumption | omega | (simp -implicitDefEqProofs only [go_sem]; try omega)) only [↓reduceIte, go_sem, iP, iN, w64, w8, w32, s_Z19, h1, h2, h3, h4, c1, c2, c3, c4, c5]
omit hn hv in
def nthS (a b : Int) : Bool := decide (a ≤ 1000000) && decide (b ≤ 1000000) && (decide (-1000000 ≤ a) && decide (-1000000 ≤ b))
omit hn hv in
theorem Wkf (a b : Int) (σ : Objs) (hσ : Wf σ) : E cx 142 [.agg [.int .i64 a, .int .i64 b]] σ = some (.bool (nthS a b), σ) := by
  refine Qcm Qci ?_ rfl rfl σ hσ
  have h1 : mmV true [.int .i64 a, .int .i64 b] = some (.int .i64 (if b > a then b else a)) := rfl
  have h2 : mmV false [.int .i64 a, .int .i64 b] = some (.int .i64 (if b < a then b else a)) := rfl
  rw [e_Z1d]
  unfold nthS
  have k1 : decide ((if b > a then b else a) ≤ 1000000) = (decide (a ≤ 1000000) && decide (b ≤ 1000000)) := by
    split <;> (by_cases q1 : a ≤ 1000000 <;> by_cases q2 : b ≤ 1000000 <;> simp [q1, q2] <;> omega)
  have k2 : decide (-1000000 ≤ (if b < a then b else a)) = (decide (-1000000 ≤ a) && decide (-1000000 ≤ b)) := by
    split <;> (by_cases q1 : -1000000 ≤ a <;> by_cases q2 : -1000000 ≤ b <;> simp [q1, q2] <;> omega)
  rw [← k1, ← k2]
  generalize (if b > a then b else a) = x at h1
  generalize (if b < a then b else a) = y at h2
  by_cases c1 : x ≤ 1000000
  case neg => simp +contextual -implicitDefEqProofs (disch := first | assumption | omega | (simp -implicitDefEqProofs only [go_sem]; try omega)) only [↓reduceIte, go_sem, iP, iN, w64, w8, w32, s_Z1d, h1, h2, c1]
  simp +contextual -implicitDefEqProofs (disch := first | assumption | omega | (simp -implicitDefEqProofs only [go_sem]; try omega)) only [↓reduceIte, go_sem, iP, iN, w64, w8, w32, s_Z1d, h1, h2, c1]
end
end Go.Proofs.YtapnplljnpconaaGreatDoor
namespace Go.Proofs.YtapnplljnpconaaGreatDoor
open Go.Ev
set_option maxRecDepth 100000
set_option maxHeartbeats 4000000
section
variable {α : Type} {v : α → V} (hv : ∀ n x, V.rb n (v x) = true) {n : Nms} (hn : NmB n)
def Qdw (n : Nms) (okl : Bool) (s : Sm α) : Bool :=
  if s.kind = 1 then Qlt n s && Qik s.name && Qey (rOne s)
  else if s.kind = 2 then Qlt n s && Qey (Qfu s)
  else if s.kind = 3 ∨ s.kind = 4 then Qik s.name && Qey (Qi4 s)
  else if s.kind = 11 then Qgl s.name && Qey (Qi4 s)
  else if s.kind = 13 then Wae s.name && Qey (Qi4 s)
  else if s.kind = 5 then Qlt n s && Qik s.name && Qw9 s && Qey (rTwo s)
  else if s.kind = 6 ∨ s.kind = 12 then Qey s
  else if s.kind = 7 then nthS s.a s.b && (decide ((s.of.l.length : Int) = 0) || okl) && Qey (Qtk s)
  else if s.kind = 8 ∨ s.kind = 9 ∨ s.kind = 10 then okl && Qey (Qko s)
  else false
include hv hn
theorem Waf (s : Sm α) (hs : SmB s) (okl : Bool) (hL : ∀ σ, Wf σ → E cx 54 [.agg (Qaa n), vSl v s.of, .bool false] σ = some (.bool okl, σ)) (σ : Objs) (hσ : Wf σ) :
    E cx 98 [.agg (Qaa n), .agg (smC v s)] σ = some (.bool (Qdw n okl s), σ) := by
  refine Qcm Qci ?_ (by simp only [Qaf, Qa9, Qb2 hv, Qal]; rfl) rfl σ hσ
  have h1 : boxV [] (.agg (Qaa n)) = some (.ptr 0 0, [.cells (Qaa n)]) := Qbc ok_n no_n
  have h2 : boxV [.cells (Qaa n)] (.agg (smC v s)) = some (.ptr 1 0, [.cells (Qaa n), .cells (smC v s)]) := Qbc Qkm Qen
  have h3 : eL [.cells (Qaa n), .cells (smC v s)] true 4 (.ptr 0 0) = some (.agg (Qaa n)) := Qbt rfl rfl no_n
  have h4 : eL [.cells (Qaa n), .cells (smC v s)] true 11 (.ptr 1 0) = some (.agg (smC v s)) := Qbt rfl rfl Qen
  have h5 : eL [.cells (Qaa n), .cells (smC v s)] true 2 (.ptr 1 8) = some (.agg [.int .i64 s.a, .int .i64 s.b]) := rfl
  have hw : Wf [.cells (Qaa n), .cells (smC v s)] := by rw [Qi2]; exact ⟨Qal, Qb2 hv⟩
  have hA : V.rbs 2 (smC v s) = true := Qb2 hv
  have k1 := Wep hv hn s _ hw
  have k2 := Qon s.name (by have := hs.2.1; omega) _ hw
  have k3 := Weo s.name _ hw
  have k4 := Qw8 s.name _ hw
  have k5 := Wh0 hv s hs _ hw
  have k6 := Wkf s.a s.b _ hw
  have k7 := hL _ hw
  have o1 := Qkn hv s (rOne s) _ (d_s1 hv _ hA s) _ hw
  have o2 := Qkn hv s (Qfu s) _ (Qm2 hv _ hA s) _ hw
  have o3 := Qkn hv s (Qi4 s) _ (Qqb hv _ hA s) _ hw
  have o4 := Qkn hv s (rTwo s) _ (d_s2 hv _ hA s) _ hw
  have o5 := Qkn hv s s _ (d_s3 hv _ hA s) _ hw
  have o6 := Qkn hv s (Qtk s) _ (d_s4 hv _ hA s) _ hw
  have o7 := Qkn hv s (Qko s) _ (Qw7 hv _ hA s) _ hw
  clear hL hA
  obtain ⟨kind, ns, pre, name, op, text, fold, mark, a, b, of⟩ := s
  simp only at k1 k2 k3 k4 k5 k6 k7 h5
  rw [e_Zq]
  unfold Qdw
  generalize Qlt n _ = q1 at k1 ⊢
  generalize Qik _ = q2 at k2 ⊢
  generalize Qgl _ = q3 at k3 ⊢
  generalize Wae _ = q4 at k4 ⊢
  generalize Qw9 _ = q5 at k5 ⊢
  generalize nthS _ _ = q6 at k6 ⊢
  generalize Qey (rOne _) = p1 at o1 ⊢
  generalize Qey (Qfu _) = p2 at o2 ⊢
  generalize Qey (Qi4 _) = p3 at o3 ⊢
  generalize Qey (rTwo _) = p4 at o4 ⊢
  generalize Qey (Qtk _) = p6 at o6 ⊢
  generalize Qey (Qko _) = p7 at o7 ⊢
  generalize Qey _ = p5 at o5 ⊢
  unfold smC at h1 h2 h3 h4 h5 hw k1 k2 k3 k4 k5 k6 k7 o1 o2 o3 o4 o5 o6 o7 ⊢
  simp only at h1 h2 h3 h4 h5 hw k1 k2 k3 k4 k5 k6 k7 o1 o2 o3 o4 o5 o6 o7 ⊢
  by_cases c1 : kind = 1
  case pos => subst c1; cases q1 <;> cases q2 <;> simp +contextual -implicitDefEqProofs (disch := first | assumption | omega | (simp -implicitDefEqProofs only [go_sem]; try omega)) only [↓reduceIte, go_sem, iP, iN, w64, w8, w32, s_Zq, h1, h2, h3, h4, k1, k2, o1]
  by_cases c2 : kind = 2
  case pos => subst c2; cases q1 <;> simp +contextual -implicitDefEqProofs (disch := first | assumption | omega | (simp -implicitDefEqProofs only [go_sem]; try omega)) only [↓reduceIte, go_sem, iP, iN, w64, w8, w32, s_Zq, h1, h2, h3, h4, k1, o2]
  by_cases c3 : kind = 3
  case pos => subst c3; cases q2 <;> simp +contextual -implicitDefEqProofs (disch := first | assumption | omega | (simp -implicitDefEqProofs only [go_sem]; try omega)) only [↓reduceIte, go_sem, iP, iN, w64, w8, w32, s_Zq, j_Zq_0, h1, h2, h3, h4, k2, o3]
  by_cases c4 : kind = 4
  case pos => subst c4; cases q2 <;> simp +contextual -implicitDefEqProofs (disch := first | assumption | omega | (simp -implicitDefEqProofs only [go_sem]; try omega)) only [↓reduceIte, go_sem, iP, iN, w64, w8, w32, s_Zq, j_Zq_0, h1, h2, h3, h4, k2, o3]
  by_cases c5 : kind = 11
  case pos => subst c5; cases q3 <;> simp +contextual -implicitDefEqProofs (disch := first | assumption | omega | (simp -implicitDefEqProofs only [go_sem]; try omega)) only [↓reduceIte, go_sem, iP, iN, w64, w8, w32, s_Zq, j_Zq_0, h1, h2, h3, h4, k3, o3]
  by_cases c6 : kind = 13
  case pos => subst c6; cases q4 <;> simp +contextual -implicitDefEqProofs (disch := first | assumption | omega | (simp -implicitDefEqProofs only [go_sem]; try omega)) only [↓reduceIte, go_sem, iP, iN, w64, w8, w32, s_Zq, j_Zq_0, h1, h2, h3, h4, k4, o3]
  by_cases c7 : kind = 5
  case pos => subst c7; cases q1 <;> cases q2 <;> cases q5 <;> simp +contextual -implicitDefEqProofs (disch := first | assumption | omega | (simp -implicitDefEqProofs only [go_sem]; try omega)) only [↓reduceIte, go_sem, iP, iN, w64, w8, w32, s_Zq, j_Zq_0, h1, h2, h3, h4, k1, k2, k5, o4]
  by_cases c8 : kind = 6
  case pos => subst c8; simp +contextual -implicitDefEqProofs (disch := first | assumption | omega | (simp -implicitDefEqProofs only [go_sem]; try omega)) only [↓reduceIte, go_sem, iP, iN, w64, w8, w32, s_Zq, j_Zq_0, j_Zq_1, h1, h2, h3, h4, o5]
  by_cases c9 : kind = 12
  case pos => subst c9; simp +contextual -implicitDefEqProofs (disch := first | assumption | omega | (simp -implicitDefEqProofs only [go_sem]; try omega)) only [↓reduceIte, go_sem, iP, iN, w64, w8, w32, s_Zq, j_Zq_0, j_Zq_1, h1, h2, h3, h4, o5]
  by_cases c10 : kind = 7
  case pos =>
    subst c10
    cases q6 with
    | false => simp +contextual -implicitDefEqProofs (disch := first | assumption | omega | (simp -implicitDefEqProofs only [go_sem]; try omega)) only [↓reduceIte, go_sem, iP, iN, w64, w8, w32, s_Zq, j_Zq_0, j_Zq_1, h1, h2, h3, h4, h5, k6]
    | true =>
      by_cases c11 : (of.l.length : Int) = 0
      · simp +contextual -implicitDefEqProofs (disch := first | assumption | omega | (simp -implicitDefEqProofs only [go_sem]; try omega)) only [↓reduceIte, go_sem, iP, iN, w64, w8, w32, s_Zq, j_Zq_0, j_Zq_1, h1, h2, h3, h4, h5, k6, c11, o6]
      · cases okl <;> simp +contextual -implicitDefEqProofs (disch := first | assumption | omega | (simp -implicitDefEqProofs only [go_sem]; try omega)) only [↓reduceIte, go_sem, iP, iN, w64, w8, w32, s_Zq, j_Zq_0, j_Zq_1, h1, h2, h3, h4, h5, k6, k7, c11, o6]
  by_cases c12 : kind = 8
  case pos => subst c12; cases okl <;> simp +contextual -implicitDefEqProofs (disch := first | assumption | omega | (simp -implicitDefEqProofs only [go_sem]; try omega)) only [↓reduceIte, go_sem, iP, iN, w64, w8, w32, s_Zq, j_Zq_0, j_Zq_1, j_Zq_2, h1, h2, h3, h4, k7, o7]
  by_cases c13 : kind = 9
  case pos => subst c13; cases okl <;> simp +contextual -implicitDefEqProofs (disch := first | assumption | omega | (simp -implicitDefEqProofs only [go_sem]; try omega)) only [↓reduceIte, go_sem, iP, iN, w64, w8, w32, s_Zq, j_Zq_0, j_Zq_1, j_Zq_2, h1, h2, h3, h4, k7, o7]
  by_cases c14 : kind = 10
  case pos => subst c14; cases okl <;> simp +contextual -implicitDefEqProofs (disch := first | assumption | omega | (simp -implicitDefEqProofs only [go_sem]; try omega)) only [↓reduceIte, go_sem, iP, iN, w64, w8, w32, s_Zq, j_Zq_0, j_Zq_1, j_Zq_2, h1, h2, h3, h4, k7, o7]
  simp +contextual -implicitDefEqProofs (disch := first | assumption | omega | (simp -implicitDefEqProofs only [go_sem]; try omega)) only [↓reduceIte, go_sem, iP, iN, w64, w8, w32, s_Zq, j_Zq_0, j_Zq_1, j_Zq_2, h1, h2, h3, h4, c1, c2, c3, c4, c5, c6, c7, c8, c9, c10, c12, c13, c14]
end
end Go.Proofs.YtapnplljnpconaaGreatDoor
namespace Go.Proofs.YtapnplljnpconaaGreatDoor
open Go.Ev
set_option maxRecDepth 100000
set_option maxHeartbeats 4000000
section
variable {α : Type} {v : α → V} (hv : ∀ n x, V.rb n (v x) = true) {n : Nms} (hn : NmB n)
def cmpR (n : Nms) (okl : Sl α → Bool) (pseudo : Bool) (len : Nat) : Nat → List (Sm α) → Bool
  | i, [] => decide (0 < (len : Int))
  | i, s :: r =>
    if Qdw n (okl s.of) s = false then false
    else if 0 < (i : Int) ∧ (s.kind = 1 ∨ s.kind = 2) then false
    else if s.kind = 13 ∧ (pseudo = false ∨ (i : Int) < len - 1) then false
    else cmpR n okl pseudo len (i + 1) r
def Qxa (n : Nms) (okl : Sl α → Bool) (pseudo : Bool) (c : Cp α) : Bool := cmpR n okl pseudo c.list.l.length 0 c.list.l
def cpC (v : α → V) (c : Cp α) : List V := [.int .i64 c.comb, vSl (vSm v) c.list]
def SmG (v : α → V) (n : Nms) (okl : Sl α → Bool) (s : Sm α) : Prop := SmB s ∧ ∀ σ, Wf σ → E cx 54 [.agg (Qaa n), vSl v s.of, .bool false] σ = some (.bool (okl s.of), σ)
include hv
theorem Qi5 {c : Cp α} {k : Nat} : V.rbs k (cpC v c) = true := by simp only [cpC, Qaf, Qdi, Qaj (Qix hv), Qby, Bool.and_true]
omit hv in
theorem Weq {c : Cp α} : Qai (cpC v c) = true := by simp only [cpC, Qcf, Qdm, Qdg, Qc2, Bool.and_true]
omit hv in
theorem Qtm {c : Cp α} : (cpC v c).map V.ng = cpC v c := by simp only [cpC, List.map_cons, List.map_nil, Qnx, Qak]
omit hv in
theorem Qdb {σ : Objs} {k : Nat} {ds : List V} (hd : ds.length = k) (hn : ds.map V.ng = ds) : eL σ true k (.eptr ds 0) = some (.agg ds) := by
  show Ev.part true k ds 0 = _
  unfold Ev.part
  rw [if_pos rfl, if_pos (by omega), List.drop_zero, List.take_of_length_le (by omega), hn]
include hn
theorem Qoq (okl : Sl α → Bool) (pseudo : Bool) (c : Cp α) (hc : c.list.l.length ≤ 1000) (hl : ∀ s ∈ c.list.l, SmG v n okl s) : ∀ (r p : List (Sm α)), c.list.l = p ++ r →
    l_Zo_0 (Mi cx) 0 2 [.bool pseudo, .ptr 0 0, .ptr 1 0, vSl (vSm v) c.list, .int .i64 c.list.l.length, .int .i64 p.length] [.cells (Qaa n), .cells (cpC v c)] = some (.bool (cmpR n okl pseudo c.list.l.length p.length r), [])
  | [], p, hp => by
    have hlen : c.list.l.length = p.length := by rw [hp]; simp
    have hN : V.rbs 2 (Qaa n) = true := Qal
    have hC : V.rbs 2 (cpC v c) = true := Qi5 hv
    have hw : Wf [.cells (Qaa n), .cells (cpC v c)] := by rw [Qi2]; exact ⟨hN, hC⟩
    have hct := Qkl hN hC
    have e1 : ¬ (p.length : Int) < c.list.l.length := by omega
    have e2 : eL [.cells (Qaa n), .cells (cpC v c)] false 1 (.ptr 1 1) = some (vSl (vSm v) c.list) := by
      show Option.map V.ng (some (vSl (vSm v) c.list)) = _
      rw [Qao, Qak]
    rw [u_Zo_0]
    unfold cmpR
    simp +contextual -implicitDefEqProofs (disch := first | assumption | omega | (simp -implicitDefEqProofs only [go_sem]; try omega)) only [↓reduceIte, go_sem, iP, iN, w64, w8, w32, b_Zo_0, e1, e2, hct]
  | s :: r, p, hp => by
    have hlen : c.list.l.length = p.length + r.length + 1 := by rw [hp]; simp; omega
    obtain ⟨hs, hL⟩ := hl s (by rw [hp]; simp)
    have hN : V.rbs 2 (Qaa n) = true := Qal
    have hC : V.rbs 2 (cpC v c) = true := Qi5 hv
    have hct : ∀ τ : Objs, cuO 2 (.cells (Qaa n) :: .cells (cpC v c) :: τ) = some [.cells (Qaa n), .cells (cpC v c)] := fun τ => Qhv hN hC
    have hw : Wf [.cells (Qaa n), .cells (cpC v c), .cells (smC v s)] := by rw [Qjm]; exact ⟨Qal, Qi5 hv, Qb2 hv⟩
    have e1 : (p.length : Int) < c.list.l.length := by omega
    have i1 : eI 11 (.int .i64 p.length) (vSl (vSm v) c.list) = some (.eptr (smC v s) 0) := Qaz (f := vSm v) hp rfl rfl
    have i2 : ∀ σ, eL σ true 11 (.eptr (smC v s) 0) = some (.agg (smC v s)) := fun σ => Qdb rfl Qen
    have i3 : stV [.cells (Qaa n), .cells (cpC v c), .cells [.int .i64 0, .int .i64 0, .str [], .str [], .int .i64 0, .str [], .bool false, .int .i64 0, .int .i64 0, .int .i64 0, .nils]] 11 (.ptr 2 0) (.agg (smC v s)) (.agg (smC v s)) = some (.undef, [.cells (Qaa n), .cells (cpC v c), .cells (smC v s)]) := Qi3 rfl rfl rfl Qkm Qen
    have i4 : eL [.cells (Qaa n), .cells (cpC v c), .cells (smC v s)] true 4 (.ptr 0 0) = some (.agg (Qaa n)) := Qbt rfl rfl no_n
    have i5 : eL [.cells (Qaa n), .cells (cpC v c), .cells (smC v s)] true 11 (.ptr 2 0) = some (.agg (smC v s)) := Qbt rfl rfl Qen
    have i6 : eL [.cells (Qaa n), .cells (cpC v c), .cells (smC v s)] false 1 (.ptr 2 0) = some (.int .i64 s.kind) := rfl
    have i7 : eL [.cells (Qaa n), .cells (cpC v c), .cells (smC v s)] false 1 (.ptr 1 1) = some (vSl (vSm v) c.list) := by
      show Option.map V.ng (some (vSl (vSm v) c.list)) = _
      rw [Qao, Qak]
    have k1 := Waf hv hn s hs (okl s.of) hL _ hw
    have e3 : ∀ σ, fz 2 σ fzD (vSl (vSm v) c.list) = some (vSl (vSm v) c.list) := fun σ => Qaw (Qaj (Qix hv))
    have ih := Qoq okl pseudo c hc hl r (p ++ [s]) (by rw [hp]; simp)
    rw [show ((p ++ [s]).length : Int) = p.length + 1 by simp, show (p ++ [s]).length = p.length + 1 by simp] at ih
    rw [u_Zo_0]
    unfold cmpR
    generalize Qdw n (okl s.of) s = q at k1 ⊢
    generalize Qaa n = N at *
    generalize cpC v c = C at *
    generalize smC v s = S at *
    clear hl hL
    generalize s.kind = kind at i6 ⊢
    cases q with
    | false => simp +contextual -implicitDefEqProofs (disch := first | assumption | omega | (simp -implicitDefEqProofs only [go_sem]; try omega)) only [↓reduceIte, go_sem, iP, iN, w64, w8, w32, b_Zo_0, j_Zo_0, e1, i1, i2, i3, i4, i5, hct, k1]
    | true =>
      by_cases c1 : 0 < (p.length : Int) ∧ (kind = 1 ∨ kind = 2)
      · obtain ⟨c2, c3⟩ := c1
        rcases c3 with rfl | rfl <;> simp +contextual -implicitDefEqProofs (disch := first | assumption | omega | (simp -implicitDefEqProofs only [go_sem]; try omega)) only [↓reduceIte, go_sem, iP, iN, w64, w8, w32, b_Zo_0, j_Zo_0, e1, i1, i2, i3, i4, i5, i6, hct, k1, c2]
      · by_cases c2 : 0 < (p.length : Int)
        · have c3 : ¬ kind = 1 := fun h => c1 ⟨c2, .inl h⟩
          have c4 : ¬ kind = 2 := fun h => c1 ⟨c2, .inr h⟩
          clear c1
          by_cases c5 : kind = 13
          · subst c5
            cases pseudo with
            | false => simp +contextual -implicitDefEqProofs (disch := first | assumption | omega | (simp -implicitDefEqProofs only [go_sem]; try omega)) only [↓reduceIte, go_sem, iP, iN, w64, w8, w32, b_Zo_0, j_Zo_0, e1, i1, i2, i3, i4, i5, i6, i7, hct, k1, Qag, e3, c2]
            | true =>
              by_cases c6 : (p.length : Int) < c.list.l.length - 1
              · simp +contextual -implicitDefEqProofs (disch := first | assumption | omega | (simp -implicitDefEqProofs only [go_sem]; try omega)) only [↓reduceIte, go_sem, iP, iN, w64, w8, w32, b_Zo_0, j_Zo_0, e1, i1, i2, i3, i4, i5, i6, i7, hct, k1, Qag, e3, c2, c6]
              · simp +contextual -implicitDefEqProofs (disch := first | assumption | omega | (simp -implicitDefEqProofs only [go_sem]; try omega)) only [↓reduceIte, go_sem, iP, iN, w64, w8, w32, b_Zo_0, j_Zo_0, e1, i1, i2, i3, i4, i5, i6, i7, hct, k1, Qag, e3, c2, c6, ih]
          · simp +contextual -implicitDefEqProofs (disch := first | assumption | omega | (simp -implicitDefEqProofs only [go_sem]; try omega)) only [↓reduceIte, go_sem, iP, iN, w64, w8, w32, b_Zo_0, j_Zo_0, e1, i1, i2, i3, i4, i5, i6, i7, hct, k1, Qag, e3, c2, c3, c4, c5, ih]
        · clear c1
          by_cases c5 : kind = 13
          · subst c5
            cases pseudo with
            | false => simp +contextual -implicitDefEqProofs (disch := first | assumption | omega | (simp -implicitDefEqProofs only [go_sem]; try omega)) only [↓reduceIte, go_sem, iP, iN, w64, w8, w32, b_Zo_0, j_Zo_0, e1, i1, i2, i3, i4, i5, i6, i7, hct, k1, Qag, e3, c2]
            | true =>
              by_cases c6 : (p.length : Int) < c.list.l.length - 1
              · simp +contextual -implicitDefEqProofs (disch := first | assumption | omega | (simp -implicitDefEqProofs only [go_sem]; try omega)) only [↓reduceIte, go_sem, iP, iN, w64, w8, w32, b_Zo_0, j_Zo_0, e1, i1, i2, i3, i4, i5, i6, i7, hct, k1, Qag, e3, c2, c6]
              · simp +contextual -implicitDefEqProofs (disch := first | assumption | omega | (simp -implicitDefEqProofs only [go_sem]; try omega)) only [↓reduceIte, go_sem, iP, iN, w64, w8, w32, b_Zo_0, j_Zo_0, e1, i1, i2, i3, i4, i5, i6, i7, hct, k1, Qag, e3, c2, c6, ih]
          · simp +contextual -implicitDefEqProofs (disch := first | assumption | omega | (simp -implicitDefEqProofs only [go_sem]; try omega)) only [↓reduceIte, go_sem, iP, iN, w64, w8, w32, b_Zo_0, j_Zo_0, e1, i1, i2, i3, i4, i5, i6, i7, hct, k1, Qag, e3, c2, c5, ih]
theorem Qtn (okl : Sl α → Bool) (pseudo : Bool) (c : Cp α) (hc : c.list.l.length ≤ 1000) (hl : ∀ s ∈ c.list.l, SmG v n okl s) (σ : Objs) (hσ : Wf σ) :
    E cx 74 [.agg (Qaa n), .agg (cpC v c), .bool pseudo] σ = some (.bool (Qxa n okl pseudo c), σ) := by
  refine Qcm Qci ?_ (by simp only [Qaf, Qa9, Qi5 hv, Qal]; rfl) rfl σ hσ
  have h1 : boxV [] (.agg (Qaa n)) = some (.ptr 0 0, [.cells (Qaa n)]) := Qbc ok_n no_n
  have h2 : boxV [.cells (Qaa n)] (.agg (cpC v c)) = some (.ptr 1 0, [.cells (Qaa n), .cells (cpC v c)]) := Qbc Weq Qtm
  have e2 : eL [.cells (Qaa n), .cells (cpC v c)] false 1 (.ptr 1 1) = some (vSl (vSm v) c.list) := by
    show Option.map V.ng (some (vSl (vSm v) c.list)) = _
    rw [Qao, Qak]
  have e3 : ∀ σ, fz 2 σ fzD (vSl (vSm v) c.list) = some (vSl (vSm v) c.list) := fun σ => Qaw (Qaj (Qix hv))
  have hl' := Qoq hv hn okl pseudo c hc hl c.list.l [] rfl
  have hl'' : l_Zo_0 (Mi cx) 0 2 [.bool pseudo, .ptr 0 0, .ptr 1 0, vSl (vSm v) c.list, .int .i64 c.list.l.length, .int .i64 0] [.cells (Qaa n), .cells (cpC v c)] = some (.bool (Qxa n okl pseudo c), []) := hl'
  rw [e_Zo]
  simp +contextual -implicitDefEqProofs (disch := first | assumption | omega | (simp -implicitDefEqProofs only [go_sem]; try omega)) only [↓reduceIte, go_sem, iP, iN, w64, w8, w32, s_Zo, h1, h2, e2, e3, Qag, hl'']
omit hv hn in
def innR (n : Nms) (okl : Sl α → Bool) (outer : Bool) (len : Nat) : Nat → List (Cp α) → Bool
  | k, [] => true
  | k, x :: r =>
    if x.comb < 0 ∨ 4 < x.comb then false
    else if ¬ (decide (x.comb = 0) = decide ((k : Int) = 0)) then false
    else if Qxa n okl (outer && decide ((k : Int) = len - 1)) x = false then false
    else innR n okl outer len (k + 1) r
omit hv hn in
def lstR (n : Nms) (okl : Sl α → Bool) (outer : Bool) (tot : Nat) : List (Co α) → Bool
  | [] => decide (0 < (tot : Int))
  | c :: r => if (c.list.l.length : Int) = 0 then false else if innR n okl outer c.list.l.length 0 c.list.l = true then lstR n okl outer tot r else false
omit hv hn in
def coC (v : α → V) (c : Co α) : List V := [vSl (vCp v) c.list]
omit hn in
theorem Qep {c : Co α} {k : Nat} : V.rbs k (coC v c) = true := by simp only [coC, Qaf, Qaj (Qiy hv), Qby, Bool.and_true]
omit hv hn in
theorem Wag {c : Co α} : Qai (coC v c) = true := by simp only [coC, Qcf, Qdm, Qc2, Bool.and_true]
omit hv hn in
theorem Qor {c : Co α} : (coC v c).map V.ng = coC v c := by simp only [coC, List.map_cons, List.map_nil, Qak]
omit hv hn in
def CpG (v : α → V) (n : Nms) (okl : Sl α → Bool) (x : Cp α) : Prop := x.list.l.length ≤ 1000 ∧ ∀ s ∈ x.list.l, SmG v n okl s
omit hv hn in
def CoG (v : α → V) (n : Nms) (okl : Sl α → Bool) (c : Co α) : Prop := c.list.l.length ≤ 1000 ∧ ∀ x ∈ c.list.l, CpG v n okl x
theorem Qos (okl : Sl α → Bool) (outer : Bool) (c : Co α) (hc : CoG v n okl c) (LV : V) (hLV : ∀ k, V.rb k LV = true) (hLn : LV.ng = LV) (L i : Int) (hi : 0 ≤ i ∧ i ≤ 100000) (r1 : Rk) : ∀ (r p : List (Cp α)), c.list.l = p ++ r →
    l_Zp_1 (Mi cx) 0 1 r1 2 [LV, .bool outer, .ptr 0 0, .ptr 1 0, LV, .int .i64 L, .int .i64 i, vSl (vCp v) c.list, .int .i64 c.list.l.length, .int .i64 p.length] [.cells (Qaa n), .cells (coC v c)] =
      if innR n okl outer c.list.l.length p.length r = true then r1 [LV, .bool outer, .ptr 0 0, LV, .int .i64 L, .int .i64 (i + 1)] [.cells (Qaa n)] else some (.bool false, [])
  | [], p, hp => by
    have hlen : c.list.l.length = p.length := by rw [hp]; simp
    have e1 : ¬ (p.length : Int) < c.list.l.length := by omega
    have hN : V.rbs 2 (Qaa n) = true := Qal
    have hN1 : V.rbs 1 (Qaa n) = true := Qal
    have hC : V.rbs 2 (coC v c) = true := Qep hv
    have c2 : cuO 2 [.cells (Qaa n), .cells (coC v c)] = some [.cells (Qaa n), .cells (coC v c)] := Qkl hN hC
    have c1 : cuO 1 [.cells (Qaa n), .cells (coC v c)] = some [.cells (Qaa n)] := Qeu hN1
    have f1 : ∀ k σ, fz k σ fzD LV = some LV := fun k σ => Qaw (hLV k)
    rw [u_Zp_1]
    unfold innR
    simp +contextual -implicitDefEqProofs (disch := first | assumption | omega | (simp -implicitDefEqProofs only [go_sem]; try omega)) only [↓reduceIte, go_sem, iP, iN, w64, w8, w32, b_Zp_1, e1, c1, c2, f1]
  | x :: r, p, hp => by
    have hlen : c.list.l.length = p.length + r.length + 1 := by rw [hp]; simp; omega
    have hcl := hc.1
    obtain ⟨hx1, hx2⟩ := hc.2 x (by rw [hp]; simp)
    have e1 : (p.length : Int) < c.list.l.length := by omega
    have hN : V.rbs 2 (Qaa n) = true := Qal
    have hN1 : V.rbs 1 (Qaa n) = true := Qal
    have hC : V.rbs 2 (coC v c) = true := Qep hv
    have c2 : ∀ τ : Objs, cuO 2 (.cells (Qaa n) :: .cells (coC v c) :: τ) = some [.cells (Qaa n), .cells (coC v c)] := fun τ => Qhv hN hC
    have c1 : ∀ τ : Objs, cuO 1 (.cells (Qaa n) :: τ) = some [.cells (Qaa n)] := fun τ => Qeu hN1
    have f1 : ∀ k σ, fz k σ fzD LV = some LV := fun k σ => Qaw (hLV k)
    have f2 : ∀ k σ, fz k σ fzD (vSl (vCp v) c.list) = some (vSl (vCp v) c.list) := fun k σ => Qaw (Qaj (Qiy hv))
    have hw : Wf [.cells (Qaa n), .cells (coC v c), .cells (cpC v x)] := by rw [Qjm]; exact ⟨Qal, Qep hv, Qi5 hv⟩
    have i1 : eI 2 (.int .i64 p.length) (vSl (vCp v) c.list) = some (.eptr (cpC v x) 0) := Qaz (f := vCp v) hp rfl rfl
    have i2 : ∀ σ, eL σ true 2 (.eptr (cpC v x) 0) = some (.agg (cpC v x)) := fun σ => Qdb rfl Qtm
    have i3 : stV [.cells (Qaa n), .cells (coC v c), .cells [.int .i64 0, .nils]] 2 (.ptr 2 0) (.agg (cpC v x)) (.agg (cpC v x)) = some (.undef, [.cells (Qaa n), .cells (coC v c), .cells (cpC v x)]) := Qi3 rfl rfl rfl Weq Qtm
    have i4 : eL [.cells (Qaa n), .cells (coC v c), .cells (cpC v x)] true 4 (.ptr 0 0) = some (.agg (Qaa n)) := Qbt rfl rfl no_n
    have i5 : eL [.cells (Qaa n), .cells (coC v c), .cells (cpC v x)] true 2 (.ptr 2 0) = some (.agg (cpC v x)) := Qbt rfl rfl Qtm
    have i6 : eL [.cells (Qaa n), .cells (coC v c), .cells (cpC v x)] false 1 (.ptr 2 0) = some (.int .i64 x.comb) := rfl
    have i7 : eL [.cells (Qaa n), .cells (coC v c), .cells (cpC v x)] false 1 (.ptr 1 0) = some (vSl (vCp v) c.list) := by
      show Option.map V.ng (some (vSl (vCp v) c.list)) = _
      rw [Qao, Qak]
    have k1 := fun pseudo => Qtn hv hn okl pseudo x hx1 hx2 _ hw
    have ih := Qos okl outer c hc LV hLV hLn L i hi r1 r (p ++ [x]) (by rw [hp]; simp)
    rw [show ((p ++ [x]).length : Int) = p.length + 1 by simp, show (p ++ [x]).length = p.length + 1 by simp] at ih
    rw [u_Zp_1]
    unfold innR
    have q1 := k1 (outer && decide ((p.length : Int) = c.list.l.length - 1))
    generalize Qxa n okl (outer && decide ((p.length : Int) = c.list.l.length - 1)) x = q at q1 ⊢
    clear k1 hc hx2
    generalize Qaa n = N at *
    generalize coC v c = C at *
    generalize cpC v x = X at *
    generalize x.comb = comb at i6 ⊢
    have hK1 : 0 ≤ (p.length : Int) := Int.natCast_nonneg _
    generalize (p.length : Int) = KI at e1 i1 ih q1 hK1 ⊢
    by_cases d1 : comb < 0
    case pos => simp +contextual -implicitDefEqProofs (disch := first | assumption | omega | (simp -implicitDefEqProofs only [go_sem]; try omega)) only [↓reduceIte, go_sem, iP, iN, w64, w8, w32, b_Zp_1, j_Zp_0, e1, i1, i2, i3, i4, i5, i6, c1, c2, f1, f2, d1, true_or]
    by_cases d2 : 4 < comb
    case pos => simp +contextual -implicitDefEqProofs (disch := first | assumption | omega | (simp -implicitDefEqProofs only [go_sem]; try omega)) only [↓reduceIte, go_sem, iP, iN, w64, w8, w32, b_Zp_1, j_Zp_0, e1, i1, i2, i3, i4, i5, i6, c1, c2, f1, f2, d1, d2, or_true]
    by_cases d3 : comb = 0
    · subst d3
      by_cases d4 : KI = 0
      case neg => simp +contextual -implicitDefEqProofs (disch := first | assumption | omega | (simp -implicitDefEqProofs only [go_sem]; try omega)) only [↓reduceIte, go_sem, iP, iN, w64, w8, w32, b_Zp_1, j_Zp_0, e1, i1, i2, i3, i4, i5, i6, i7, c1, c2, f1, f2, Qag, d1, d2, d4]
      subst d4
      rw [Int.zero_add] at ih
      cases outer with
      | false =>
        rw [Bool.false_and] at q1
        cases q with
        | false => simp +contextual -implicitDefEqProofs (disch := first | assumption | omega | (simp -implicitDefEqProofs only [go_sem]; try omega)) only [↓reduceIte, go_sem, iP, iN, w64, w8, w32, b_Zp_1, j_Zp_0, e1, i1, i2, i3, i4, i5, i6, i7, c1, c2, f1, f2, Qag, d1, d2, q1]
        | true => simp +contextual -implicitDefEqProofs (disch := first | assumption | omega | (simp -implicitDefEqProofs only [go_sem]; try omega)) only [↓reduceIte, go_sem, iP, iN, w64, w8, w32, b_Zp_1, j_Zp_0, e1, i1, i2, i3, i4, i5, i6, i7, c1, c2, f1, f2, Qag, d1, d2, q1, ih]
      | true =>
        rw [Bool.true_and] at q1
        cases d5 : decide ((0 : Int) = (c.list.l.length : Int) - 1) with
        | true =>
          rw [d5] at q1
          cases q with
          | false => simp +contextual -implicitDefEqProofs (disch := first | assumption | omega | (simp -implicitDefEqProofs only [go_sem]; try omega)) only [↓reduceIte, go_sem, iP, iN, w64, w8, w32, b_Zp_1, j_Zp_0, e1, i1, i2, i3, i4, i5, i6, i7, c1, c2, f1, f2, Qag, d1, d2, q1, d5]
          | true => simp +contextual -implicitDefEqProofs (disch := first | assumption | omega | (simp -implicitDefEqProofs only [go_sem]; try omega)) only [↓reduceIte, go_sem, iP, iN, w64, w8, w32, b_Zp_1, j_Zp_0, e1, i1, i2, i3, i4, i5, i6, i7, c1, c2, f1, f2, Qag, d1, d2, q1, ih, d5]
        | false =>
          rw [d5] at q1
          cases q with
          | false => simp +contextual -implicitDefEqProofs (disch := first | assumption | omega | (simp -implicitDefEqProofs only [go_sem]; try omega)) only [↓reduceIte, go_sem, iP, iN, w64, w8, w32, b_Zp_1, j_Zp_0, e1, i1, i2, i3, i4, i5, i6, i7, c1, c2, f1, f2, Qag, d1, d2, q1, d5]
          | true => simp +contextual -implicitDefEqProofs (disch := first | assumption | omega | (simp -implicitDefEqProofs only [go_sem]; try omega)) only [↓reduceIte, go_sem, iP, iN, w64, w8, w32, b_Zp_1, j_Zp_0, e1, i1, i2, i3, i4, i5, i6, i7, c1, c2, f1, f2, Qag, d1, d2, q1, ih, d5]
    · by_cases d4 : KI = 0
      case pos =>
        subst d4
        simp +contextual -implicitDefEqProofs (disch := first | assumption | omega | (simp -implicitDefEqProofs only [go_sem]; try omega)) only [↓reduceIte, go_sem, iP, iN, w64, w8, w32, b_Zp_1, j_Zp_0, e1, i1, i2, i3, i4, i5, i6, i7, c1, c2, f1, f2, Qag, d1, d2, d3]
      cases outer with
      | false =>
        rw [Bool.false_and] at q1
        cases q with
        | false => simp +contextual -implicitDefEqProofs (disch := first | assumption | omega | (simp -implicitDefEqProofs only [go_sem]; try omega)) only [↓reduceIte, go_sem, iP, iN, w64, w8, w32, b_Zp_1, j_Zp_0, e1, i1, i2, i3, i4, i5, i6, i7, c1, c2, f1, f2, Qag, d1, d2, q1, d3, d4]
        | true => simp +contextual -implicitDefEqProofs (disch := first | assumption | omega | (simp -implicitDefEqProofs only [go_sem]; try omega)) only [↓reduceIte, go_sem, iP, iN, w64, w8, w32, b_Zp_1, j_Zp_0, e1, i1, i2, i3, i4, i5, i6, i7, c1, c2, f1, f2, Qag, d1, d2, q1, ih, d3, d4]
      | true =>
        rw [Bool.true_and] at q1
        cases d5 : decide (KI = (c.list.l.length : Int) - 1) with
        | true =>
          rw [d5] at q1
          cases q with
          | false => simp +contextual -implicitDefEqProofs (disch := first | assumption | omega | (simp -implicitDefEqProofs only [go_sem]; try omega)) only [↓reduceIte, go_sem, iP, iN, w64, w8, w32, b_Zp_1, j_Zp_0, e1, i1, i2, i3, i4, i5, i6, i7, c1, c2, f1, f2, Qag, d1, d2, q1, d5, d3, d4]
          | true => simp +contextual -implicitDefEqProofs (disch := first | assumption | omega | (simp -implicitDefEqProofs only [go_sem]; try omega)) only [↓reduceIte, go_sem, iP, iN, w64, w8, w32, b_Zp_1, j_Zp_0, e1, i1, i2, i3, i4, i5, i6, i7, c1, c2, f1, f2, Qag, d1, d2, q1, ih, d5, d3, d4]
        | false =>
          rw [d5] at q1
          cases q with
          | false => simp +contextual -implicitDefEqProofs (disch := first | assumption | omega | (simp -implicitDefEqProofs only [go_sem]; try omega)) only [↓reduceIte, go_sem, iP, iN, w64, w8, w32, b_Zp_1, j_Zp_0, e1, i1, i2, i3, i4, i5, i6, i7, c1, c2, f1, f2, Qag, d1, d2, q1, d5, d3, d4]
          | true => simp +contextual -implicitDefEqProofs (disch := first | assumption | omega | (simp -implicitDefEqProofs only [go_sem]; try omega)) only [↓reduceIte, go_sem, iP, iN, w64, w8, w32, b_Zp_1, j_Zp_0, e1, i1, i2, i3, i4, i5, i6, i7, c1, c2, f1, f2, Qag, d1, d2, q1, ih, d5, d3, d4]
theorem Qot (okl : Sl α → Bool) (outer : Bool) (s : Sl (Co α)) (hl : s.l.length ≤ 1000) (hs : ∀ c ∈ s.l, CoG v n okl c) : ∀ (r p : List (Co α)), s.l = p ++ r →
    l_Zp_0 (Mi cx) 0 1 [vSl (vCo v) s, .bool outer, .ptr 0 0, vSl (vCo v) s, .int .i64 s.l.length, .int .i64 p.length] [.cells (Qaa n)] = some (.bool (lstR n okl outer s.l.length r), [])
  | [], p, hp => by
    have hlen : s.l.length = p.length := by rw [hp]; simp
    have e1 : ¬ (p.length : Int) < s.l.length := by omega
    have hN1 : V.rbs 1 (Qaa n) = true := Qal
    have c1 : cuO 1 [.cells (Qaa n)] = some [.cells (Qaa n)] := Qeu (τ := []) hN1
    have f1 : ∀ k σ, fz k σ fzD (vSl (vCo v) s) = some (vSl (vCo v) s) := fun k σ => Qaw (Qaj (Qej hv))
    rw [u_Zp_0]
    unfold lstR
    simp +contextual -implicitDefEqProofs (disch := first | assumption | omega | (simp -implicitDefEqProofs only [go_sem]; try omega)) only [↓reduceIte, go_sem, iP, iN, w64, w8, w32, b_Zp_0, e1, c1, f1, Qag]
  | c :: r, p, hp => by
    have hlen : s.l.length = p.length + r.length + 1 := by rw [hp]; simp; omega
    have hc := hs c (by rw [hp]; simp)
    have e1 : (p.length : Int) < s.l.length := by omega
    have hN1 : V.rbs 1 (Qaa n) = true := Qal
    have hN : V.rbs 2 (Qaa n) = true := Qal
    have hC : V.rbs 2 (coC v c) = true := Qep hv
    have c1 : ∀ τ : Objs, cuO 1 (.cells (Qaa n) :: τ) = some [.cells (Qaa n)] := fun τ => Qeu hN1
    have f1 : ∀ k σ, fz k σ fzD (vSl (vCo v) s) = some (vSl (vCo v) s) := fun k σ => Qaw (Qaj (Qej hv))
    have f2 : ∀ k σ, fz k σ fzD (vSl (vCp v) c.list) = some (vSl (vCp v) c.list) := fun k σ => Qaw (Qaj (Qiy hv))
    have i1 : eI 1 (.int .i64 p.length) (vSl (vCo v) s) = some (.eptr (coC v c) 0) := Qaz (f := vCo v) hp rfl rfl
    have i2 : ∀ σ, eL σ true 1 (.eptr (coC v c) 0) = some (.agg (coC v c)) := fun σ => Qdb rfl Qor
    have i3 : stV [.cells (Qaa n), .cells [.nils]] 1 (.ptr 1 0) (.agg (coC v c)) (.agg (coC v c)) = some (.undef, [.cells (Qaa n), .cells (coC v c)]) := Qi3 rfl rfl rfl Wag Qor
    have i7 : eL [.cells (Qaa n), .cells (coC v c)] false 1 (.ptr 1 0) = some (vSl (vCp v) c.list) := by
      show Option.map V.ng (some (vSl (vCp v) c.list)) = _
      rw [Qao, Qak]
    have hin := Qos hv hn okl outer c hc (vSl (vCo v) s) (fun k => Qaj (Qej hv)) Qak s.l.length p.length (by omega) (l_Zp_0 (Mi cx) 0 1) c.list.l [] rfl
    have ih := Qot okl outer s hl hs r (p ++ [c]) (by rw [hp]; simp)
    rw [show ((p ++ [c]).length : Int) = p.length + 1 by simp] at ih
    rw [ih] at hin
    clear hs
    have hin' : l_Zp_1 (Mi cx) 0 1 (l_Zp_0 (Mi cx) 0 1) 2 [vSl (vCo v) s, .bool outer, .ptr 0 0, .ptr 1 0, vSl (vCo v) s, .int .i64 s.l.length, .int .i64 p.length, vSl (vCp v) c.list, .int .i64 c.list.l.length, .int .i64 0] [.cells (Qaa n), .cells (coC v c)] =
      if innR n okl outer c.list.l.length 0 c.list.l = true then some (.bool (lstR n okl outer s.l.length r), []) else some (.bool false, []) := hin
    rw [u_Zp_0]
    unfold lstR
    by_cases d1 : (c.list.l.length : Int) = 0
    case pos => simp +contextual -implicitDefEqProofs (disch := first | assumption | omega | (simp -implicitDefEqProofs only [go_sem]; try omega)) only [↓reduceIte, go_sem, iP, iN, w64, w8, w32, b_Zp_0, j_Zp_0, e1, i1, i2, i3, i7, c1, f1, f2, Qag, d1]
    cases d2 : innR n okl outer c.list.l.length 0 c.list.l with
    | true =>
      rw [d2, if_pos rfl] at hin'
      simp +contextual -implicitDefEqProofs (disch := first | assumption | omega | (simp -implicitDefEqProofs only [go_sem]; try omega)) only [↓reduceIte, go_sem, iP, iN, w64, w8, w32, b_Zp_0, j_Zp_0, e1, i1, i2, i3, i7, c1, f1, f2, Qag, d1, hin']
    | false =>
      rw [d2, if_neg (by decide)] at hin'
      simp +contextual -implicitDefEqProofs (disch := first | assumption | omega | (simp -implicitDefEqProofs only [go_sem]; try omega)) only [↓reduceIte, go_sem, iP, iN, w64, w8, w32, b_Zp_0, j_Zp_0, e1, i1, i2, i3, i7, c1, f1, f2, Qag, d1, hin']
def lstS (n : Nms) (okl : Sl α → Bool) (outer : Bool) (s : Sl (Co α)) : Bool := lstR n okl outer s.l.length s.l
theorem Qxb (okl : Sl α → Bool) (outer : Bool) (s : Sl (Co α)) (hl : s.l.length ≤ 1000) (hs : ∀ c ∈ s.l, CoG v n okl c) (σ : Objs) (hσ : Wf σ) :
    E cx 54 [.agg (Qaa n), vSl (vCo v) s, .bool outer] σ = some (.bool (lstS n okl outer s), σ) := by
  refine Qcm Qci ?_ (by simp only [Qaf, Qa9, Qal, Qaj (Qej hv)]; rfl) rfl σ hσ
  have h1 : boxV [] (.agg (Qaa n)) = some (.ptr 0 0, [.cells (Qaa n)]) := Qbc ok_n no_n
  have f1 : ∀ k σ, fz k σ fzD (vSl (vCo v) s) = some (vSl (vCo v) s) := fun k σ => Qaw (Qaj (Qej hv))
  have hl' := Qot hv hn okl outer s hl hs s.l [] rfl
  have hl'' : l_Zp_0 (Mi cx) 0 1 [vSl (vCo v) s, .bool outer, .ptr 0 0, vSl (vCo v) s, .int .i64 s.l.length, .int .i64 0] [.cells (Qaa n)] = some (.bool (lstS n okl outer s), []) := hl'
  rw [e_Zp]
  simp +contextual -implicitDefEqProofs (disch := first | assumption | omega | (simp -implicitDefEqProofs only [go_sem]; try omega)) only [↓reduceIte, go_sem, iP, iN, w64, w8, w32, s_Zp, h1, f1, Qag, Qak, hl'']
end
def okC (n : Nms) : (k : Nat) → Bool → Sl (Cx k) → Bool
  | 0, _, _ => false
  | k + 1, outer, s => lstS n (okC n k false) outer s
theorem Wbn {n : Nms} (hn : NmB n) : ∀ (k d : Nat) (s : Sl (Cx k)), Bd d k s → ∀ (outer : Bool) (σ : Objs), Wf σ →
    E cx 54 [.agg (Qaa n), vSl (vCx k) s, .bool outer] σ = some (.bool (okC n k outer s), σ)
  | 0, d, s, hb, outer, σ, hσ => by
    have e := sl0 (α := Cx 0) (fun x => Empty.elim x) s
    have ht : ∃ t : Sl (Co Empty), vSl (vCx 0) s = vSl (vCo (fun x : Empty => x.elim)) t ∧ t.l = [] := by
      cases s with
      | nil => exact ⟨.nil, rfl, rfl⟩
      | row xs => have : xs = [] := e; subst this; exact ⟨.row [], rfl, rfl⟩
    obtain ⟨t, h1, h2⟩ := ht
    rw [h1, Qxb (α := Empty) (v := fun x => x.elim) (fun n x => x.elim) hn (fun _ => false) outer t (by rw [h2]; simp) (by rw [h2]; simp) σ hσ]
    unfold lstS okC
    rw [h2]
    rfl
  | k + 1, d, s, hb, outer, σ, hσ => by
    refine Qxb (α := Cx k) (v := vCx k) (Qkd k · ·) hn (okC n k false) outer s hb.1 (fun c hc => ⟨(hb.2 c hc).1, fun x hx => ⟨((hb.2 c hc).2 x hx).1, fun y hy => ?_⟩⟩) σ hσ
    have h := ((hb.2 c hc).2 x hx).2 y hy
    exact ⟨⟨h.1, h.2.1, h.2.2.1⟩, fun σ hσ => Wbn hn k (d - 1) y.of h.2.2.2.2 false σ hσ⟩
end Go.Proofs.YtapnplljnpconaaGreatDoor
namespace Go.Proofs.YtapnplljnpconaaGreatDoor
open Go.Ev
set_option maxRecDepth 100000
set_option maxHeartbeats 4000000
def dpS {k : Nat} (s : Sl (Cx k)) : Int := dpI (vSl (vCx k) s)
theorem Wh1 {k d : Nat} (s : Sl (Cx k)) (hd : d ≤ 1000) (hb : Bd d k s) (σ : Objs) : E cx 53 [vSl (vCx k) s] σ = some (.int .i64 (dpS s), σ) := by
  have hp : cx.prim 53 = some Qp5 := rfl
  have h1 := Qwu k d s hb
  have h2 := Wbg k d s hb
  rw [Wa1 hp]
  show (Qp4 [vSl (vCx k) s]).map _ = _
  have h3 : Qp4 [vSl (vCx k) s] = some (.int .i64 (dpS s)) := by
    show (if (V.shp 0 (vSl (vCx k) s) && decide (V.hh (vSl (vCx k) s) ≤ 1000000)) = true then _ else _) = _
    rw [h1, decide_eq_true (show V.hh (vSl (vCx k) s) ≤ 1000000 by omega)]
    rfl
  rw [h3]
  rfl
def chkS (n : Nms) {k : Nat} (s : Sl (Cx k)) : Int := if okN n = false then 11 else if 32 < dpS s then 12 else if okC n k true s = false then 10 else 0
def errZ (k : Int) : V := if k = 0 then .nili else errN k
theorem Qea {k n : Nat} {s : Sl (Cx k)} : V.rb n (vSl (vCx k) s) = true := Qaj (Qkd k)
theorem Qto {n : Nms} (hn : NmB n) {k d : Nat} (s : Sl (Cx k)) (hd : d ≤ 1000) (hb : Bd d k s) (σ : Objs) (hσ : Wf σ) :
    E cx 30 [vSl (vCx k) s, .agg (Qaa n)] σ = some (errZ (chkS n s), σ) := by
  refine Qcm Qci ?_ (by simp only [Qaf, Qa9, Qal, Qea]; rfl) (by unfold errZ; split <;> rfl) σ hσ
  have h1 : boxV [] (.agg (Qaa n)) = some (.ptr 0 0, [.cells (Qaa n)]) := Qbc ok_n no_n
  have hw : Wf [.cells (Qaa n)] := by rw [Qgk]; exact Qal
  have h2 : eL [.cells (Qaa n)] true 4 (.ptr 0 0) = some (.agg (Qaa n)) := Qbt rfl rfl no_n
  have h3 := Qi1 hn _ hw
  have h3' : E cx 29 [.agg (Qaa n)] [.cells (Qaa n)] = some (if okN n = true then .nili else errN 11, [.cells (Qaa n)]) := h3
  have h4 := Wh1 s hd hb [.cells (Qaa n)]
  have h5 := Wbn hn k d s hb true _ hw
  have h6 := Qw3 12 0 _ hw
  have h7 := Qw3 10 0 _ hw
  have h8 : Qa2 [.bool false, .str [], .nils, .nils] [(0, 4, .agg (Qaa n))] = some (.agg (Qaa n)) := by
    rw [Qmf, Qmg (by rfl) (by decide) (by rw [Qbz]; exact ok_n), Qps, Qbz, no_n]
    rfl
  clear h3
  rw [e_Z13]
  unfold chkS errZ
  generalize Qaa n = N at *
  cases c1 : okN n with
  | false =>
    rw [c1, if_neg (by decide)] at h3'
    simp +contextual -implicitDefEqProofs (disch := first | assumption | omega | (simp -implicitDefEqProofs only [go_sem]; try omega)) only [↓reduceIte, go_sem, iP, iN, w64, w8, w32, s_Z13, h1, h2, h3', errN]
  | true =>
    rw [c1, if_pos rfl] at h3'
    by_cases c2 : 32 < dpS s
    · simp +contextual -implicitDefEqProofs (disch := first | assumption | omega | (simp -implicitDefEqProofs only [go_sem]; try omega)) only [↓reduceIte, go_sem, iP, iN, w64, w8, w32, s_Z13, h1, h2, h3', h4, h6, c2, errN, Qak]
    · cases c3 : okC n k true s with
      | false =>
        rw [c3] at h5
        simp +contextual -implicitDefEqProofs (disch := first | assumption | omega | (simp -implicitDefEqProofs only [go_sem]; try omega)) only [↓reduceIte, go_sem, iP, iN, w64, w8, w32, s_Z13, h1, h2, h3', h4, h5, h7, h8, c2, errN, Qak]
      | true =>
        rw [c3] at h5
        simp +contextual -implicitDefEqProofs (disch := first | assumption | omega | (simp -implicitDefEqProofs only [go_sem]; try omega)) only [↓reduceIte, go_sem, iP, iN, w64, w8, w32, s_Z13, h1, h2, h3', h4, h5, h8, c2, errN, Qak]
end Go.Proofs.YtapnplljnpconaaGreatDoor
namespace Go.Proofs.YtapnplljnpconaaGreatDoor
open Go.Ev
set_option maxRecDepth 100000
set_option maxHeartbeats 4000000
section
variable {α : Type} {v : α → V} (hv : ∀ n x, V.rb n (v x) = true) (t0 : Sl α → Nat) (b0 : Sl α → Prop) (dp : Int)
def tX (t0 : Sl α → Nat) : List (Sm α) → Nat
  | [] => 0
  | y :: r => 1 + t0 y.of + tX t0 r
def tC (t0 : Sl α → Nat) : List (Cp α) → Nat
  | [] => 0
  | x :: r => tX t0 x.list.l + tC t0 r
def tS (t0 : Sl α → Nat) : List (Co α) → Nat
  | [] => 0
  | c :: r => c.list.l.length + tC t0 c.list.l + tS t0 r
def gY (b0 : Sl α → Prop) (dp : Int) (y : Sm α) : Prop := y.pre.length ≤ 100 ∧ y.name.length ≤ 100 ∧ y.text.length ≤ 100 ∧ dp ≤ 40 ∧ b0 y.of
def gX (b0 : Sl α → Prop) (dp : Int) (x : Cp α) : Prop := ∀ y ∈ x.list.l, gY b0 dp y
def gC (b0 : Sl α → Prop) (dp : Int) (c : Co α) : Prop := ∀ x ∈ c.list.l, gX b0 dp x
def RY (y : Sm α) : Prop := y.pre.length ≤ 140737488351232 ∧ y.name.length ≤ 140737488351232 ∧ y.text.length ≤ 140737488351232
def RX (x : Cp α) : Prop := x.list.l.length ≤ 140737488351232 ∧ ∀ y ∈ x.list.l, RY y
def RC (c : Co α) : Prop := c.list.l.length ≤ 140737488351232 ∧ ∀ x ∈ c.list.l, RX x
def bnd (dp : Int) : Int := 140737488351232 + 102 * (43 - dp)
def Wer (t0 : Sl α → Nat) (b0 : Sl α → Prop) (v : α → V) (dp : Int) (o : Sl α) : Prop := ∃ r : Int, E cx 49 [vSl v o, .int .i64 100, .int .i64 (dp + 1)] [] = some (.int .i64 r, []) ∧ 0 ≤ r ∧ r ≤ bnd (dp + 1) ∧ (r ≤ 100 → b0 o ∧ r = t0 o)
include hv
theorem Wbo (hdp : 0 ≤ dp ∧ dp ≤ 41) (s : Sl (Co α)) (x : Cp α) (hx : RX x) (i k : Int) (r1 r2 : Rk) (Post : Int → Prop) (hP : Post 101) (hE : dp ≤ 40 → ∀ y ∈ x.list.l, Wer t0 b0 v dp y.of) : ∀ (r p : List (Sm α)) (n : Int), x.list.l = p ++ r → 0 ≤ n → n ≤ bnd dp →
    (∀ n', 0 ≤ n' → n' ≤ bnd dp → (n' ≤ 100 → (∀ y ∈ r, gY b0 dp y) ∧ n' = n + tX t0 r) → ∃ q, r2 [vSl (vCo v) s, .int .i64 100, .int .i64 dp, .int .i64 n', .int .i64 i, .int .i64 (k + 1)] [] = some (.int .i64 q, []) ∧ Post q) → 0 ≤ k ∧ k ≤ 140737488351232 →
    ∃ q, l_Z2s_2 (Mi cx) 0 0 r1 0 r2 0 [vSl (vCo v) s, .int .i64 100, .int .i64 dp, .int .i64 n, .int .i64 i, .int .i64 k, vSl (vSm v) x.list, .int .i64 p.length] [] = some (.int .i64 q, []) ∧ Post q
  | [], p, n, hp, hn, hn2, hc, hk => by
    have hlen : x.list.l.length = p.length := by rw [hp]; simp
    have e1 : ¬ (p.length : Int) < x.list.l.length := by omega
    have f1 : ∀ σ, fz 0 σ fzD (vSl (vCo v) s) = some (vSl (vCo v) s) := fun σ => Qaw (Qaj (Qej hv))
    obtain ⟨q, h1, h2⟩ := hc n hn hn2 (fun _ => ⟨fun y hy => (by cases hy), by show n = n + ((0 : Nat) : Int); omega⟩)
    refine ⟨q, ?_, h2⟩
    rw [u_Z2s_2]
    simp +contextual -implicitDefEqProofs (disch := first | assumption | omega | (simp -implicitDefEqProofs only [go_sem]; try omega)) only [↓reduceIte, go_sem, iP, iN, w64, w8, w32, b_Z2s_2, e1, f1, Qag, Qak, h1]
  | y :: r, p, n, hp, hn, hn2, hc, hk => by
    have hlen : x.list.l.length = p.length + r.length + 1 := by rw [hp]; simp; omega
    have e1 : (p.length : Int) < x.list.l.length := by omega
    have hxl := hx.1
    have hy := hx.2 y (by rw [hp]; simp)
    have f1 : ∀ σ, fz 0 σ fzD (vSl (vCo v) s) = some (vSl (vCo v) s) := fun σ => Qaw (Qaj (Qej hv))
    have f2 : ∀ σ, fz 0 σ fzD (vSl (vSm v) x.list) = some (vSl (vSm v) x.list) := fun σ => Qaw (Qaj (Qix hv))
    have hb : bnd dp = 140737488351232 + 102 * (43 - dp) := rfl
    by_cases c1 : n ≤ 100
    · have i1 : eI 11 (.int .i64 p.length) (vSl (vSm v) x.list) = some (.eptr (smC v y) 0) := Qaz (f := vSm v) hp rfl rfl
      have l3 : eL [] false 1 (.eptr (smC v y) 3) = some (.str y.name) := rfl
      have l2 : eL [] false 1 (.eptr (smC v y) 2) = some (.str y.pre) := rfl
      have l5 : eL [] false 1 (.eptr (smC v y) 5) = some (.str y.text) := rfl
      have l10 : eL [] false 1 (.eptr (smC v y) 10) = some (vSl v y.of) := by
        show Option.map V.ng (some (vSl v y.of)) = _
        rw [Qao, Qak]
      generalize smC v y = C at i1 l3 l2 l5 l10
      by_cases g1 : 100 < (y.name.length : Int)
      · refine ⟨101, ?_, hP⟩
        rw [u_Z2s_2]
        clear hE hc
        simp +contextual -implicitDefEqProofs (disch := first | assumption | omega | (simp -implicitDefEqProofs only [go_sem]; try omega)) only [↓reduceIte, go_sem, iP, iN, w64, w8, w32, b_Z2s_2, e1, f1, f2, Qag, Qak, c1, i1, l3, l2, l5, l10, g1]
      by_cases g2 : 100 < (y.pre.length : Int)
      · refine ⟨101, ?_, hP⟩
        rw [u_Z2s_2]
        clear hE hc
        simp +contextual -implicitDefEqProofs (disch := first | assumption | omega | (simp -implicitDefEqProofs only [go_sem]; try omega)) only [↓reduceIte, go_sem, iP, iN, w64, w8, w32, b_Z2s_2, e1, f1, f2, Qag, Qak, c1, i1, l3, l2, l5, l10, g1, g2]
      by_cases g3 : 100 < (y.text.length : Int)
      · refine ⟨101, ?_, hP⟩
        rw [u_Z2s_2]
        clear hE hc
        simp +contextual -implicitDefEqProofs (disch := first | assumption | omega | (simp -implicitDefEqProofs only [go_sem]; try omega)) only [↓reduceIte, go_sem, iP, iN, w64, w8, w32, b_Z2s_2, e1, f1, f2, Qag, Qak, c1, i1, l3, l2, l5, l10, g1, g2, g3]
      by_cases g4 : 40 < dp
      · refine ⟨101, ?_, hP⟩
        rw [u_Z2s_2]
        clear hE hc
        simp +contextual -implicitDefEqProofs (disch := first | assumption | omega | (simp -implicitDefEqProofs only [go_sem]; try omega)) only [↓reduceIte, go_sem, iP, iN, w64, w8, w32, b_Z2s_2, e1, f1, f2, Qag, Qak, c1, i1, l3, l2, l5, l10, g1, g2, g3, g4]
      obtain ⟨m, hm1, hm2, hm3, hm4⟩ := hE (by omega) y (by rw [hp]; simp)
      have hb2 : bnd (dp + 1) = 140737488351232 + 102 * (43 - (dp + 1)) := rfl
      obtain ⟨q, k1, k2⟩ := Wbo hdp s x hx i k r1 r2 Post hP hE r (p ++ [y]) (n + 1 + m) (by rw [hp]; simp) (by omega) (by omega) (fun n' w1 w2 w3 => hc n' w1 w2 fun w4 => by
        obtain ⟨z1, z2⟩ := w3 w4
        obtain ⟨z3, z4⟩ := hm4 (by omega)
        refine ⟨fun y' hy' => ?_, ?_⟩
        · rcases List.mem_cons.1 hy' with rfl | hy'
          · exact ⟨by omega, by omega, by omega, by omega, z3⟩
          · exact z1 y' hy'
        · show n' = n + ((1 + t0 y.of + tX t0 r : Nat) : Int)
          omega) hk
      refine ⟨q, ?_, k2⟩
      rw [show ((p ++ [y]).length : Int) = p.length + 1 by simp] at k1
      rw [u_Z2s_2]
      clear hE hc
      simp +contextual -implicitDefEqProofs (disch := first | assumption | omega | (simp -implicitDefEqProofs only [go_sem]; try omega)) only [↓reduceIte, go_sem, iP, iN, w64, w8, w32, b_Z2s_2, e1, f1, f2, Qag, Qak, c1, i1, l3, l2, l5, l10, g1, g2, g3, g4, hm1, k1]
    · obtain ⟨q, h1, h2⟩ := hc n hn hn2 (fun h => absurd h c1)
      refine ⟨q, ?_, h2⟩
      rw [u_Z2s_2]
      simp +contextual -implicitDefEqProofs (disch := first | assumption | omega | (simp -implicitDefEqProofs only [go_sem]; try omega)) only [↓reduceIte, go_sem, iP, iN, w64, w8, w32, b_Z2s_2, e1, f1, f2, Qag, Qak, c1, h1]
theorem Wbp (hdp : 0 ≤ dp ∧ dp ≤ 41) (s : Sl (Co α)) (c : Co α) (i : Int) (hi : 0 ≤ i ∧ i ≤ 140737488351232) (hic : eI 1 (.int .i64 i) (vSl (vCo v) s) = some (.eptr (coC v c) 0)) (r1 : Rk) (Post : Int → Prop) (hP : Post 101) (hRc : RC c) (hE : dp ≤ 40 → ∀ x ∈ c.list.l, ∀ y ∈ x.list.l, Wer t0 b0 v dp y.of) : ∀ (r p : List (Cp α)) (n : Int), c.list.l = p ++ r → 0 ≤ n → n ≤ bnd dp →
    (∀ n', 0 ≤ n' → n' ≤ bnd dp → (n' ≤ 100 → (∀ x ∈ r, gX b0 dp x) ∧ n' = n + tC t0 r) → ∃ q, r1 [vSl (vCo v) s, .int .i64 100, .int .i64 dp, .int .i64 n', .int .i64 (i + 1)] [] = some (.int .i64 q, []) ∧ Post q) →
    ∃ q, l_Z2s_1 (Mi cx) 0 0 r1 0 [vSl (vCo v) s, .int .i64 100, .int .i64 dp, .int .i64 n, .int .i64 i, .int .i64 p.length] [] = some (.int .i64 q, []) ∧ Post q
  | [], p, n, hp, hn, hn2, hc => by
    have hlen : c.list.l.length = p.length := by rw [hp]; simp
    have e1 : ¬ (p.length : Int) < c.list.l.length := by omega
    have f1 : ∀ σ, fz 0 σ fzD (vSl (vCo v) s) = some (vSl (vCo v) s) := fun σ => Qaw (Qaj (Qej hv))
    have l1 : eL [] false 1 (.eptr (coC v c) 0) = some (vSl (vCp v) c.list) := by
      show Option.map V.ng (some (vSl (vCp v) c.list)) = _
      rw [Qao, Qak]
    obtain ⟨q, h1, h2⟩ := hc n hn hn2 (fun _ => ⟨fun y hy => (by cases hy), by show n = n + ((0 : Nat) : Int); omega⟩)
    refine ⟨q, ?_, h2⟩
    rw [u_Z2s_1]
    generalize coC v c = C at hic l1
    simp +contextual -implicitDefEqProofs (disch := first | assumption | omega | (simp -implicitDefEqProofs only [go_sem]; try omega)) only [↓reduceIte, go_sem, iP, iN, w64, w8, w32, b_Z2s_1, e1, f1, Qag, Qak, hic, l1, h1]
  | x :: r, p, n, hp, hn, hn2, hc => by
    have hlen : c.list.l.length = p.length + r.length + 1 := by rw [hp]; simp; omega
    have hcl := hRc.1
    have e1 : (p.length : Int) < c.list.l.length := by omega
    have f1 : ∀ σ, fz 0 σ fzD (vSl (vCo v) s) = some (vSl (vCo v) s) := fun σ => Qaw (Qaj (Qej hv))
    have f2 : ∀ σ, fz 0 σ fzD (vSl (vSm v) x.list) = some (vSl (vSm v) x.list) := fun σ => Qaw (Qaj (Qix hv))
    have l1 : eL [] false 1 (.eptr (coC v c) 0) = some (vSl (vCp v) c.list) := by
      show Option.map V.ng (some (vSl (vCp v) c.list)) = _
      rw [Qao, Qak]
    have hx := hRc.2 x (by rw [hp]; simp)
    by_cases c1 : n ≤ 100
    · have i1 : eI 2 (.int .i64 p.length) (vSl (vCp v) c.list) = some (.eptr (cpC v x) 0) := Qaz (f := vCp v) hp rfl rfl
      have l2 : eL [] false 1 (.eptr (cpC v x) 1) = some (vSl (vSm v) x.list) := by
        show Option.map V.ng (some (vSl (vSm v) x.list)) = _
        rw [Qao, Qak]
      obtain ⟨q, k1, k2⟩ := Wbo hv t0 b0 dp hdp s x hx i p.length r1 (l_Z2s_1 (Mi cx) 0 0 r1 0) Post hP (fun h y hy => hE h x (by rw [hp]; simp) y hy) x.list.l [] n rfl hn hn2 (fun n' w1 w2 w3 => by
        have ih := Wbp hdp s c i hi hic r1 Post hP hRc hE r (p ++ [x]) n' (by rw [hp]; simp) w1 w2 (fun m v1 v2 v3 => hc m v1 v2 fun v4 => by
          obtain ⟨z1, z2⟩ := v3 v4
          obtain ⟨z3, z4⟩ := w3 (by omega)
          refine ⟨fun x' hx' => ?_, ?_⟩
          · rcases List.mem_cons.1 hx' with rfl | hx'
            · exact z3
            · exact z1 x' hx'
          · show m = n + ((tX t0 x.list.l + tC t0 r : Nat) : Int)
            omega)
        rw [show ((p ++ [x]).length : Int) = p.length + 1 by simp] at ih
        exact ih) (by omega)
      refine ⟨q, ?_, k2⟩
      have k1' : l_Z2s_2 (Mi cx) 0 0 r1 0 (l_Z2s_1 (Mi cx) 0 0 r1 0) 0 [vSl (vCo v) s, .int .i64 100, .int .i64 dp, .int .i64 n, .int .i64 i, .int .i64 p.length, vSl (vSm v) x.list, .int .i64 0] [] = some (.int .i64 q, []) := k1
      clear k1 hE hc
      rw [u_Z2s_1]
      generalize coC v c = C at hic l1
      generalize cpC v x = X at i1 l2
      simp +contextual -implicitDefEqProofs (disch := first | assumption | omega | (simp -implicitDefEqProofs only [go_sem]; try omega)) only [↓reduceIte, go_sem, iP, iN, w64, w8, w32, b_Z2s_1, e1, f1, f2, Qag, Qak, c1, hic, l1, i1, l2, k1']
    · obtain ⟨q, h1, h2⟩ := hc n hn hn2 (fun h => absurd h c1)
      refine ⟨q, ?_, h2⟩
      rw [u_Z2s_1]
      generalize coC v c = C at hic l1
      simp +contextual -implicitDefEqProofs (disch := first | assumption | omega | (simp -implicitDefEqProofs only [go_sem]; try omega)) only [↓reduceIte, go_sem, iP, iN, w64, w8, w32, b_Z2s_1, e1, f1, Qag, Qak, c1, hic, l1, h1]
theorem Wbq (hdp : 0 ≤ dp ∧ dp ≤ 41) (s : Sl (Co α)) (hs : s.l.length ≤ 140737488351232) (hRc : ∀ c ∈ s.l, RC c) (hE : dp ≤ 40 → ∀ c ∈ s.l, ∀ x ∈ c.list.l, ∀ y ∈ x.list.l, Wer t0 b0 v dp y.of) : ∀ (r p : List (Co α)) (n : Int), s.l = p ++ r → 0 ≤ n → n ≤ bnd dp →
    ∃ q : Int, l_Z2s_0 (Mi cx) 0 0 [vSl (vCo v) s, .int .i64 100, .int .i64 dp, .int .i64 n, .int .i64 p.length] [] = some (.int .i64 q, []) ∧ 0 ≤ q ∧ q ≤ bnd dp ∧ (q ≤ 100 → (∀ c ∈ r, c.list.l.length ≤ 100 ∧ gC b0 dp c) ∧ q = n + tS t0 r)
  | [], p, n, hp, hn, hn2 => by
    have hlen : s.l.length = p.length := by rw [hp]; simp
    have e1 : ¬ (p.length : Int) < s.l.length := by omega
    refine ⟨n, ?_, hn, hn2, fun _ => ⟨fun y hy => (by cases hy), by show n = n + ((0 : Nat) : Int); omega⟩⟩
    rw [u_Z2s_0]
    simp +contextual -implicitDefEqProofs (disch := first | assumption | omega | (simp -implicitDefEqProofs only [go_sem]; try omega)) only [↓reduceIte, go_sem, iP, iN, w64, w8, w32, b_Z2s_0, e1, Qag, Qak]
  | c :: r, p, n, hp, hn, hn2 => by
    have hlen : s.l.length = p.length + r.length + 1 := by rw [hp]; simp; omega
    have e1 : (p.length : Int) < s.l.length := by omega
    have f1 : ∀ σ, fz 0 σ fzD (vSl (vCo v) s) = some (vSl (vCo v) s) := fun σ => Qaw (Qaj (Qej hv))
    have hc := hRc c (by rw [hp]; simp)
    have hcl := hc.1
    have hb : bnd dp = 140737488351232 + 102 * (43 - dp) := rfl
    by_cases c1 : n ≤ 100
    · have i1 : eI 1 (.int .i64 p.length) (vSl (vCo v) s) = some (.eptr (coC v c) 0) := Qaz (f := vCo v) hp rfl rfl
      have l1 : eL [] false 1 (.eptr (coC v c) 0) = some (vSl (vCp v) c.list) := by
        show Option.map V.ng (some (vSl (vCp v) c.list)) = _
        rw [Qao, Qak]
      obtain ⟨q, k1, k2, k3, k4⟩ := Wbp hv t0 b0 dp hdp s c p.length (by omega) i1 (l_Z2s_0 (Mi cx) 0 0) (fun q => 0 ≤ q ∧ q ≤ bnd dp ∧ (q ≤ 100 → (∀ c' ∈ c :: r, c'.list.l.length ≤ 100 ∧ gC b0 dp c') ∧ q = n + tS t0 (c :: r))) ⟨by omega, by omega, fun h => by omega⟩ hc (fun h x hx y hy => hE h c (by rw [hp]; simp) x hx y hy) c.list.l [] (n + c.list.l.length) rfl (by omega) (by omega) (fun n' w1 w2 w3 => by
        obtain ⟨q, g1, g2, g3, g4⟩ := Wbq hdp s hs hRc hE r (p ++ [c]) n' (by rw [hp]; simp) w1 w2
        rw [show ((p ++ [c]).length : Int) = p.length + 1 by simp] at g1
        refine ⟨q, g1, g2, g3, fun g5 => ?_⟩
        obtain ⟨z1, z2⟩ := g4 g5
        obtain ⟨z3, z4⟩ := w3 (by omega)
        refine ⟨fun c' hc' => ?_, ?_⟩
        · rcases List.mem_cons.1 hc' with rfl | hc'
          · exact ⟨by omega, z3⟩
          · exact z1 c' hc'
        · show q = n + ((c.list.l.length + tC t0 c.list.l + tS t0 r : Nat) : Int)
          omega)
      refine ⟨q, ?_, k2, k3, k4⟩
      have k1' : l_Z2s_1 (Mi cx) 0 0 (l_Z2s_0 (Mi cx) 0 0) 0 [vSl (vCo v) s, .int .i64 100, .int .i64 dp, .int .i64 (n + c.list.l.length), .int .i64 p.length, .int .i64 0] [] = some (.int .i64 q, []) := k1
      clear k1 k4 hE hRc
      rw [u_Z2s_0]
      generalize coC v c = C at i1 l1
      simp +contextual -implicitDefEqProofs (disch := first | assumption | omega | (simp -implicitDefEqProofs only [go_sem]; try omega)) only [↓reduceIte, go_sem, iP, iN, w64, w8, w32, b_Z2s_0, e1, f1, Qag, Qak, c1, i1, l1, k1']
    · refine ⟨n, ?_, hn, hn2, fun h => absurd h c1⟩
      rw [u_Z2s_0]
      simp +contextual -implicitDefEqProofs (disch := first | assumption | omega | (simp -implicitDefEqProofs only [go_sem]; try omega)) only [↓reduceIte, go_sem, iP, iN, w64, w8, w32, b_Z2s_0, e1, Qag, Qak, c1]
end
def tot : (k : Nat) → Sl (Cx k) → Nat
  | 0, s => 0
  | k + 1, s => s.l.length + tS (tot k) s.l
theorem Wbr {α : Type} (t0 : Sl α → Nat) : ∀ l : List (Sm α), l.length ≤ tX t0 l
  | [] => Nat.le_refl _
  | y :: r => by
    have := Wbr t0 r
    show r.length + 1 ≤ 1 + t0 y.of + tX t0 r
    omega
theorem Wh2 {α : Type} (t0 : Sl α → Nat) {x : Cp α} : ∀ {l : List (Cp α)}, x ∈ l → tX t0 x.list.l ≤ tC t0 l
  | [], h => by cases h
  | y :: r, h => by
    show _ ≤ tX t0 y.list.l + tC t0 r
    rcases List.mem_cons.1 h with rfl | h
    · omega
    · have := Wh2 t0 h; omega
theorem Wh3 {α : Type} (t0 : Sl α → Nat) {c : Co α} : ∀ {l : List (Co α)}, c ∈ l → tC t0 c.list.l ≤ tS t0 l
  | [], h => by cases h
  | y :: r, h => by
    show _ ≤ y.list.l.length + tC t0 y.list.l + tS t0 r
    rcases List.mem_cons.1 h with rfl | h
    · omega
    · have := Wh3 t0 h; omega
theorem Qxc : ∀ (k : Nat) (dp : Int) (s : Sl (Cx k)), 0 ≤ dp ∧ dp ≤ 41 → SlOk (CxOk k) s → ∃ r : Int, E cx 49 [vSl (vCx k) s, .int .i64 100, .int .i64 dp] [] = some (.int .i64 r, []) ∧ 0 ≤ r ∧ r ≤ bnd dp ∧ (r ≤ 100 → Bd (41 - dp).toNat k s ∧ s.l.length ≤ 100 ∧ r = tot k s)
  | 0, dp, s, hdp, hs => by
    have e := sl0 (α := Cx 0) (fun x => Empty.elim x) s
    refine ⟨0, ?_, by omega, by show (0 : Int) ≤ 140737488351232 + 102 * (43 - dp); omega, fun _ => ⟨trivial, by rw [e]; simp, rfl⟩⟩
    have f1 : ∀ σ, fz 0 σ fzD (vSl (vCx 0) s) = some (vSl (vCx 0) s) := fun σ => Qaw Qea
    have hl : (s.l.length : Int) = 0 := by rw [e]; rfl
    have h0 : l_Z2s_0 (Mi cx) 0 0 [vSl (vCx 0) s, .int .i64 100, .int .i64 dp, .int .i64 0, .int .i64 0] [] = some (.int .i64 0, []) := by
      rw [u_Z2s_0]
      simp +contextual -implicitDefEqProofs (disch := first | assumption | omega | (simp -implicitDefEqProofs only [go_sem]; try omega)) only [↓reduceIte, go_sem, iP, iN, w64, w8, w32, b_Z2s_0, Qag, Qak, hl]
    rw [e_Z2s]
    simp +contextual -implicitDefEqProofs (disch := first | assumption | omega | (simp -implicitDefEqProofs only [go_sem]; try omega)) only [↓reduceIte, go_sem, iP, iN, w64, w8, w32, s_Z2s, f1, Qag, Qak, hl, h0]
  | k + 1, dp, s, hdp, hs => by
    have hRc : ∀ c ∈ s.l, RC (α := Cx k) c := fun c hc => ⟨(hs.2 c hc).1, fun x hx => ⟨((hs.2 c hc).2 x hx).2.1, fun y hy => by
      have := ((hs.2 c hc).2 x hx).2.2 y hy
      exact ⟨this.2.2.1, this.2.2.2.1, this.2.2.2.2.2.1⟩⟩⟩
    have hb : bnd dp = 140737488351232 + 102 * (43 - dp) := rfl
    have hsl : s.l.length ≤ 140737488351232 := hs.1
    obtain ⟨q, k1, k2, k3, k4⟩ := Wbq (v := vCx k) (Qkd k · ·) (tot k) (Bd (41 - (dp + 1)).toNat k) dp hdp s hsl hRc (fun h c hc x hx y hy => by
      have hy' := ((hs.2 c hc).2 x hx).2.2 y hy
      obtain ⟨r, g1, g2, g3, g4⟩ := Qxc k (dp + 1) y.of (by omega) hy'.2.2.2.2.2.2.2.2.2
      exact ⟨r, g1, g2, g3, fun h => ⟨(g4 h).1, (g4 h).2.2⟩⟩) s.l [] s.l.length rfl (by omega) (by omega)
    refine ⟨q, ?_, k2, k3, fun h => ?_⟩
    · have f1 : ∀ σ, fz 0 σ fzD (vSl (vCx (k + 1)) s) = some (vSl (vCx (k + 1)) s) := fun σ => Qaw Qea
      have k1' : l_Z2s_0 (Mi cx) 0 0 [vSl (vCx (k + 1)) s, .int .i64 100, .int .i64 dp, .int .i64 s.l.length, .int .i64 0] [] = some (.int .i64 q, []) := k1
      clear k1
      rw [e_Z2s]
      simp +contextual -implicitDefEqProofs (disch := first | assumption | omega | (simp -implicitDefEqProofs only [go_sem]; try omega)) only [↓reduceIte, go_sem, iP, iN, w64, w8, w32, s_Z2s, f1, Qag, Qak, k1']
    · obtain ⟨z1, z2⟩ := k4 h
      have hl : s.l.length ≤ 100 := by omega
      refine ⟨⟨by omega, fun c hc => ⟨by have := (z1 c hc).1; omega, fun x hx => ⟨?_, fun y hy => ?_⟩⟩⟩, hl, by show q = ((s.l.length + tS (tot k) s.l : Nat) : Int); omega⟩
      · have h1 := Wbr (tot k) x.list.l
        have h2 := Wh2 (tot k) hx
        have h3 := Wh3 (tot k) hc
        omega
      · obtain ⟨a1, a2, a3, a4, a5⟩ := (z1 c hc).2 x hx y hy
        refine ⟨a1, a2, a3, by omega, ?_⟩
        rw [show (41 - dp).toNat - 1 = (41 - (dp + 1)).toNat by omega]
        exact a5
theorem Wes {k : Nat} (s : Sl (Cx k)) (hs : SlOk (CxOk k) s) : ∃ g : Bool, (∀ σ, Wf σ → E cx 28 [vSl (vCx k) s, .int .i64 100] σ = some (.bool g, σ)) ∧ (g = false → Bd 41 k s ∧ s.l.length ≤ 100 ∧ tot k s ≤ 100) := by
  obtain ⟨r, h1, h2, h3, h4⟩ := Qxc k 0 s (by omega) hs
  refine ⟨decide (100 < r), fun σ hσ => ?_, fun h => ?_⟩
  · refine Qcm Qci ?_ (by rw [Qaf, Qea]; rfl) rfl σ hσ
    rw [e_Z2o]
    simp +contextual -implicitDefEqProofs (disch := first | assumption | omega | (simp -implicitDefEqProofs only [go_sem]; try omega)) only [↓reduceIte, go_sem, iP, iN, w64, w8, w32, s_Z2o, h1, Qak]
  · have h5 : r ≤ 100 := by have := of_decide_eq_false h; omega
    obtain ⟨a1, a2, a3⟩ := h4 h5
    exact ⟨a1, a2, by omega⟩
def vNl (n : Nms) : List (List UInt8) := n.pres.l ++ n.spaces.l
def gnS (n : Nms) : Bool := decide (30 < n.pres.l.length) || decide (30 < n.spaces.l.length) || decide (100 < n.dflt.length) || (vNl n).any fun s => decide (100 < s.length)
theorem Wkg {n : Nms} (h : gnS n = false) : NmB n := by
  unfold gnS at h
  simp only [Bool.or_eq_false_iff, decide_eq_false_iff_not, List.any_eq_false, decide_eq_true_eq] at h
  obtain ⟨⟨⟨h1, h2⟩, h3⟩, h4⟩ := h
  refine ⟨by omega, by omega, by omega, fun x hx => ?_, fun x hx => ?_⟩
  · have := h4 x (List.mem_append_left _ hx); omega
  · have := h4 x (List.mem_append_right _ hx); omega
theorem Qr5 (l : List (List UInt8)) (hl : l.length ≤ 60) (cb : Cap) (c : List V) (hc : V.rbs 1 c = true) : ∀ (r p : List (List UInt8)), l = p ++ r →
    l_Z1m_0 (Mi cx) 0 1 [.sl (l.map V.str) cb, .int .i64 l.length, .int .i64 p.length] [.cells c] = some (.bool (r.any fun s => decide (100 < s.length)), [])
  | [], p, hp => by
    have hlen : l.length = p.length := by rw [hp]; simp
    have e1 : ¬ (p.length : Int) < l.length := by omega
    rw [u_Z1m_0]
    simp +contextual -implicitDefEqProofs (disch := first | assumption | omega | (simp -implicitDefEqProofs only [go_sem]; try omega)) only [↓reduceIte, go_sem, iP, iN, w64, w8, w32, b_Z1m_0, e1, List.any_nil]
  | s :: r, p, hp => by
    have hlen : l.length = p.length + r.length + 1 := by rw [hp]; simp; omega
    have e1 : (p.length : Int) < l.length := by omega
    have i1 : eI 1 (.int .i64 p.length) (.sl (l.map V.str) .no) = some (.eptr [.str s] 0) := Qaz (f := V.str) (s := .row l) hp rfl rfl
    have f1 : ∀ σ, fz 1 σ fzD (.sl (l.map V.str) cb) = some (.sl (l.map V.str) cb) := fun σ => Qaw (show V.rbs 1 _ = true from Qg1 (s := .row l))
    have ih := Qr5 l hl cb c hc r (p ++ [s]) (by rw [hp]; simp)
    rw [show ((p ++ [s]).length : Int) = p.length + 1 by simp] at ih
    rw [u_Z1m_0, List.any_cons]
    by_cases c1 : 100 < (s.length : Int)
    · have c1' : 100 < s.length := by omega
      rw [decide_eq_true c1', Bool.true_or]
      simp +contextual -implicitDefEqProofs (disch := first | assumption | omega | (simp -implicitDefEqProofs only [go_sem]; try omega)) only [↓reduceIte, go_sem, iP, iN, w64, w8, w32, b_Z1m_0, e1, i1, c1]
    · have c1' : ¬ 100 < s.length := by omega
      rw [decide_eq_false c1', Bool.false_or]
      simp +contextual -implicitDefEqProofs (disch := first | assumption | omega | (simp -implicitDefEqProofs only [go_sem]; try omega)) only [↓reduceIte, go_sem, iP, iN, w64, w8, w32, b_Z1m_0, e1, i1, f1, c1, ih]
end Go.Proofs.YtapnplljnpconaaGreatDoor
namespace Go.Ev
mutual
theorem V.beq_refl : ∀ x : V, V.beq x x = true
  | .any | .undef | .nilp | .nils | .nili | .nilf | .nilm => rfl
  | .bool b => by simp [V.beq]
  | .int k n => by simp [V.beq]
  | .str s => by simp [V.beq]
  | .ptr o off => by simp [V.beq]
  | .mp o => by simp [V.beq]
  | .hs o off len sz ag => by simp [V.beq]
  | .eptr cs off => by simp [V.beq, V.beqs_refl cs]
  | .sl cs c => by simp [V.beq, V.beqs_refl cs]
  | .agg cs => by simp [V.beq, V.beqs_refl cs]
  | .tup cs => by simp [V.beq, V.beqs_refl cs]
  | .ifc t x => by simp [V.beq, V.beq_refl x]
  | .fn f a b => by simp [V.beq, V.beqs_refl a, V.beqs_refl b]
theorem V.beqs_refl : ∀ xs : List V, V.beqs xs xs = true
  | [] => rfl
  | x :: xs => by simp [V.beqs, V.beq_refl x, V.beqs_refl xs]
end
theorem Wet {ag : Bool} {sz o off : Nat} {σ : Objs} : Qj4 [Qe5 ag sz (.ptr o off)] σ = some σ := rfl
theorem Qxd {ag : Bool} {sz o off : Nat} {σ : Objs} {cs : List V} (h : Objs.get σ o = some cs) : Qgx [Qe5 ag sz (.ptr o off)] σ σ = some σ := by
  have e : stable σ σ (.same false o off (if ag then sz else 1)) = true := by
    simp only [stable, h, decide_true, Bool.true_and]
    rw [if_neg (by decide)]
    exact V.beqs_refl _
  show (if (stable σ σ (.same false o off (if ag then sz else 1)) && true) = true then some σ else none) = _
  rw [e]; rfl
attribute [go_sem] Wet
theorem Qxe {α : Type} {f : α → V} {ag : Bool} {sz bytes : Nat} {σ : Objs} {l : List α} {c : Cap} {s : Sl α} (hf : ∀ x, (f x).cells.length = sz) (ho : ∀ x, Qai (f x).cells = true) (ha : ∀ x, agOk ag (f x) = true) (hc : c = .fx ∨ c = .gr sz) (hl : (l.length + s.l.length) * bytes ≤ Qbu) :
    ∃ c', appV false ag sz bytes σ (.sl (l.map f) c) (vSl f s) = some (.sl ((l ++ s.l).map f) c') ∧ (c' = .fx ∨ c' = .gr sz) := by
  by_cases hs : s.l = []
  · refine ⟨c, ?_, hc⟩
    rw [hs, List.append_nil]
    unfold appV
    simp only [Qeq, Bool.false_eq_true, if_false, Qwt, hs, List.map_nil, Option.bind_eq_bind, Option.bind_some]
    unfold Qdk
    rw [Qn7, if_pos rfl]
  · refine ⟨.gr sz, ?_, .inr rfl⟩
    cases s with
    | nil => exact absurd rfl hs
    | row m => exact Qmt hf ho ha hc hs hl
end Go.Ev
namespace Go.Proofs.YtapnplljnpconaaGreatDoor
open Go.Ev
set_option maxRecDepth 100000
set_option maxHeartbeats 4000000
theorem Qou (n : Nms) (σ : Objs) (hσ : Wf σ) : E cx 27 [.agg (Qaa n)] σ = some (.bool (gnS n), σ) := by
  refine Qcm Qci ?_ (by simp only [Qaf, Qa9, Qal]; rfl) rfl σ hσ
  have hm : Qbu = 140737488355328 := rfl
  have h1 : boxV [] (.agg (Qaa n)) = some (.ptr 0 0, [.cells (Qaa n)]) := Qbc ok_n no_n
  have l2 : eL [.cells (Qaa n)] false 1 (.ptr 0 2) = some (vSl V.str n.pres) := by
    show Option.map V.ng (some (vSl V.str n.pres)) = _
    rw [Qao, Qak]
  have l3 : eL [.cells (Qaa n)] false 1 (.ptr 0 3) = some (vSl V.str n.spaces) := by
    show Option.map V.ng (some (vSl V.str n.spaces)) = _
    rw [Qao, Qak]
  have l1 : eL [.cells (Qaa n)] false 1 (.ptr 0 1) = some (.str n.dflt) := rfl
  have o1 : Qgx [Qe5 false 1 (.ptr 0 3)] [.cells (Qaa n)] [.cells (Qaa n)] = some [.cells (Qaa n)] := Qxd rfl
  have hw : V.rbs 1 (Qaa n) = true := Qal
  rw [e_Z1m]
  unfold gnS
  generalize Qaa n = N at *
  by_cases c1 : 30 < (n.pres.l.length : Int)
  case pos =>
    rw [decide_eq_true (show 30 < n.pres.l.length by omega), Bool.true_or, Bool.true_or, Bool.true_or]
    simp +contextual -implicitDefEqProofs (disch := first | assumption | omega | (simp -implicitDefEqProofs only [go_sem]; try omega)) only [↓reduceIte, go_sem, iP, iN, w64, w8, w32, s_Z1m, h1, l1, l2, l3, c1, Qag, Qak]
  rw [decide_eq_false (show ¬ 30 < n.pres.l.length by omega), Bool.false_or]
  by_cases c2 : 30 < (n.spaces.l.length : Int)
  case pos =>
    rw [decide_eq_true (show 30 < n.spaces.l.length by omega), Bool.true_or, Bool.true_or]
    simp +contextual -implicitDefEqProofs (disch := first | assumption | omega | (simp -implicitDefEqProofs only [go_sem]; try omega)) only [↓reduceIte, go_sem, iP, iN, w64, w8, w32, s_Z1m, h1, l1, l2, l3, c1, c2, Qag, Qak]
  rw [decide_eq_false (show ¬ 30 < n.spaces.l.length by omega), Bool.false_or]
  by_cases c3 : 100 < (n.dflt.length : Int)
  case pos =>
    rw [decide_eq_true (show 100 < n.dflt.length by omega), Bool.true_or]
    simp +contextual -implicitDefEqProofs (disch := first | assumption | omega | (simp -implicitDefEqProofs only [go_sem]; try omega)) only [↓reduceIte, go_sem, iP, iN, w64, w8, w32, s_Z1m, h1, l1, l2, l3, c1, c2, c3, Qag, Qak]
  rw [decide_eq_false (show ¬ 100 < n.dflt.length by omega), Bool.false_or]
  obtain ⟨ca, a1, a2⟩ := Qxe (f := V.str) (ag := false) (sz := 1) (bytes := 16) (σ := [.cells N]) (l := []) (c := .fx) (s := n.pres) (fun _ => rfl) (fun _ => rfl) (fun _ => rfl) (.inl rfl) (by simp; omega)
  obtain ⟨cb, b1, b2⟩ := Qxe (f := V.str) (ag := false) (sz := 1) (bytes := 16) (σ := [.cells N]) (l := n.pres.l) (c := ca) (s := n.spaces) (fun _ => rfl) (fun _ => rfl) (fun _ => rfl) a2 (by omega)
  rw [List.map_nil, List.nil_append] at a1
  have hl := Qr5 (vNl n) (by unfold vNl; rw [List.length_append]; omega) cb N hw (vNl n) [] rfl
  have hl' : l_Z1m_0 (Mi cx) 0 1 [.sl ((n.pres.l ++ n.spaces.l).map V.str) cb, .int .i64 (vNl n).length, .int .i64 0] [.cells N] = some (.bool ((vNl n).any fun s => decide (100 < s.length)), []) := hl
  rw [show (vNl n).length = (List.map V.str (n.pres.l ++ n.spaces.l)).length by rw [List.length_map]; rfl] at hl'
  have e5 : Qaq (.sl ((n.pres.l ++ n.spaces.l).map V.str) cb) = some (.int .i64 (vNl n).length) := by
    rw [Wa2, List.length_map]; rfl
  have e6 : fz 1 [.cells N] fzD (.sl ((n.pres.l ++ n.spaces.l).map V.str) cb) = some (.sl ((n.pres.l ++ n.spaces.l).map V.str) cb) := Qaw (by show V.rbs 1 _ = true; exact Qg1 (s := .row (n.pres.l ++ n.spaces.l)))
  simp +contextual -implicitDefEqProofs (disch := first | assumption | omega | (simp -implicitDefEqProofs only [go_sem]; try omega)) only [↓reduceIte, go_sem, iP, iN, w64, w8, w32, s_Z1m, h1, l1, l2, l3, c1, c2, c3, Qag, Qak, o1, a1, b1, e6, hl']
theorem Wah (n : Nms) {k : Nat} (L : Sl (Sl (Cx k))) (hL : SlOk (SlOk (CxOk k)) L) : ∃ g : Bool, (∀ σ, Wf σ → E cx 7 [vSl (vSl (vCx k)) L, .agg (Qaa n), .int .i64 100] σ = some (.bool g, σ)) ∧
    (g = false → L.l.length ≤ 4 ∧ NmB n ∧ ∀ s ∈ L.l, Bd 41 k s ∧ s.l.length ≤ 100 ∧ tot k s ≤ 100) := by
  have hLl : L.l.length ≤ 140737488351232 := hL.1
  have hrb : ∀ j x, V.rb j (vSl (vCx k) x) = true := fun j x => Qea
  have hw : V.rbs 1 (Qaa n) = true := Qal
  have f1 : ∀ σ, fz 1 σ fzD (vSl (vSl (vCx k)) L) = some (vSl (vSl (vCx k)) L) := fun σ => Qaw (Qaj hrb)
  have loop : ∀ (r p : List (Sl (Cx k))), L.l = p ++ r → ∃ g : Bool, l_Z1o_0 (Mi cx) 0 1 [.int .i64 100, vSl (vSl (vCx k)) L, .int .i64 L.l.length, .int .i64 p.length] [.cells (Qaa n)] = some (.bool g, []) ∧ (g = false → ∀ s ∈ r, Bd 41 k s ∧ s.l.length ≤ 100 ∧ tot k s ≤ 100) := by
    intro r
    induction r with
    | nil =>
      intro p hp
      have hlen : L.l.length = p.length := by rw [hp]; simp
      have e1 : ¬ (p.length : Int) < L.l.length := by omega
      refine ⟨false, ?_, fun _ s hs => (by cases hs)⟩
      rw [u_Z1o_0]
      generalize Qaa n = N at *
      simp +contextual -implicitDefEqProofs (disch := first | assumption | omega | (simp -implicitDefEqProofs only [go_sem]; try omega)) only [↓reduceIte, go_sem, iP, iN, w64, w8, w32, b_Z1o_0, e1]
    | cons s r ih =>
      intro p hp
      have hlen : L.l.length = p.length + r.length + 1 := by rw [hp]; simp; omega
      have e1 : (p.length : Int) < L.l.length := by omega
      have i1 : eI 1 (.int .i64 p.length) (vSl (vSl (vCx k)) L) = some (.eptr [vSl (vCx k) s] 0) := by
        have := Qaz (f := vSl (vCx k)) (sz := 1) (k := .i64) hp rfl (by rw [Qcp]; rfl)
        rw [Qcp] at this
        exact this
      have i2 : eL [.cells (Qaa n)] false 1 (.eptr [vSl (vCx k) s] 0) = some (vSl (vCx k) s) := by
        show Option.map V.ng (some (vSl (vCx k) s)) = _
        rw [Qao, Qak]
      obtain ⟨g, h1, h2⟩ := Wes s (hL.2 s (by rw [hp]; simp))
      have h1' := h1 [.cells (Qaa n)] (by rw [Qgk]; exact hw)
      cases g with
      | true =>
        refine ⟨true, ?_, fun h => (by cases h)⟩
        rw [u_Z1o_0]
        clear h1 ih
        generalize Qaa n = N at *
        simp +contextual -implicitDefEqProofs (disch := first | assumption | omega | (simp -implicitDefEqProofs only [go_sem]; try omega)) only [↓reduceIte, go_sem, iP, iN, w64, w8, w32, b_Z1o_0, e1, i1, i2, h1', Qak]
      | false =>
        obtain ⟨g, k1, k2⟩ := ih (p ++ [s]) (by rw [hp]; simp)
        rw [show ((p ++ [s]).length : Int) = p.length + 1 by simp] at k1
        refine ⟨g, ?_, fun h s' hs' => ?_⟩
        · rw [u_Z1o_0]
          clear h1 ih
          generalize Qaa n = N at *
          simp +contextual -implicitDefEqProofs (disch := first | assumption | omega | (simp -implicitDefEqProofs only [go_sem]; try omega)) only [↓reduceIte, go_sem, iP, iN, w64, w8, w32, b_Z1o_0, e1, i1, i2, f1, h1', Qak, k1]
        · rcases List.mem_cons.1 hs' with rfl | hs'
          · exact h2 rfl
          · exact k2 h s' hs'
  have h1 : boxV [] (.agg (Qaa n)) = some (.ptr 0 0, [.cells (Qaa n)]) := Qbc ok_n no_n
  have l4 : eL [.cells (Qaa n)] true 4 (.ptr 0 0) = some (.agg (Qaa n)) := Qbt rfl rfl no_n
  have hW : Wf [.cells (Qaa n)] := by rw [Qgk]; exact hw
  have hg := Qou n _ hW
  have hrbL : V.rbs 0 [vSl (vSl (vCx k)) L, .agg (Qaa n), .int .i64 100] = true := by simp only [Qaf, Qa9, Qal, Qaj hrb]; rfl
  by_cases c1 : 4 < (L.l.length : Int)
  · refine ⟨true, fun σ hσ => Qcm Qci ?_ hrbL rfl σ hσ, fun h => (by cases h)⟩
    rw [e_Z1o]
    clear loop
    generalize Qaa n = N at *
    simp +contextual -implicitDefEqProofs (disch := first | assumption | omega | (simp -implicitDefEqProofs only [go_sem]; try omega)) only [↓reduceIte, go_sem, iP, iN, w64, w8, w32, s_Z1o, h1, l4, c1, Qag, Qak]
  · cases c2 : gnS n with
    | true =>
      rw [c2] at hg
      refine ⟨true, fun σ hσ => Qcm Qci ?_ hrbL rfl σ hσ, fun h => (by cases h)⟩
      rw [e_Z1o]
      clear loop
      generalize Qaa n = N at *
      simp +contextual -implicitDefEqProofs (disch := first | assumption | omega | (simp -implicitDefEqProofs only [go_sem]; try omega)) only [↓reduceIte, go_sem, iP, iN, w64, w8, w32, s_Z1o, h1, l4, c1, hg, Qag, Qak]
    | false =>
      rw [c2] at hg
      obtain ⟨g, k1, k2⟩ := loop L.l [] rfl
      have k1' : l_Z1o_0 (Mi cx) 0 1 [.int .i64 100, vSl (vSl (vCx k)) L, .int .i64 L.l.length, .int .i64 0] [.cells (Qaa n)] = some (.bool g, []) := k1
      refine ⟨g, fun σ hσ => Qcm Qci ?_ hrbL rfl σ hσ, fun h => ⟨by omega, Wkg c2, k2 h⟩⟩
      rw [e_Z1o]
      clear loop k1
      generalize Qaa n = N at *
      simp +contextual -implicitDefEqProofs (disch := first | assumption | omega | (simp -implicitDefEqProofs only [go_sem]; try omega)) only [↓reduceIte, go_sem, iP, iN, w64, w8, w32, s_Z1o, h1, l4, c1, hg, f1, Qag, Qak, k1']
end Go.Proofs.YtapnplljnpconaaGreatDoor
namespace Go.Ev
def slo {α : Type} : List α → Sl α
  | [] => .nil
  | x :: r => .row (x :: r)
theorem Qc3 {α : Type} : ∀ l : List α, (slo l).l = l
  | [] => rfl
  | _ :: _ => rfl
def vG {α : Type} (f : α → V) (sz : Nat) : List α → V
  | [] => .nils
  | x :: r => .sl ((x :: r).map f) (.gr sz)
section
variable {α : Type} {f : α → V} {sz : Nat} {l : List α}
theorem n_vG : (vG f sz l).ng = vSl f (slo l) := by cases l <;> rfl
theorem Qkp {n : Nat} (h : ∀ x, V.rb n (f x) = true) : V.rb n (vG f sz l) = true := by
  cases l with
  | nil => rfl
  | cons x r => exact Qoe (s := .row (x :: r)) fun y _ => h y
theorem Qkq {ag : Bool} {bytes : Nat} {σ : Objs} {x : α} {c : Cap} (hf : ∀ x, (f x).cells.length = sz) (ho : ∀ x, Qai (f x).cells = true) (ha : ∀ x, agOk ag (f x) = true) (hl : (l.length + 1) * bytes ≤ Qbu) :
    appV false ag sz bytes σ (vG f sz l) (.sl [f x] c) = some (vG f sz (l ++ [x])) := by
  cases l with
  | nil =>
    have h4 := Qod (l := [x]) hf ho ha
    have h4' : Qcy ag sz [f x] = true := h4
    unfold appV
    simp only [Qeq, Bool.false_eq_true, if_false, Qh0, Option.bind_eq_bind, Option.bind_some]
    show Qdk ag sz bytes .nils [f x] = _
    unfold Qdk
    rw [h4', if_pos rfl]
    simp only [List.length_cons, List.length_nil]
    rw [if_neg (by simp), if_pos (by simpa using hl)]
    rfl
  | cons y r => exact Qmt (l := y :: r) (m := [x]) hf ho ha (.inr rfl) (by simp) hl
theorem Qm3 {cs : List V} {τ : Objs} {off : Nat} (h : cs[off]? = some (vG f sz l)) : Qcv (.cells cs :: τ) (.ptr 0 off) = some (vG f sz l, .cells (cs.set off (vSl f (slo l))) :: τ) := by
  have e : Qcv (.cells cs :: τ) (.ptr 0 off) = match vG f sz l with
    | .sl xs (.gr s) => some (.sl xs (.gr s), (O.cells cs :: τ).set 0 (.cells (cs.set off (.sl xs .no))))
    | .sl _ .lk => none
    | v => some (v, .cells cs :: τ) := by
    unfold Qcv
    simp only [Objs.get, List.getElem?_cons_zero, h, Option.bind_eq_bind, Option.bind_some]
    cases l <;> rfl
  rw [e]
  cases l with
  | nil =>
    show some (V.nils, O.cells cs :: τ) = some (V.nils, O.cells (cs.set off .nils) :: τ)
    have : cs.set off .nils = cs := by
      obtain ⟨hl, e⟩ := List.getElem?_eq_some_iff.1 h
      rw [← show cs[off] = V.nils from e]
      exact List.set_getElem_self _
    rw [this]
  | cons x r => rfl
end
structure Atm where
  kind : Int
  has : Bool
  space : List UInt8
  name : List UInt8
  op : Int
  text : List UInt8
  fold : Bool
  deriving DecidableEq
def atC (a : Atm) : List V := [.int .i64 a.kind, .bool a.has, .str a.space, .str a.name, .int .i64 a.op, .str a.text, .bool a.fold]
@[reducible] def vAtm (a : Atm) : V := .agg (atC a)
inductive Trm where
  | mk (kind n : Int) (ts : List Trm)
mutual
def vT : Trm → V
  | .mk k n ts => .agg [.int .i64 k, .int .i64 n, vTs ts]
def vTs : List Trm → V
  | [] => .nils
  | t :: r => .sl (vT t :: vTl r) .no
def vTl : List Trm → List V
  | [] => []
  | t :: r => vT t :: vTl r
end
theorem Qxf : ∀ l : List Trm, vTl l = l.map vT
  | [] => by simp only [vTl, List.map_nil]
  | t :: r => by simp only [vTl, List.map_cons, Qxf r]
theorem Wh4 : ∀ l : List Trm, vTs l = vSl vT (slo l)
  | [] => by simp only [vTs]; rfl
  | t :: r => by
    simp only [vTs, Qxf]
    rfl
def tmC : Trm → List V
  | .mk k n ts => [.int .i64 k, .int .i64 n, vSl vT (slo ts)]
theorem Qkr (t : Trm) : vT t = .agg (tmC t) := by
  cases t with
  | mk k n ts => simp only [vT, Wh4, tmC]
mutual
theorem Qg2 {n : Nat} : ∀ t : Trm, V.rb n (vT t) = true
  | .mk k m ts => by
    simp only [vT, Qa9, Qaf, Qdi, Qby, Bool.and_true, Bool.true_and]
    exact Wh5 ts
theorem Wh5 {n : Nat} : ∀ l : List Trm, V.rb n (vTs l) = true
  | [] => by simp only [vTs, Qvi]
  | t :: r => by
    simp only [vTs, Qy9, Qaf, Qg2 t, Bool.true_and]
    exact Qxg r
theorem Qxg {n : Nat} : ∀ l : List Trm, V.rbs n (vTl l) = true
  | [] => by simp only [vTl, Qby]
  | t :: r => by simp only [vTl, Qaf, Qg2 t, Bool.true_and]; exact Qxg r
end
structure Stp where
  comb : Int
  ts : List Trm
def stC (s : Stp) : List V := [.int .i64 s.comb, vSl vT (slo s.ts)]
@[reducible] def vStp (s : Stp) : V := .agg (stC s)
structure Rw where
  first : Int
  steps : List Stp
  pseudo : List UInt8
def rwC (r : Rw) : List V := [.int .i64 r.first, vSl vStp (slo r.steps), .str r.pseudo]
@[reducible] def vRw (r : Rw) : V := .agg (rwC r)
structure Ctr where
  a : Int
  b : Int
  rows : List Int
abbrev vIs (l : List Int) : V := vSl (V.int .i64) (slo l)
def ctC (c : Ctr) : List V := [.int .i64 c.a, .int .i64 c.b, vIs c.rows]
@[reducible] def vCtr (c : Ctr) : V := .agg (ctC c)
structure Pln where
  atoms : List Atm
  rows : List Rw
  ctrs : List Ctr
  steps : Int
section
variable {n : Nat}
theorem Qe8 {a : Atm} : V.rb n (vAtm a) = true := rfl
theorem Qdc {a : Atm} : V.rbs n (atC a) = true := rfl
theorem Qez {t : Trm} : V.rbs n (tmC t) = true := by have := Qg2 (n := n) t; rw [Qkr] at this; exact this
theorem Qxh {s : Stp} : V.rbs n (stC s) = true := by simp only [stC, Qaf, Qdi, Qby, Qaj (fun n t => Qg2 (n := n) t), Bool.and_true]
theorem Qr6 {s : Stp} : V.rb n (vStp s) = true := Qxh
theorem Qm4 {r : Rw} : V.rbs n (rwC r) = true := by simp only [rwC, Qaf, Qdi, Qj9, Qby, Qaj (fun n t => Qr6 (n := n) (s := t)), Bool.and_true]
theorem Qxi {r : Rw} : V.rb n (vRw r) = true := Qm4
theorem Qg3 {l : List Int} : V.rb n (vIs l) = true := Qoe fun _ _ => rfl
theorem Weu {c : Ctr} : V.rbs n (ctC c) = true := by simp only [ctC, Qaf, Qdi, Qby, Qg3, Bool.and_true]
theorem Wbs {c : Ctr} : V.rb n (vCtr c) = true := Weu
end
theorem Qov {a : Atm} : Qai (atC a) = true := rfl
theorem Qge {a : Atm} : (atC a).map V.ng = atC a := rfl
theorem Qks {t : Trm} : Qai (tmC t) = true := by cases t; simp only [tmC, Qcf, Qdm, Qdg, Qc2, Bool.and_true]
theorem Qkt {t : Trm} : (tmC t).map V.ng = tmC t := by cases t; simp only [tmC, List.map_cons, List.map_nil, Qnx, Qak]
theorem Qd4 {t : Trm} : (tmC t).length = 3 := by cases t; rfl
theorem Wev {s : Stp} : Qai (stC s) = true := by simp only [stC, Qcf, Qdm, Qdg, Qc2, Bool.and_true]
theorem Wh6 {s : Stp} : (stC s).map V.ng = stC s := by simp only [stC, List.map_cons, List.map_nil, Qnx, Qak]
theorem Wew {r : Rw} : Qai (rwC r) = true := by simp only [rwC, Qcf, Qdm, Qdg, Qhk, Qc2, Bool.and_true]
theorem Wh7 {r : Rw} : (rwC r).map V.ng = rwC r := by simp only [rwC, List.map_cons, List.map_nil, Qnx, Quw, Qak]
theorem Wkh {c : Ctr} : Qai (ctC c) = true := by simp only [ctC, Qcf, Qdm, Qdg, Qc2, Bool.and_true]
theorem rbs0 {n : Nat} {l : List V} (h : V.rbs 0 l = true) : V.rbs n l = true := Qho (Nat.zero_le _) h
theorem rb0 {n : Nat} {x : V} (h : V.rb 0 x = true) : V.rb n x = true := Qzu (Nat.zero_le _) h
end Go.Ev
namespace Go.Proofs.YtapnplljnpconaaGreatDoor
open Go.Ev
set_option maxRecDepth 100000
set_option maxHeartbeats 4000000
def Cl0 (τ : Objs) : Prop := τ.all (O.rb 0) = true
theorem Wbt {n : Nat} {o : O} (h : o.rb 0 = true) : o.rb n = true := by
  cases o with
  | cells cs => exact rbs0 h
  | mp es =>
    simp only [O.rb, Bool.and_eq_true] at h ⊢
    exact ⟨rbs0 h.1, rbs0 h.2⟩
theorem Qxj {b : Nat} {τ : Objs} (h : Cl0 τ) : FrW b τ := by
  unfold FrW
  exact List.all_eq_true.2 fun o ho => Wbt (List.all_eq_true.1 h o ho)
theorem Qb5 {τ : Objs} (h : Cl0 τ) : Wf τ := List.all_eq_true.2 fun o ho => Wbt (List.all_eq_true.1 h o ho)
theorem Qae {cs : List V} {τ : Objs} (h1 : V.rbs 0 cs = true) (h2 : Cl0 τ) : Cl0 (.cells cs :: τ) := by
  unfold Cl0 at *
  rw [List.all_cons, h2]
  show (V.rbs 0 cs && true) = true
  rw [h1]; rfl
theorem Qay : Cl0 [] := rfl
theorem E_on {f : FuncId} {args : List V} {cs cs' : List V} {r : V} (h : E cx f (.ptr 0 0 :: args) [.cells cs] = some (r, [.cells cs'])) (ha : V.rbs 0 args = true) (hc : V.rbs 0 cs = true) (hc' : V.rbs 0 cs' = true) (hr : V.rb 0 r = true)
    (τ : Objs) (hτ : Cl0 τ) : E cx f (.ptr 0 0 :: args) (.cells cs :: τ) = some (r, .cells cs' :: τ) := by
  have h1 := Qp3 Qci (b := 1) (Qxj hτ) (Nat.le_refl _) h
  rw [List.map_cons, ← Qan, Qbj ha, Qbq hr] at h1
  have e : ∀ ds : List V, V.rbs 0 ds = true → ins 1 τ [.cells ds] = .cells ds :: τ := by
    intro ds hd
    show (List.take 1 [O.sh 1 τ.length (.cells ds)] ++ τ) ++ List.drop 1 [O.sh 1 τ.length (.cells ds)] = _
    have : O.sh 1 τ.length (.cells ds) = .cells ds := by show O.cells (ds.map (V.sh 1 τ.length)) = _; rw [← Qan, Qbj hd]
    rw [this]
    simp
  rw [e _ hc, e _ hc'] at h1
  exact h1
theorem E_at {f : FuncId} {args : List V} {cs cs' : List V} {r : V} (h : E cx f (.ptr 0 0 :: args) [.cells cs] = some (r, [.cells cs'])) (ha : V.rbs 0 args = true) (hc : V.rbs 0 cs = true) (hc' : V.rbs 0 cs' = true) (hr : V.rb 0 r = true)
    (φ : Objs) (hφ : Cl0 φ) : E cx f (.ptr φ.length 0 :: args) (φ ++ [.cells cs]) = some (r, φ ++ [.cells cs']) := by
  have h1 := Qp3 Qci (b := 0) (Qxj hφ) (Nat.zero_le _) h
  rw [List.map_cons, ← Qan, Qbj ha, Qbq hr] at h1
  have e : ∀ ds : List V, V.rbs 0 ds = true → ins 0 φ [.cells ds] = φ ++ [.cells ds] := by
    intro ds hd
    show (List.take 0 [O.sh 0 φ.length (.cells ds)] ++ φ) ++ List.drop 0 [O.sh 0 φ.length (.cells ds)] = _
    have : O.sh 0 φ.length (.cells ds) = .cells ds := by show O.cells (ds.map (V.sh 0 φ.length)) = _; rw [← Qan, Qbj hd]
    rw [this]
    simp
  rw [e _ hc, e _ hc'] at h1
  have e2 : V.sh 0 φ.length (.ptr 0 0) = .ptr φ.length 0 := by
    show V.ptr (rn 0 φ.length 0) 0 = _
    rw [show rn 0 φ.length 0 = φ.length from by unfold rn; simp]
  rw [e2] at h1
  exact h1
def mkC (n : Nms) (p : Pln) (X : V) : List V := [.bool n.has, .str n.dflt, Qc6 n.pres, Qc6 n.spaces, vG vAtm 7 p.atoms, vG vRw 3 p.rows, vG vCtr 3 p.ctrs, X, .int .i64 p.steps]
theorem Qar {n : Nms} {p : Pln} {X : V} (hX : V.rb 0 X = true) : V.rbs 0 (mkC n p X) = true := by
  simp only [mkC, Qaf, Qj8, Qj9, Qg1, Qkp (fun a => Qe8 (a := a)), Qkp (fun a => Qxi (r := a)), Qkp (fun a => Wbs (c := a)), hX, Qdi, Qby, Bool.and_true]
end Go.Proofs.YtapnplljnpconaaGreatDoor
namespace Go.Ev
section
variable {α : Type} {f : α → V} {sz : Nat} {l : List α}
theorem Wex {cs : List V} {τ : Objs} {off : Nat} (h : off < cs.length) : stV (.cells cs :: τ) 1 (.ptr 0 off) (vSl f (slo l)) (vG f sz l) = some (.undef, .cells (cs.set off (vG f sz l)) :: τ) := by
  have h' : off + 1 ≤ cs.length := h
  cases l with
  | nil => simp [stV, Objs.get, slo, vSl, vG, V.cells, V.isLk, Qai, h']; try rfl
  | cons x r => simp [stV, Objs.get, slo, vSl, vG, V.cells, V.isLk, Qai, h']; try rfl
theorem Wey {keep : Bool} : oK false (vG f sz l) = some (vSl f (slo l)) := by cases l <;> rfl
end
theorem Wbu {k i : Int} : vT (.mk k i []) = .agg [.int .i64 k, .int .i64 i, .nils] := by simp only [vT, vTs]
def posA (a : Atm) : List Atm → Nat → Option Nat
  | [], _ => none
  | b :: r, i => if a = b then some i else posA a r (i + 1)
def posI : Option Nat → Int
  | none => -1
  | some i => i
def addA (p : Pln) (a : Atm) : Pln := { p with atoms := p.atoms ++ [a] }
def Qbd (p : Pln) (a : Atm) : Trm × Pln := match posA a p.atoms 0 with
  | some i => (.mk 1 i [], p)
  | none => (.mk 1 p.atoms.length [], addA p a)
end Go.Ev
namespace Go.Ev
open Go.Proofs.YtapnplljnpconaaGreatDoor
section
variable {O1 O2 O3 : O} {cs ds : List V} {t : V} {τ : Objs} {sz : Nat}
theorem Qxk (h1 : ds.length = sz) (h2 : cs.length = sz) (h3 : Qai ds = true) (h4 : ds.map V.ng = ds) :
    stV (.cells cs :: τ) sz (.ptr 0 0) (.agg ds) t = some (.undef, .cells ds :: τ) := by
  show (if (V.agg ds).cells.length = sz ∧ 0 + sz ≤ cs.length ∧ Qai (V.agg ds).cells = true then _ else _) = _
  rw [if_pos ⟨h1, by omega, h3⟩, Qbz, h4, Qeo _ _ (by rw [h1, h2])]; rfl
theorem Qxl (h1 : ds.length = sz) (h2 : cs.length = sz) (h3 : Qai ds = true) (h4 : ds.map V.ng = ds) :
    stV (O1 :: .cells cs :: τ) sz (.ptr 1 0) (.agg ds) t = some (.undef, O1 :: .cells ds :: τ) := by
  show (if (V.agg ds).cells.length = sz ∧ 0 + sz ≤ cs.length ∧ Qai (V.agg ds).cells = true then _ else _) = _
  rw [if_pos ⟨h1, by omega, h3⟩, Qbz, h4, Qeo _ _ (by rw [h1, h2])]; rfl
theorem Qxm (h1 : ds.length = sz) (h2 : cs.length = sz) (h3 : Qai ds = true) (h4 : ds.map V.ng = ds) :
    stV (O1 :: O2 :: .cells cs :: τ) sz (.ptr 2 0) (.agg ds) t = some (.undef, O1 :: O2 :: .cells ds :: τ) := by
  show (if (V.agg ds).cells.length = sz ∧ 0 + sz ≤ cs.length ∧ Qai (V.agg ds).cells = true then _ else _) = _
  rw [if_pos ⟨h1, by omega, h3⟩, Qbz, h4, Qeo _ _ (by rw [h1, h2])]; rfl
theorem Qxn (h1 : ds.length = sz) (h2 : cs.length = sz) (h3 : Qai ds = true) (h4 : ds.map V.ng = ds) :
    stV (O1 :: O2 :: O3 :: .cells cs :: τ) sz (.ptr 3 0) (.agg ds) t = some (.undef, O1 :: O2 :: O3 :: .cells ds :: τ) := by
  show (if (V.agg ds).cells.length = sz ∧ 0 + sz ≤ cs.length ∧ Qai (V.agg ds).cells = true then _ else _) = _
  rw [if_pos ⟨h1, by omega, h3⟩, Qbz, h4, Qeo _ _ (by rw [h1, h2])]; rfl
theorem Qow (h1 : ds.length = sz) (h4 : ds.map V.ng = ds) : Ev.part true sz ds 0 = some (.agg ds) := by
  unfold Ev.part
  rw [if_pos rfl, if_pos (by omega), List.drop_zero, List.take_of_length_le (by omega), h4]
theorem Qxo {σ : Objs} {ag : Bool} {sz o off : Nat} : resC σ ag sz (.ptr o off) = (Objs.get σ o).bind fun cs => Ev.part ag sz cs off := rfl
theorem get3 {O1 O2 O3 : O} {cs : List V} {τ : Objs} : Objs.get (O1 :: O2 :: O3 :: .cells cs :: τ) 3 = some cs := rfl
end
attribute [go_sem] Qxk Qxl Qxm Qxn Qow Qxo get3
end Go.Ev
namespace Go.Proofs.YtapnplljnpconaaGreatDoor
open Go.Ev
set_option maxRecDepth 100000
set_option maxHeartbeats 4000000
def Qe9 (n : Nms) (a : Atm) (ns : Int) (pre : List UInt8) : Atm :=
  let b : Atm := if ns = 0 then { a with has := n.has, space := n.dflt } else if ns = 2 then { a with has := true, space := [] } else if ns = 3 then { a with has := true, space := if 0 ≤ idxS n.pres.l pre then n.spaces.l.getD (idxS n.pres.l pre).toNat [] else [] } else a
  if b.has = true then b else { b with space := [] }
theorem Wbv {a b : Atm} : eB .eql (.agg [.i, .b, .s, .s, .i, .s, .b]) (.agg (atC a)) (.agg (atC b)) = some (.bool (decide (a = b))) := by
  obtain ⟨a1, a2, a3, a4, a5, a6, a7⟩ := a
  obtain ⟨b1, b2, b3, b4, b5, b6, b7⟩ := b
  simp only [atC, Atm.mk.injEq]
  by_cases h1 : a1 = b1 <;> by_cases h2 : a2 = b2 <;> by_cases h3 : a3 = b3 <;> by_cases h4 : a4 = b4 <;> by_cases h5 : a5 = b5 <;> by_cases h6 : a6 = b6 <;> by_cases h7 : a7 = b7 <;> simp [eB, eqV, Qa6, Qdp, h1, h2, h3, h4, h5, h6, h7]
theorem Wbw (l : Sl Atm) (a : Atm) (hl : l.l.length ≤ 1000000000) : ∀ (r q : List Atm), l.l = q ++ r →
    l_Z1i_0 (Mi cx) 0 1 [vSl vAtm l, .ptr 0 0, .int .i64 l.l.length, .int .i64 q.length] [.cells (atC a)] = some (.int .i64 (posI (posA a r q.length)), [])
  | [], q, hq => by
    have hlen : l.l.length = q.length := by rw [hq]; simp
    have e1 : ¬ (q.length : Int) < l.l.length := by omega
    have hA : V.rbs 1 (atC a) = true := Qdc
    rw [u_Z1i_0]
    unfold posA posI
    generalize atC a = A at *
    simp +contextual -implicitDefEqProofs (disch := first | assumption | omega | (simp -implicitDefEqProofs only [go_sem]; try omega)) only [↓reduceIte, go_sem, iP, iN, w64, w8, w32, b_Z1i_0, e1]
  | b :: r, q, hq => by
    have hlen : l.l.length = q.length + r.length + 1 := by rw [hq]; simp; omega
    have e1 : (q.length : Int) < l.l.length := by omega
    have i1 : eI 7 (.int .i64 q.length) (vSl vAtm l) = some (.eptr (atC b) 0) := Qaz (f := vAtm) hq rfl rfl
    have i2 : eL [.cells (atC a)] true 7 (.eptr (atC b) 0) = some (.agg (atC b)) := Qdb rfl Qge
    have i3 : eL [.cells (atC a)] true 7 (.ptr 0 0) = some (.agg (atC a)) := Qbt rfl rfl Qge
    have i4 := Wbv (a := a) (b := b)
    have hA : V.rbs 1 (atC a) = true := Qdc
    have f1 : ∀ k σ, fz k σ fzD (vSl vAtm l) = some (vSl vAtm l) := fun k σ => Qaw (Qaj fun n x => Qe8)
    have ih := Wbw l a hl r (q ++ [b]) (by rw [hq]; simp)
    rw [show ((q ++ [b]).length : Int) = q.length + 1 by simp, show (q ++ [b]).length = q.length + 1 by simp] at ih
    rw [u_Z1i_0]
    unfold posA
    by_cases c : a = b
    · rw [decide_eq_true c] at i4
      rw [if_pos c]
      unfold posI
      clear ih c
      generalize atC a = A at *
      generalize atC b = B at *
      simp +contextual -implicitDefEqProofs (disch := first | assumption | omega | (simp -implicitDefEqProofs only [go_sem]; try omega)) only [↓reduceIte, go_sem, iP, iN, w64, w8, w32, b_Z1i_0, e1, i1, i2, i3, i4]
    · rw [decide_eq_false c] at i4
      rw [if_neg c]
      clear c
      generalize posA a r (q.length + 1) = P at *
      generalize atC a = A at *
      generalize atC b = B at *
      simp +contextual -implicitDefEqProofs (disch := first | assumption | omega | (simp -implicitDefEqProofs only [go_sem]; try omega)) only [↓reduceIte, go_sem, iP, iN, w64, w8, w32, b_Z1i_0, e1, i1, i2, i3, i4, f1, Qak, ih]
theorem Wai (l : Sl Atm) (a : Atm) (hl : l.l.length ≤ 1000000000) (σ : Objs) (hσ : Wf σ) : E cx 145 [vSl vAtm l, .agg (atC a)] σ = some (.int .i64 (posI (posA a l.l 0)), σ) := by
  refine Qcm Qci ?_ (by simp only [Qaf, Qa9, Qdc, Qaj (fun n x => Qe8 (n := n) (a := x))]; rfl) rfl σ hσ
  have h := Wbw l a hl l.l [] rfl
  have h' : l_Z1i_0 (Mi cx) 0 1 [vSl vAtm l, .ptr 0 0, .int .i64 l.l.length, .int .i64 0] [.cells (atC a)] = some (.int .i64 (posI (posA a l.l 0)), []) := h
  have h1 : boxV [] (.agg (atC a)) = some (.ptr 0 0, [.cells (atC a)]) := Qbc Qov Qge
  have f1 : ∀ k σ, fz k σ fzD (vSl vAtm l) = some (vSl vAtm l) := fun k σ => Qaw (Qaj fun n x => Qe8)
  clear h
  rw [e_Z1i]
  generalize posA a l.l 0 = P at *
  generalize atC a = A at *
  simp +contextual -implicitDefEqProofs (disch := first | assumption | omega | (simp -implicitDefEqProofs only [go_sem]; try omega)) only [↓reduceIte, go_sem, iP, iN, w64, w8, w32, s_Z1i, h1, f1, Qak, h']
section
variable {n : Nms} {p : Pln} {X : V} (hX : V.rb 0 X = true)
theorem Qr7 {τ : Objs} : eL (.cells (mkC n p X) :: τ) false 1 (.ptr 0 4) = some (vSl vAtm (slo p.atoms)) := by
  show Option.map V.ng (some (vG vAtm 7 p.atoms)) = _
  rw [Qao, n_vG]
def mkA (n : Nms) (p : Pln) (X : V) : List V := (mkC n p X).set 4 (vSl vAtm (slo p.atoms))
theorem Waj {τ : Objs} : Qcv (.cells (mkC n p X) :: τ) (.ptr 0 4) = some (vG vAtm 7 p.atoms, .cells (mkA n p X) :: τ) := Qm3 rfl
theorem Wez {τ : Objs} {a : Atm} : stV (.cells (mkA n p X) :: τ) 1 (.ptr 0 4) (vSl vAtm (slo (p.atoms ++ [a]))) (vG vAtm 7 (p.atoms ++ [a])) = some (.undef, .cells (mkC n (addA p a) X) :: τ) := Wex (show 4 < 9 by decide)
theorem We0 {σ : Objs} {l : List Atm} {a : Atm} {c : Cap} (hl : l.length ≤ 1000000) : appV false true 7 80 σ (vG vAtm 7 l) (.sl [vAtm a] c) = some (vG vAtm 7 (l ++ [a])) := by
  refine Qkq (fun _ => rfl) (fun _ => Qov) (fun _ => rfl) ?_
  show _ ≤ _
  unfold Qbu
  omega
theorem Wh8 {a : Atm} : Qax true 7 1 (.agg [.int .i64 0, .bool false, .str [], .str [], .int .i64 0, .str [], .bool false]) [(0, .agg (atC a))] = some (.sl [.agg (atC a)] .fx) := rfl
include hX
theorem We1 (a : Atm) (hp : p.atoms.length ≤ 1000000) : E cx 101 [.ptr 0 0, .agg (atC a)] [.cells (mkC n p X)] = some (vT (Qbd p a).1, [.cells (mkC n (Qbd p a).2 X)]) := by
  have h1 : boxV [.cells (mkC n p X)] (.agg (atC a)) = some (.ptr 1 0, [.cells (mkC n p X), .cells (atC a)]) := Qbc Qov Qge
  have l0 : ∀ τ : Objs, eL (.cells (mkC n p X) :: τ) false 1 (.ptr 0 4) = some (vSl vAtm (slo p.atoms)) := fun τ => Qr7
  have l1 : ∀ (O1 : O) (τ : Objs), eL (O1 :: .cells (atC a) :: τ) true 7 (.ptr 1 0) = some (.agg (atC a)) := fun O1 τ => Qbt rfl rfl Qge
  have hw : Wf [.cells (mkC n p X), .cells (atC a), .cells [.int .i64 0, .int .i64 0, .nils]] := by
    refine Qb5 (Qae (Qar hX) (Qae Qdc (Qae rfl Qay)))
  have k1 := Wai (slo p.atoms) a (by rw [Qc3]; omega) _ hw
  rw [Qc3] at k1
  have l2 : ∀ τ : Objs, Qcv (.cells (mkC n p X) :: τ) (.ptr 0 4) = some (vG vAtm 7 p.atoms, .cells (mkA n p X) :: τ) := fun τ => Waj
  have b1 := Wh8 (a := a)
  have a1 : ∀ σ, appV false true 7 80 σ (vG vAtm 7 p.atoms) (.sl [.agg (atC a)] .no) = some (vG vAtm 7 (p.atoms ++ [a])) := fun σ => We0 hp
  have s1 : ∀ τ : Objs, stV (.cells (mkA n p X) :: τ) 1 (.ptr 0 4) (vSl vAtm (slo (p.atoms ++ [a]))) (vG vAtm 7 (p.atoms ++ [a])) = some (.undef, .cells (mkC n (addA p a) X) :: τ) := fun τ => Wez
  have l3 : ∀ τ : Objs, eL (.cells (mkC n (addA p a) X) :: τ) false 1 (.ptr 0 4) = some (vSl vAtm (slo (p.atoms ++ [a]))) := fun τ => Qr7
  have hM : V.rbs 1 (mkC n p X) = true := rbs0 (Qar hX)
  have hM' : V.rbs 1 (mkC n (addA p a) X) = true := rbs0 (Qar hX)
  have e1 : (slo (p.atoms ++ [a])).l.length = p.atoms.length + 1 := by rw [Qc3, List.length_append]; rfl
  rw [e_Z0]
  unfold Qbd
  cases c : posA a p.atoms 0 with
  | none =>
    rw [c] at k1
    unfold posI at k1
    rw [Wbu]
    generalize mkC n p X = M at *
    generalize mkC n (addA p a) X = M' at *
    generalize mkA n p X = MA at *
    generalize hAt : atC a = A at *
    have k2 : ((p.atoms.length + 1 : Nat) : Int) = (p.atoms.length : Int) + 1 := by omega
    simp +contextual -implicitDefEqProofs (disch := first | assumption | omega | (simp -implicitDefEqProofs only [go_sem]; try omega)) only [↓reduceIte, go_sem, iP, iN, w64, w8, w32, s_Z0, j_Z0_0, h1, l0, l1, k1, l2, b1, a1, s1, l3, n_vG, Qak, Qag, e1, k2, Int.add_sub_cancel]
  | some i =>
    rw [c] at k1
    unfold posI at k1
    rw [Wbu]
    generalize mkC n p X = M at *
    generalize hAt : atC a = A at *
    have k2 : ¬ ((i : Int) < 0) := by omega
    simp +contextual -implicitDefEqProofs (disch := first | assumption | omega | (simp -implicitDefEqProofs only [go_sem]; try omega)) only [↓reduceIte, go_sem, iP, iN, w64, w8, w32, s_Z0, j_Z0_0, h1, l0, l1, k1, k2, n_vG, Qak, Qag]
end
end Go.Proofs.YtapnplljnpconaaGreatDoor
namespace Go.Ev
section
variable {O1 : O} {cs : List V} {τ : Objs} {off : Nat}
theorem Wh9 {k : IntKind} {x : Int} (h2 : off + 1 ≤ cs.length) : stV (O1 :: .cells cs :: τ) 1 (.ptr 1 off) (.int k x) (.int k x) = some (.undef, O1 :: .cells (cs.set off (.int k x)) :: τ) := by
  show (if (V.int k x).cells.length = 1 ∧ off + 1 ≤ cs.length ∧ Qai (V.int k x).cells = true then _ else _) = _
  rw [if_pos ⟨rfl, h2, rfl⟩]; rfl
theorem Wia {x : List UInt8} (h2 : off + 1 ≤ cs.length) : stV (O1 :: .cells cs :: τ) 1 (.ptr 1 off) (.str x) (.str x) = some (.undef, O1 :: .cells (cs.set off (.str x)) :: τ) := by
  show (if (V.str x).cells.length = 1 ∧ off + 1 ≤ cs.length ∧ Qai (V.str x).cells = true then _ else _) = _
  rw [if_pos ⟨rfl, h2, rfl⟩]; rfl
theorem Wib {x : Bool} (h2 : off + 1 ≤ cs.length) : stV (O1 :: .cells cs :: τ) 1 (.ptr 1 off) (.bool x) (.bool x) = some (.undef, O1 :: .cells (cs.set off (.bool x)) :: τ) := by
  show (if (V.bool x).cells.length = 1 ∧ off + 1 ≤ cs.length ∧ Qai (V.bool x).cells = true then _ else _) = _
  rw [if_pos ⟨rfl, h2, rfl⟩]; rfl
theorem We2 {ag : Bool} {sz : Nat} {τ' : Objs} : Qgx [Qe5 ag sz (.ptr 0 off)] (.cells cs :: τ) (.cells cs :: τ') = some (.cells cs :: τ') := by
  have e : stable (.cells cs :: τ) (.cells cs :: τ') (.same false 0 off (if ag then sz else 1)) = true := by
    simp only [stable, Objs.get, List.getElem?_cons_zero, decide_true, Bool.true_and]
    rw [if_neg (by decide)]
    exact V.beqs_refl _
  show (if (stable (.cells cs :: τ) (.cells cs :: τ') (.same false 0 off (if ag then sz else 1)) && true) = true then some (O.cells cs :: τ') else none) = _
  rw [e]; rfl
end
attribute [go_sem] Wh9 Wia Wib We2
end Go.Ev
namespace Go.Proofs.YtapnplljnpconaaGreatDoor
open Go.Ev
set_option maxRecDepth 100000
set_option maxHeartbeats 4000000
def spT (n : Nms) (pre : List UInt8) : List UInt8 := if 0 ≤ idxS n.pres.l pre then n.spaces.l.getD (idxS n.pres.l pre).toNat [] else []
section
variable {n : Nms} (hn : NmB n)
include hn
theorem We3 (pre : List UInt8) (σ : Objs) (hσ : Wf σ) : ∃ b, E cx 146 [.agg (Qaa n), .str pre] σ = some (.tup [.str (spT n pre), .bool b], σ) := by
  have key : ∃ b, E cx 146 [.agg (Qaa n), .str pre] [] = some (.tup [.str (spT n pre), .bool b], []) := by
    have h1 : boxV [] (.agg (Qaa n)) = some (.ptr 0 0, [.cells (Qaa n)]) := Qbc ok_n no_n
    have hw : Wf [.cells (Qaa n)] := by rw [Qgk]; exact Qal
    have h2 : eL [.cells (Qaa n)] false 1 (.ptr 0 2) = some (Qc6 n.pres) := by
      show Option.map V.ng (some (Qc6 n.pres)) = _
      rw [Qao, Qak]
    have h3 : eL [.cells (Qaa n)] false 1 (.ptr 0 3) = some (Qc6 n.spaces) := by
      show Option.map V.ng (some (Qc6 n.spaces)) = _
      rw [Qao, Qak]
    have k1 := Qw4 n.pres pre (by have := hn.2.1; omega) _ hw
    unfold spT
    rw [e_Z17]
    generalize hi : idxS n.pres.l pre = i at *
    by_cases c1 : i < 0
    · refine ⟨false, ?_⟩
      have c1' : ¬ 0 ≤ i := by omega
      rw [if_neg c1']
      generalize Qaa n = N at *
      simp +contextual -implicitDefEqProofs (disch := first | assumption | omega | (simp -implicitDefEqProofs only [go_sem]; try omega)) only [↓reduceIte, go_sem, iP, iN, w64, w8, w32, s_Z17, h1, h2, k1, c1]
    · have c1' : 0 ≤ i := by omega
      rw [if_pos c1']
      refine ⟨true, ?_⟩
      by_cases c2 : (n.spaces.l.length : Int) ≤ i
      · have e1 : n.spaces.l.getD i.toNat [] = [] := by rw [List.getD_eq_getElem?_getD, List.getElem?_eq_none (by omega)]; rfl
        rw [e1]
        generalize Qaa n = N at *
        simp +contextual -implicitDefEqProofs (disch := first | assumption | omega | (simp -implicitDefEqProofs only [go_sem]; try omega)) only [↓reduceIte, go_sem, iP, iN, w64, w8, w32, s_Z17, h1, h2, h3, k1, c1, c2, Qak]
      · have hx := Qex (f := V.str) (s := n.spaces) (k := .i64) (i := i) (Qm1 (by omega) []) (by omega) (sz := 1) rfl
        generalize Qaa n = N at *
        simp +contextual -implicitDefEqProofs (disch := first | assumption | omega | (simp -implicitDefEqProofs only [go_sem]; try omega)) only [↓reduceIte, go_sem, iP, iN, w64, w8, w32, s_Z17, h1, h2, h3, k1, c1, c2, Qak, hx]
  obtain ⟨b, h⟩ := key
  exact ⟨b, Qcm Qci h (by simp only [Qaf, Qa9, Qal]; rfl) rfl σ hσ⟩
end
section
variable {α : Type} {v : α → V} (hv : ∀ n x, V.rb n (v x) = true) {n : Nms} (hn : NmB n) {p : Pln} {X : V} (hX : V.rb 0 X = true)
include hX
theorem Wic (a : Atm) (hp : p.atoms.length ≤ 1000000) (τ : Objs) (hτ : Cl0 τ) : E cx 101 [.ptr 0 0, .agg (atC a)] (.cells (mkC n p X) :: τ) = some (vT (Qbd p a).1, .cells (mkC n (Qbd p a).2 X) :: τ) :=
  E_on (We1 hX a hp) (by simp only [Qaf, Qa9, Qdc]; rfl) (Qar hX) (Qar hX) (Qg2 _) τ hτ
include hv hn
theorem Qxp (a : Atm) (s : Sm α) : E cx 102 [.ptr 0 0, .agg (atC a), .agg (smC v s)] [.cells (mkC n p X)] = some (.agg (atC (Qe9 n a s.ns s.pre)), [.cells (mkC n p X)]) := by
  have h1 : boxV [.cells (mkC n p X)] (.agg (atC a)) = some (.ptr 1 0, [.cells (mkC n p X), .cells (atC a)]) := Qbc Qov Qge
  have h2 : boxV [.cells (mkC n p X), .cells (atC a)] (.agg (smC v s)) = some (.ptr 2 0, [.cells (mkC n p X), .cells (atC a), .cells (smC v s)]) := Qbc Qkm Qen
  have l1 : ∀ τ : Objs, eL (.cells (mkC n p X) :: τ) false 1 (.ptr 0 0) = some (.bool n.has) := fun τ => rfl
  have l2 : ∀ τ : Objs, eL (.cells (mkC n p X) :: τ) false 1 (.ptr 0 1) = some (.str n.dflt) := fun τ => rfl
  have l3 : ∀ τ : Objs, eL (.cells (mkC n p X) :: τ) true 4 (.ptr 0 0) = some (.agg (Qaa n)) := fun τ => by
    show Ev.part true 4 (Qaa n ++ _) 0 = _
    unfold Ev.part
    rw [if_pos rfl, if_pos (by simp [Qaa]), List.drop_zero]
    show some (V.agg ((Qaa n).map V.ng)) = _
    rw [no_n]
  have l4 : ∀ (O1 : O) (τ : Objs), eL (.cells (mkC n p X) :: O1 :: .cells (smC v s) :: τ) false 1 (.ptr 2 1) = some (.int .i64 s.ns) := fun O1 τ => rfl
  have l5 : ∀ (O1 : O) (τ : Objs), eL (.cells (mkC n p X) :: O1 :: .cells (smC v s) :: τ) false 1 (.ptr 2 2) = some (.str s.pre) := fun O1 τ => rfl
  have hM : V.rbs 1 (mkC n p X) = true := rbs0 (Qar hX)
  have hw : ∀ cs, V.rbs 0 cs = true → Wf [.cells (mkC n p X), .cells cs, .cells (smC v s), .cells [.int .i64 0, .bool false, .str [], .str [], .int .i64 0, .str [], .bool false]] := fun cs hc =>
    Qb5 (Qae (Qar hX) (Qae hc (Qae (Qb2 hv) (Qae rfl Qay))))
  obtain ⟨b, k1⟩ := We3 hn s.pre _ (hw (atC { a with has := true }) Qdc)
  rw [e_Z8]
  unfold Qe9
  have hsp : (if 0 ≤ idxS n.pres.l s.pre then n.spaces.l.getD (idxS n.pres.l s.pre).toNat [] else []) = spT n s.pre := rfl
  rw [hsp]
  generalize mkC n p X = M at *
  generalize hS : smC v s = S at *
  generalize Qaa n = N at *
  clear hS
  obtain ⟨a1, a2, a3, a4, a5, a6, a7⟩ := a
  unfold atC at *
  simp only at *
  by_cases c1 : s.ns = 0
  · rw [c1] at l4
    rw [if_pos c1]
    cases c4 : n.has <;> rw [c4] at l1 <;> simp +contextual -implicitDefEqProofs (disch := first | assumption | omega | (simp -implicitDefEqProofs only [go_sem]; try omega)) only [↓reduceIte, go_sem, iP, iN, w64, w8, w32, s_Z8, j_Z8_0, j_Z8_1, h1, h2, l1, l2, l4]
  rw [if_neg c1]
  by_cases c2 : s.ns = 2
  · rw [c2] at l4
    rw [if_pos c2]
    simp +contextual -implicitDefEqProofs (disch := first | assumption | omega | (simp -implicitDefEqProofs only [go_sem]; try omega)) only [↓reduceIte, go_sem, iP, iN, w64, w8, w32, s_Z8, j_Z8_0, j_Z8_1, h1, h2, l4]
  rw [if_neg c2]
  by_cases c3 : s.ns = 3
  · rw [c3] at l4
    rw [if_pos c3]
    simp +contextual -implicitDefEqProofs (disch := first | assumption | omega | (simp -implicitDefEqProofs only [go_sem]; try omega)) only [↓reduceIte, go_sem, iP, iN, w64, w8, w32, s_Z8, j_Z8_0, j_Z8_1, h1, h2, l3, l4, l5, k1]
  rw [if_neg c3]
  generalize s.ns = ns at *
  cases a2 <;> simp +contextual -implicitDefEqProofs (disch := first | assumption | omega | (simp -implicitDefEqProofs only [go_sem]; try omega)) only [↓reduceIte, go_sem, iP, iN, w64, w8, w32, s_Z8, j_Z8_0, j_Z8_1, h1, h2, l4, c1, c2, c3]
end
end Go.Proofs.YtapnplljnpconaaGreatDoor
namespace Go.Proofs.YtapnplljnpconaaGreatDoor
open Go.Ev
set_option maxRecDepth 100000
set_option maxHeartbeats 4000000
theorem Qox {cs : List V} {z : V} {sz : Nat} (h : cs.length = sz) (ok : Qai cs = true) : Qax true sz 1 z [(0, .agg cs)] = some (.sl [.agg cs] .fx) := by
  have e : Qcy true sz [.agg cs] = true := by
    unfold Qcy
    simp [Qbz, h, ok, agOk]
  unfold Qax Qc7
  rw [if_pos ⟨h, by simp, ok⟩]
  show (if Qcy true sz [.agg cs] = true then some (V.sl [.agg cs] .fx) else none) = _
  rw [e, if_pos rfl]
theorem Wid {cs ds : List V} {z : V} {sz : Nat} (h : cs.length = sz) (ok : Qai cs = true) (h' : ds.length = sz) (ok' : Qai ds = true) : Qax true sz 2 z [(0, .agg cs), (1, .agg ds)] = some (.sl [.agg cs, .agg ds] .fx) := by
  have e : Qcy true sz [.agg cs, .agg ds] = true := by
    unfold Qcy
    simp [Qbz, h, ok, h', ok', agOk]
  unfold Qax Qc7
  rw [if_pos ⟨h, by simp, ok⟩]
  unfold Qc7
  rw [if_pos ⟨h', by simp, ok'⟩]
  show (if Qcy true sz [.agg cs, .agg ds] = true then some (V.sl [.agg cs, .agg ds] .fx) else none) = _
  rw [e, if_pos rfl]
theorem Qxq {t : Trm} : List.map V.ng (List.take 3 (tmC t)) = tmC t := by rw [List.take_of_length_le (by rw [Qd4]; decide), Qkt]
theorem Qk6 {n : Nat} {t : Trm} : V.rb n (.agg (tmC t)) = true := by rw [Qa9]; exact Qez
def notT (t : Trm) : Trm := .mk 3 0 [t]
def anyT (l : List Trm) : Trm := .mk 4 0 l
theorem Wak (t : Trm) (σ : Objs) (hσ : Wf σ) : E cx 104 [.agg (tmC t)] σ = some (.agg (tmC (notT t)), σ) := by
  refine Qcm Qci ?_ (by simp only [Qaf, Qa9, Qez]; rfl) (by rw [Qa9]; exact Qez) σ hσ
  have h1 : boxV [] (.agg (tmC t)) = some (.ptr 0 0, [.cells (tmC t)]) := Qbc Qks Qkt
  have h2 : ∀ τ : Objs, eL (.cells (tmC t) :: τ) true 3 (.ptr 0 0) = some (.agg (tmC t)) := fun τ => Qbt rfl Qd4 Qkt
  have h3 : Qax true 3 1 (.agg [.int .i64 0, .int .i64 0, .nils]) [(0, .agg (tmC t))] = some (.sl [.agg (tmC t)] .fx) := Qox Qd4 Qks
  have h4 : tmC (notT t) = [.int .i64 3, .int .i64 0, .sl [.agg (tmC t)] .no] := by
    show [V.int .i64 3, .int .i64 0, V.sl [vT t] .no] = _
    rw [Qkr]
  have h5 := Qk6 (n := 0) (t := notT t)
  rw [h4] at h5
  rw [e_Z12, h4]
  generalize tmC t = T at *
  simp +contextual -implicitDefEqProofs (disch := first | assumption | omega | (simp -implicitDefEqProofs only [go_sem]; try omega)) only [↓reduceIte, go_sem, iP, iN, w64, w8, w32, s_Z12, h1, h2, h3]
theorem Qqc (l : List Trm) (σ : Objs) (hσ : Wf σ) : E cx 147 [vSl vT (slo l)] σ = some (.agg (tmC (anyT l)), σ) := by
  have hr : ∀ n, V.rb n (vSl vT (slo l)) = true := fun n => Qaj fun n x => Qg2 x
  refine Qcm Qci ?_ (by simp only [Qaf, hr]; rfl) (by rw [Qa9]; exact Qez) σ hσ
  have h4 : tmC (anyT l) = [.int .i64 4, .int .i64 0, vSl vT (slo l)] := rfl
  have h5 := Qk6 (n := 0) (t := anyT l)
  rw [h4] at h5
  rw [e_Z11, h4]
  simp +contextual -implicitDefEqProofs (disch := first | assumption | omega | (simp -implicitDefEqProofs only [go_sem]; try omega)) only [↓reduceIte, go_sem, iP, iN, w64, w8, w32, s_Z11, Qak]
def elA (n : Nms) (ns : Int) (pre name : List UInt8) : Atm := Qe9 n ⟨1, false, [], name, 0, [], false⟩ ns pre
def Qa7 (n : Nms) (p : Pln) (ns : Int) (pre name : List UInt8) : Trm × Pln :=
  if (elA n ns pre name).name = [] ∧ (elA n ns pre name).has = false then (.mk 7 0 [], p) else Qbd p (elA n ns pre name)
def atA (name : List UInt8) (op : Int) (text : List UInt8) : Atm := ⟨2, true, [], name, op, text, false⟩
def Qil (p : Pln) (name : List UInt8) (op : Int) (text : List UInt8) : Trm × Pln := Qbd p (atA name op text)
def Qk7 (n : Nms) (p : Pln) : Trm × Pln :=
  let a := Qa7 n p 0 [] [97]
  let b := Qa7 n a.2 0 [] [97, 114, 101, 97]
  let c := Qil b.2 [104, 114, 101, 102] 1 []
  (notT (anyT [notT (anyT [a.1, b.1]), notT c.1]), c.2)
theorem Wbx {a : Atm} : ∀ (l : List Atm) (i j : Nat), posA a l i = some j → i ≤ j ∧ j < i + l.length
  | [], i, j, h => by cases h
  | b :: r, i, j, h => by
    unfold posA at h
    split at h
    · cases h
      rw [List.length_cons]; omega
    · have := Wbx r (i + 1) j h
      rw [List.length_cons]; omega
theorem Qr8 {p : Pln} {a : Atm} : (Qbd p a).2.atoms.length ≤ p.atoms.length + 1 := by
  unfold Qbd
  split
  · show p.atoms.length ≤ _; omega
  · show (p.atoms ++ [a]).length ≤ _; simp
theorem Qku {n : Nms} {p : Pln} {ns : Int} {pre name : List UInt8} : (Qa7 n p ns pre name).2.atoms.length ≤ p.atoms.length + 1 := by
  unfold Qa7
  split
  · show p.atoms.length ≤ _; omega
  · exact Qr8
section
variable {α : Type} {v : α → V} (hv : ∀ n x, V.rb n (v x) = true) {n : Nms} (hn : NmB n) {p : Pln} {X : V} (hX : V.rb 0 X = true)
include hX
theorem Qm5 (a : Atm) (hp : p.atoms.length ≤ 1000000) (τ : Objs) (hτ : Cl0 τ) : E cx 101 [.ptr 0 0, .agg (atC a)] (.cells (mkC n p X) :: τ) = some (.agg (tmC (Qbd p a).1), .cells (mkC n (Qbd p a).2 X) :: τ) := by
  rw [← Qkr]
  exact Wic hX a hp τ hτ
theorem Qg4 (name : List UInt8) (op : Int) (text : List UInt8) (hp : p.atoms.length ≤ 1000000) (τ : Objs) (hτ : Cl0 τ) :
    E cx 100 [.ptr 0 0, .str name, .int .i64 op, .str text] (.cells (mkC n p X) :: τ) = some (.agg (tmC (Qil p name op text).1), .cells (mkC n (Qil p name op text).2 X) :: τ) := by
  refine E_on ?_ rfl (Qar hX) (Qar hX) (by rw [Qa9]; exact Qez) τ hτ
  unfold Qil
  have k1 := Qm5 (n := n) hX (atA name op text) hp [.cells [.int .i64 0, .int .i64 0, .nils]] (Qae rfl Qay)
  have k1' : E cx 101 [.ptr 0 0, .agg [.int .i64 2, .bool true, .str [], .str name, .int .i64 op, .str text, .bool false]] [.cells (mkC n p X), .cells [.int .i64 0, .int .i64 0, .nils]] = _ := k1
  clear k1
  have hM' : V.rbs 1 (mkC n (Qbd p (atA name op text)).2 X) = true := rbs0 (Qar hX)
  have t1 : (tmC (Qbd p (atA name op text)).1).length = 3 := Qd4
  have t2 : Qai (tmC (Qbd p (atA name op text)).1) = true := Qks
  have t3 : (tmC (Qbd p (atA name op text)).1).map V.ng = tmC (Qbd p (atA name op text)).1 := Qkt
  have t4 : V.rb 1 (.agg (tmC (Qbd p (atA name op text)).1)) = true := Qk6
  have t5 := Qxq (t := (Qbd p (atA name op text)).1)
  rw [e_Z1]
  generalize tmC (Qbd p (atA name op text)).1 = T at *
  generalize mkC n p X = M at *
  generalize mkC n (Qbd p (atA name op text)).2 X = M' at *
  simp +contextual -implicitDefEqProofs (disch := first | assumption | omega | (simp -implicitDefEqProofs only [go_sem]; try omega)) only [↓reduceIte, go_sem, iP, iN, w64, w8, w32, s_Z1, k1', t5]
include hv hn
theorem Qr9 (a : Atm) (s : Sm α) (τ : Objs) (hτ : Cl0 τ) : E cx 102 [.ptr 0 0, .agg (atC a), .agg (smC v s)] (.cells (mkC n p X) :: τ) = some (.agg (atC (Qe9 n a s.ns s.pre)), .cells (mkC n p X) :: τ) :=
  E_on (Qxp hv hn hX a s) (by simp only [Qaf, Qa9, Qdc, Qb2 hv]; rfl) (Qar hX) (Qar hX) (by rw [Qa9]; exact Qdc) τ hτ
theorem Qkv (s : Sm α) (hp : p.atoms.length ≤ 1000000) (τ : Objs) (hτ : Cl0 τ) :
    E cx 99 [.ptr 0 0, .agg (smC v s)] (.cells (mkC n p X) :: τ) = some (.agg (tmC (Qa7 n p s.ns s.pre s.name).1), .cells (mkC n (Qa7 n p s.ns s.pre s.name).2 X) :: τ) := by
  refine E_on ?_ (by simp only [Qaf, Qa9, Qb2 hv]; rfl) (Qar hX) (Qar hX) (by rw [Qa9]; exact Qez) τ hτ
  have h1 : boxV [.cells (mkC n p X)] (.agg (smC v s)) = some (.ptr 1 0, [.cells (mkC n p X), .cells (smC v s)]) := Qbc Qkm Qen
  have l1 : ∀ (O1 : O) (τ : Objs), eL (O1 :: .cells (smC v s) :: τ) false 1 (.ptr 1 3) = some (.str s.name) := fun O1 τ => rfl
  have l2 : ∀ (O1 : O) (τ : Objs), eL (O1 :: .cells (smC v s) :: τ) true 11 (.ptr 1 0) = some (.agg (smC v s)) := fun O1 τ => Qbt rfl rfl Qen
  have k1 := Qr9 hv hn (p := p) hX ⟨1, false, [], s.name, 0, [], false⟩ s [.cells (smC v s), .cells [.int .i64 0, .int .i64 0, .nils]] (Qae (Qb2 hv) (Qae rfl Qay))
  have k1' : E cx 102 [.ptr 0 0, .agg [.int .i64 1, .bool false, .str [], .str s.name, .int .i64 0, .str [], .bool false], .agg (smC v s)] [.cells (mkC n p X), .cells (smC v s), .cells [.int .i64 0, .int .i64 0, .nils]] = some (.agg (atC (elA n s.ns s.pre s.name)), [.cells (mkC n p X), .cells (smC v s), .cells [.int .i64 0, .int .i64 0, .nils]]) := k1
  clear k1
  have hM : V.rbs 1 (mkC n p X) = true := rbs0 (Qar hX)
  rw [e_Z3]
  unfold Qa7
  generalize hA : elA n s.ns s.pre s.name = A at *
  have a1 : (atC A).length = 7 := rfl
  have a2 : Qai (atC A) = true := Qov
  have a3 : (atC A).map V.ng = atC A := Qge
  have a4 : ∀ n, V.rbs n (atC A) = true := fun n => Qdc
  have l3 : ∀ (O1 O2 O3 : O) (τ : Objs), eL (O1 :: O2 :: O3 :: .cells (atC A) :: τ) false 1 (.ptr 3 3) = some (.str A.name) := fun O1 O2 O3 τ => rfl
  have l4 : ∀ (O1 O2 O3 : O) (τ : Objs), eL (O1 :: O2 :: O3 :: .cells (atC A) :: τ) false 1 (.ptr 3 1) = some (.bool A.has) := fun O1 O2 O3 τ => rfl
  have l5 : ∀ (O1 O2 O3 : O) (τ : Objs), eL (O1 :: O2 :: O3 :: .cells (atC A) :: τ) true 7 (.ptr 3 0) = some (.agg (atC A)) := fun O1 O2 O3 τ => Qbt rfl rfl Qge
  have k2 := Qm5 (n := n) hX A hp [.cells (smC v s), .cells [.int .i64 0, .int .i64 0, .nils], .cells (atC A)] (Qae (Qb2 hv) (Qae rfl (Qae Qdc Qay)))
  have hM' : V.rbs 1 (mkC n (Qbd p A).2 X) = true := rbs0 (Qar hX)
  have t1 : (tmC (Qbd p A).1).length = 3 := Qd4
  have t2 : Qai (tmC (Qbd p A).1) = true := Qks
  have t3 : (tmC (Qbd p A).1).map V.ng = tmC (Qbd p A).1 := Qkt
  have t4 : V.rb 1 (.agg (tmC (Qbd p A).1)) = true := Qk6
  have t5 := Qxq (t := (Qbd p A).1)
  generalize smC v s = S at *
  generalize A.name = an at *
  generalize A.has = ah at *
  by_cases c1 : an = []
  · subst c1
    cases ah with
    | false =>
      rw [if_pos ⟨rfl, rfl⟩]
      have e1 : tmC (.mk 7 0 []) = [.int .i64 7, .int .i64 0, .nils] := rfl
      rw [e1]
      clear k2
      generalize mkC n p X = M at *
      generalize atC A = AC at *
      simp +contextual -implicitDefEqProofs (disch := first | assumption | omega | (simp -implicitDefEqProofs only [go_sem]; try omega)) only [↓reduceIte, go_sem, iP, iN, w64, w8, w32, s_Z3, h1, l1, l2, l3, l4, l5, k1']
    | true =>
      rw [if_neg (by simp)]
      generalize tmC (Qbd p A).1 = T at *
      generalize mkC n p X = M at *
      generalize mkC n (Qbd p A).2 X = M' at *
      generalize atC A = AC at *
      simp +contextual -implicitDefEqProofs (disch := first | assumption | omega | (simp -implicitDefEqProofs only [go_sem]; try omega)) only [↓reduceIte, go_sem, iP, iN, w64, w8, w32, s_Z3, h1, l1, l2, l3, l4, l5, k1', k2, t5]
  · rw [if_neg (by simp [c1])]
    generalize tmC (Qbd p A).1 = T at *
    generalize mkC n p X = M at *
    generalize mkC n (Qbd p A).2 X = M' at *
    generalize atC A = AC at *
    simp +contextual -implicitDefEqProofs (disch := first | assumption | omega | (simp -implicitDefEqProofs only [go_sem]; try omega)) only [↓reduceIte, go_sem, iP, iN, w64, w8, w32, s_Z3, h1, l1, l2, l3, l4, l5, k1', k2, t5, c1]
omit hv in
theorem Wie (hp : p.atoms.length ≤ 999990) (τ : Objs) (hτ : Cl0 τ) :
    E cx 106 [.ptr 0 0] (.cells (mkC n p X) :: τ) = some (.agg (tmC (Qk7 n p).1), .cells (mkC n (Qk7 n p).2 X) :: τ) := by
  refine E_on ?_ rfl (Qar hX) (Qar hX) (by rw [Qa9]; exact Qez) τ hτ
  have hv0 : ∀ n x, V.rb n (vCx 0 x) = true := Qkd 0
  have z : V.rbs 0 [.int .i64 0, .int .i64 0, .nils] = true := rfl
  have zt : ∀ {t : Trm}, V.rbs 0 (tmC t) = true := fun {t} => Qez
  have k1 : E cx 99 [.ptr 0 0, .agg [.int .i64 0, .int .i64 0, .str [], .str [97], .int .i64 0, .str [], .bool false, .int .i64 0, .int .i64 0, .int .i64 0, .nils]] [.cells (mkC n p X), .cells [.int .i64 0, .int .i64 0, .nils]] = some (.agg (tmC (Qa7 n p 0 [] [97]).1), [.cells (mkC n (Qa7 n p 0 [] [97]).2 X), .cells [.int .i64 0, .int .i64 0, .nils]]) :=
    Qkv hv0 hn hX ⟨0, 0, [], [97], 0, [], false, 0, 0, 0, .nil⟩ (by omega) _ (Qae z Qay)
  have q1 := Qku (n := n) (p := p) (ns := 0) (pre := []) (name := [97])
  unfold Qk7
  simp only
  generalize Qa7 n p 0 [] [97] = a at *
  have k2 : E cx 99 [.ptr 0 0, .agg [.int .i64 0, .int .i64 0, .str [], .str [97, 114, 101, 97], .int .i64 0, .str [], .bool false, .int .i64 0, .int .i64 0, .int .i64 0, .nils]] [.cells (mkC n a.2 X), .cells [.int .i64 0, .int .i64 0, .nils]] = some (.agg (tmC (Qa7 n a.2 0 [] [97, 114, 101, 97]).1), [.cells (mkC n (Qa7 n a.2 0 [] [97, 114, 101, 97]).2 X), .cells [.int .i64 0, .int .i64 0, .nils]]) :=
    Qkv hv0 hn hX ⟨0, 0, [], [97, 114, 101, 97], 0, [], false, 0, 0, 0, .nil⟩ (by omega) _ (Qae z Qay)
  have q2 := Qku (n := n) (p := a.2) (ns := 0) (pre := []) (name := [97, 114, 101, 97])
  generalize Qa7 n a.2 0 [] [97, 114, 101, 97] = b at *
  have k3 := Qg4 (n := n) (p := b.2) hX [104, 114, 101, 102] 1 [] (by omega) [.cells [.int .i64 0, .int .i64 0, .nils], .cells (tmC (anyT [a.1, b.1]))] (Qae z (Qae zt Qay))
  generalize Qil b.2 [104, 114, 101, 102] 1 [] = c at *
  have hw : Wf [.cells (mkC n b.2 X), .cells [.int .i64 0, .int .i64 0, .nils]] := Qb5 (Qae (Qar hX) (Qae z Qay))
  have hw2 : Wf [.cells (mkC n c.2 X), .cells [.int .i64 0, .int .i64 0, .nils], .cells (tmC (anyT [a.1, b.1])), .cells (tmC c.1)] := Qb5 (Qae (Qar hX) (Qae z (Qae zt (Qae zt Qay))))
  have bf : ∀ t u : Trm, Qax true 3 2 (.agg [.int .i64 0, .int .i64 0, .nils]) [(0, .agg (tmC t)), (1, .agg (tmC u))] = some (.sl [.agg (tmC t), .agg (tmC u)] .fx) := fun t u => Wid Qd4 Qks Qd4 Qks
  have sl2 : ∀ t u : Trm, V.sl [.agg (tmC t), .agg (tmC u)] .no = vSl vT (slo [t, u]) := fun t u => by
    rw [← Qkr, ← Qkr]; rfl
  have k4 : E cx 147 [.sl [.agg (tmC a.1), .agg (tmC b.1)] .no] [.cells (mkC n b.2 X), .cells [.int .i64 0, .int .i64 0, .nils]] = some (.agg (tmC (anyT [a.1, b.1])), [.cells (mkC n b.2 X), .cells [.int .i64 0, .int .i64 0, .nils]]) := by
    rw [sl2]; exact Qqc [a.1, b.1] _ hw
  have k5 := Wak (anyT [a.1, b.1]) _ hw2
  have k6 := Wak c.1 _ hw2
  have k7 : E cx 147 [.sl [.agg (tmC (notT (anyT [a.1, b.1]))), .agg (tmC (notT c.1))] .no] [.cells (mkC n c.2 X), .cells [.int .i64 0, .int .i64 0, .nils], .cells (tmC (anyT [a.1, b.1])), .cells (tmC c.1)] = some (.agg (tmC (anyT [notT (anyT [a.1, b.1]), notT c.1])), [.cells (mkC n c.2 X), .cells [.int .i64 0, .int .i64 0, .nils], .cells (tmC (anyT [a.1, b.1])), .cells (tmC c.1)]) := by
    rw [sl2]; exact Qqc _ _ hw2
  have k8 := Wak (anyT [notT (anyT [a.1, b.1]), notT c.1]) _ hw2
  have hM : V.rbs 1 (mkC n c.2 X) = true := rbs0 (Qar hX)
  have bf1 := bf a.1 b.1
  have bf2 := bf (notT (anyT [a.1, b.1])) (notT c.1)
  have L : ∀ t : Trm, (tmC t).length = 3 := fun t => Qd4
  have OK : ∀ t : Trm, Qai (tmC t) = true := fun t => Qks
  have NO : ∀ t : Trm, (tmC t).map V.ng = tmC t := fun t => Qkt
  have RB : ∀ (t : Trm), V.rb 1 (.agg (tmC t)) = true := fun t => Qk6
  have MT : ∀ (t : Trm), List.map V.ng (List.take 3 (tmC t)) = tmC t := fun t => Qxq
  have l1 : ∀ (O1 O2 : O) (τ : Objs), eL (O1 :: O2 :: .cells (tmC (anyT [a.1, b.1])) :: τ) true 3 (.ptr 2 0) = some (.agg (tmC (anyT [a.1, b.1]))) := fun O1 O2 τ => Qbt rfl Qd4 Qkt
  have l2 : ∀ (O1 O2 O3 : O) (τ : Objs), eL (O1 :: O2 :: O3 :: .cells (tmC c.1) :: τ) true 3 (.ptr 3 0) = some (.agg (tmC c.1)) := fun O1 O2 O3 τ => Qbt rfl Qd4 Qkt
  have op : Qgx [Qe5 true 3 (.ptr 3 0)] [.cells (mkC n c.2 X), .cells [.int .i64 0, .int .i64 0, .nils], .cells (tmC (anyT [a.1, b.1])), .cells (tmC c.1)] [.cells (mkC n c.2 X), .cells [.int .i64 0, .int .i64 0, .nils], .cells (tmC (anyT [a.1, b.1])), .cells (tmC c.1)] = some [.cells (mkC n c.2 X), .cells [.int .i64 0, .int .i64 0, .nils], .cells (tmC (anyT [a.1, b.1])), .cells (tmC c.1)] := Qxd rfl
  rw [e_Z4]
  clear hw hw2 bf sl2 q1 q2
  generalize anyT [notT (anyT [a.1, b.1]), notT c.1] = t5 at *
  generalize anyT [a.1, b.1] = t1 at *
  generalize notT t1 = t2 at *
  generalize notT c.1 = t4 at *
  generalize notT t5 = t6 at *
  have RB6 := RB t6
  have L6 := L t6
  have O6 := OK t6
  have N6 := NO t6
  have L1 := L t1
  have O1 := OK t1
  have N1 := NO t1
  have L3 := L c.1
  have O3 := OK c.1
  have N3 := NO c.1
  generalize mkC n p X = M0 at *
  generalize mkC n a.2 X = M1 at *
  generalize mkC n b.2 X = M2 at *
  generalize mkC n c.2 X = M3 at *
  simp +contextual -implicitDefEqProofs (disch := first | assumption | omega | (simp -implicitDefEqProofs only [go_sem]; try omega)) only [↓reduceIte, go_sem, iP, iN, w64, w8, w32, s_Z4, k1, k2, k3, k4, k5, k6, k7, k8, bf1, bf2, MT, l1, l2, op]
end
end Go.Proofs.YtapnplljnpconaaGreatDoor
namespace Go.Ev
def vK {α : Type} (f : α → V) : List α → V
  | [] => .nils
  | x :: r => .sl ((x :: r).map f) .lk
section
variable {α : Type} {f : α → V} {sz : Nat} {l : List α} {φ φ' ψ ψ' : Objs} {cs : List V} {o off : Nat}
theorem Wal {n : Nat} (h : ∀ x, V.rb n (f x) = true) : V.rb n (vK f l) = true := by
  cases l with
  | nil => rfl
  | cons x r => exact Qoe (s := .row (x :: r)) fun y _ => h y
theorem Qfa (ho : φ.length = o) : Objs.get (φ ++ .cells cs :: ψ) o = some cs := by
  subst ho
  unfold Objs.get
  rw [List.getElem?_append_right (Nat.le_refl _), Nat.sub_self]
  rfl
theorem Qlu {ds : List V} (ho : φ.length = o) : (φ ++ O.cells cs :: ψ).set o (.cells ds) = φ ++ .cells ds :: ψ := by
  subst ho
  rw [List.set_append_right _ _ (Nat.le_refl _), Nat.sub_self]
  rfl
theorem Qm6 (ho : φ.length = o) (h : cs[off]? = some (vG f sz l)) : Qcv (φ ++ .cells cs :: ψ) (.ptr o off) = some (vG f sz l, φ ++ .cells (cs.set off (vSl f (slo l))) :: ψ) := by
  have e : Qcv (φ ++ .cells cs :: ψ) (.ptr o off) = match vG f sz l with
    | .sl xs (.gr s) => some (.sl xs (.gr s), (φ ++ .cells cs :: ψ).set o (.cells (cs.set off (.sl xs .no))))
    | .sl _ .lk => none
    | v => some (v, φ ++ .cells cs :: ψ) := by
    unfold Qcv
    simp only [Qfa ho, h, Option.bind_eq_bind, Option.bind_some]
    cases l <;> rfl
  rw [e]
  cases l with
  | nil =>
    show some (V.nils, φ ++ .cells cs :: ψ) = some (V.nils, φ ++ O.cells (cs.set off .nils) :: ψ)
    have : cs.set off .nils = cs := by
      obtain ⟨hl, e⟩ := List.getElem?_eq_some_iff.1 h
      rw [← show cs[off] = V.nils from e]
      exact List.set_getElem_self _
    rw [this]
  | cons x r =>
    show some (V.sl _ _, (φ ++ .cells cs :: ψ).set o _) = _
    rw [Qlu ho]; rfl
theorem We4 (ho : φ.length = o) (h : off < cs.length) : stV (φ ++ .cells cs :: ψ) 1 (.ptr o off) (vSl f (slo l)) (vG f sz l) = some (.undef, φ ++ .cells (cs.set off (vG f sz l)) :: ψ) := by
  have h' : off + 1 ≤ cs.length := h
  unfold stV
  simp only [Qfa ho, Option.bind_eq_bind, Option.bind_some, Qcp]
  rw [if_pos ⟨rfl, h', by rw [Qcf, Qc2]; rfl⟩]
  cases l with
  | nil =>
    show some (V.undef, (φ ++ .cells cs :: ψ).set o _) = _
    rw [Qlu ho]
  | cons x r =>
    show some (V.undef, (φ ++ .cells cs :: ψ).set o _) = _
    rw [Qlu ho]
theorem Qqd {x : V} (h : cs[off]? = some x) : off < cs.length := by
  obtain ⟨hl, _⟩ := List.getElem?_eq_some_iff.1 h
  exact hl
theorem Qxr (ho : φ.length = o) (h : cs[off]? = some (vG f sz l)) : Qj4 [Qct (φ ++ .cells cs :: ψ) (.ptr o off)] (φ ++ .cells (cs.set off (vSl f (slo l))) :: ψ) = some (φ ++ .cells (cs.set off (vK f l)) :: ψ) := by
  have hl := Qqd h
  unfold Qct
  simp only [Qfa ho, Option.bind_some, h]
  cases l with
  | nil => rfl
  | cons x r =>
    show Qgb (φ ++ .cells (cs.set off (vSl f (slo (x :: r)))) :: ψ) [(o, off)] = _
    unfold Qgb
    simp only [Qfa ho, List.getElem?_set_self hl]
    show Qgb ((φ ++ .cells (cs.set off (vSl f (slo (x :: r)))) :: ψ).set o _) [] = _
    rw [Qlu ho, List.set_set]
    rfl
theorem We5 (ho : φ.length = o) (ho' : φ'.length = o) (h : cs[off]? = some (vG f sz l)) : Qgx [Qct (φ ++ .cells cs :: ψ) (.ptr o off)] (φ ++ .cells (cs.set off (vSl f (slo l))) :: ψ) (φ' ++ .cells (cs.set off (vK f l)) :: ψ') = some (φ' ++ .cells (cs.set off (vSl f (slo l))) :: ψ') := by
  have hl := Qqd h
  unfold Qct
  simp only [Qfa ho, Option.bind_some, h]
  cases l with
  | nil =>
    show (if (stable (φ ++ .cells (cs.set off .nils) :: ψ) (φ' ++ .cells (cs.set off .nils) :: ψ') (.same true o off 1) && true) = true then some (φ' ++ .cells (cs.set off .nils) :: ψ') else none) = _
    have e : stable (φ ++ .cells (cs.set off .nils) :: ψ) (φ' ++ .cells (cs.set off .nils) :: ψ') (.same true o off 1) = true := by
      simp only [stable, Qfa ho, Qfa ho', decide_true, Bool.true_and, if_true]
      exact V.beqs_refl _
    rw [e]; rfl
  | cons x r =>
    show (Qeb (φ' ++ .cells (cs.set off (vK f (x :: r))) :: ψ') [(o, off)]).bind _ = _
    unfold Qeb
    simp only [Qfa ho', List.getElem?_set_self hl]
    show (Qeb ((φ' ++ .cells (cs.set off (vK f (x :: r))) :: ψ').set o _) []).bind _ = _
    rw [Qlu ho', List.set_set]
    rfl
end
end Go.Ev
namespace Go.Proofs.YtapnplljnpconaaGreatDoor
open Go.Ev
set_option maxRecDepth 100000
set_option maxHeartbeats 4000000
def Qc4 (l : List Int) : Trm := anyT (l.map fun i => .mk 2 i [])
def addC (p : Pln) (c : Ctr) : Pln := { p with ctrs := p.ctrs ++ [c] }
def Qdy {α : Type} (n : Nms) (s : Sm α) : Atm := Qe9 n ⟨2, false, [], s.name, s.op, s.text, s.fold⟩ (if s.ns = 0 then 2 else s.ns) s.pre
section
variable {α : Type} (r0 : Pln → Sl α → List Int × Pln) (n : Nms)
def Qdd (p : Pln) (s : Sm α) : Trm × Pln :=
  if s.kind = 1 ∨ s.kind = 2 then Qa7 n p s.ns s.pre s.name
  else if s.kind = 3 then Qil p [99, 108, 97, 115, 115] 3 s.name
  else if s.kind = 4 then Qil p [105, 100] 2 s.name
  else if s.kind = 5 then Qbd p (Qdy n s)
  else if s.kind = 11 then Qbd p ⟨3, false, [], s.name, 0, [], false⟩
  else if s.kind = 6 then (.mk 6 0 [], p)
  else if s.kind = 8 ∨ s.kind = 9 then (Qc4 (r0 p s.of).1, (r0 p s.of).2)
  else if s.kind = 10 then (notT (Qc4 (r0 p s.of).1), (r0 p s.of).2)
  else if s.kind = 7 then (.mk 5 (r0 p s.of).2.ctrs.length [], addC (r0 p s.of).2 ⟨s.a, s.b, (r0 p s.of).1⟩)
  else if s.kind = 12 then Qk7 n p
  else (.mk 7 0 [], p)
end
def Pz (p : Pln) (m : Nat) : Prop := p.atoms.length ≤ m ∧ p.rows.length ≤ m ∧ p.ctrs.length ≤ m ∧ 0 ≤ p.steps ∧ p.steps ≤ m
theorem Pz.le {p : Pln} {m k : Nat} (h : Pz p m) (hk : m ≤ k) : Pz p k := by
  obtain ⟨h1, h2, h3, h4, h5⟩ := h
  exact ⟨by omega, by omega, by omega, h4, by omega⟩
theorem Pz.atom {p : Pln} {m : Nat} {a : Atm} (h : Pz p m) : Pz (Qbd p a).2 (m + 1) := by
  have := Qr8 (p := p) (a := a)
  obtain ⟨h1, h2, h3, h4, h5⟩ := h
  refine ⟨by omega, ?_⟩
  unfold Qbd
  split <;> exact ⟨by show p.rows.length ≤ _; omega, by show p.ctrs.length ≤ _; omega, h4, by show p.steps ≤ _; omega⟩
theorem Pz.element {n : Nms} {p : Pln} {m : Nat} {ns : Int} {pre name : List UInt8} (h : Pz p m) : Pz (Qa7 n p ns pre name).2 (m + 1) := by
  unfold Qa7
  split
  · exact h.le (by omega)
  · exact h.atom
theorem Pz.link {n : Nms} {p : Pln} {m : Nat} (h : Pz p m) : Pz (Qk7 n p).2 (m + 3) := by
  have h1 := h.element (n := n) (ns := 0) (pre := []) (name := [97])
  have h2 := h1.element (n := n) (ns := 0) (pre := []) (name := [97, 114, 101, 97])
  exact h2.atom (a := atA [104, 114, 101, 102] 1 [])
section
variable {α : Type} {v : α → V} (hv : ∀ n x, V.rb n (v x) = true) {n : Nms} (hn : NmB n) {r0 : Pln → Sl α → List Int × Pln} {w0 : Sl α → Nat}
def Qhw (v : α → V) (n : Nms) (r0 : Pln → Sl α → List Int × Pln) (w0 : Sl α → Nat) : Prop := ∀ (p : Pln) (s : Sl α) (m : Nat) (X : V), V.rb 0 X = true → Pz p m → m + w0 s ≤ 800000 →
  E cx 32 [.ptr 0 0, vSl v s] [.cells (mkC n p X)] = some (vIs (r0 p s).1, [.cells (mkC n (r0 p s).2 X)]) ∧ Pz (r0 p s).2 (m + w0 s) ∧ (r0 p s).1.length ≤ w0 s
variable (hR : Qhw v n r0 w0) {X : V} (hX : V.rb 0 X = true)
theorem Wby {σ : Objs} {l : List Trm} {t : Trm} {c : Cap} (hl : l.length ≤ 1000000) : appV false true 3 40 σ (vG vT 3 l) (.sl [.agg (tmC t)] c) = some (vG vT 3 (l ++ [t])) := by
  rw [← Qkr]
  refine Qkq (fun x => by rw [Qkr]; exact Qd4) (fun x => by rw [Qkr]; exact Qks) (fun x => by rw [Qkr]; rfl) ?_
  unfold Qbu
  omega
theorem Qlv (M : List V) (hM : V.rbs 0 M = true) (rs : List Int) (hl : rs.length ≤ 800000) : ∀ (r q : List Int), rs = q ++ r →
    l_Z7_0 (Mi cx) 1 2 [.ptr 1 0, vG vT 3 (q.map fun i => .mk 2 i []), vIs rs, .int .i64 rs.length, .int .i64 q.length] [.cells M, .cells [.int .i64 0, .int .i64 0, .nils]] = some (.agg (tmC (Qc4 rs)), [.cells M])
  | [], q, hq => by
    have hq' : rs = q := by rw [hq]; simp
    subst hq'
    have e1 : ¬ (rs.length : Int) < rs.length := by omega
    have hM2 : V.rbs 2 M = true := rbs0 hM
    have hM1 : V.rbs 1 M = true := rbs0 hM
    have f1 : ∀ k σ l, fz k σ fzD (vG vT 3 l) = some (vG vT 3 l) := fun k σ l => Qaw (Qkp fun x => Qg2 x)
    have hw : Wf [.cells M, .cells [.int .i64 0, .int .i64 0, .nils]] := Qb5 (Qae hM (Qae rfl Qay))
    have k1 := Qqc (rs.map fun i => .mk 2 i []) _ hw
    have k2 : anyT (rs.map fun i => .mk 2 i []) = Qc4 rs := rfl
    rw [k2] at k1
    have t1 : (tmC (Qc4 rs)).length = 3 := Qd4
    have t2 : Qai (tmC (Qc4 rs)) = true := Qks
    have t3 : (tmC (Qc4 rs)).map V.ng = tmC (Qc4 rs) := Qkt
    have t4 : V.rb 1 (.agg (tmC (Qc4 rs))) = true := Qk6
    have t5 := Qxq (t := Qc4 rs)
    rw [u_Z7_0]
    generalize tmC (Qc4 rs) = T at *
    simp +contextual -implicitDefEqProofs (disch := first | assumption | omega | (simp -implicitDefEqProofs only [go_sem]; try omega)) only [↓reduceIte, go_sem, iP, iN, w64, w8, w32, b_Z7_0, e1, f1, n_vG, k1, t5]
  | i :: r, q, hq => by
    have hlen : rs.length = q.length + r.length + 1 := by rw [hq]; simp; omega
    have e1 : (q.length : Int) < rs.length := by omega
    have hM2 : V.rbs 2 M = true := rbs0 hM
    have f1 : ∀ k σ l, fz k σ fzD (vG vT 3 l) = some (vG vT 3 l) := fun k σ l => Qaw (Qkp fun x => Qg2 x)
    have f2 : ∀ k σ l, fz k σ fzD (vIs l) = some (vIs l) := fun k σ l => Qaw Qg3
    have i1 : eI 1 (.int .i64 q.length) (vIs rs) = some (.eptr [.int .i64 i] 0) := Qaz (f := V.int .i64) (p := q) (r := r) (by rw [Qc3, hq]) rfl rfl
    have a1 : ∀ σ, appV false true 3 40 σ (vG vT 3 (q.map fun i => .mk 2 i [])) (.sl [.agg [.int .i64 2, .int .i64 i, .nils]] .no) = some (vG vT 3 ((q ++ [i]).map fun i => .mk 2 i [])) := fun σ => by
      rw [List.map_append]
      exact Wby (t := .mk 2 i []) (by rw [List.length_map]; omega)
    have ih := Qlv M hM rs hl r (q ++ [i]) (by rw [hq]; simp)
    rw [show ((q ++ [i]).length : Int) = q.length + 1 by simp] at ih
    rw [u_Z7_0]
    generalize (q ++ [i]).map (fun i => Trm.mk 2 i []) = L' at *
    generalize q.map (fun i => Trm.mk 2 i []) = L at *
    simp +contextual -implicitDefEqProofs (disch := first | assumption | omega | (simp -implicitDefEqProofs only [go_sem]; try omega)) only [↓reduceIte, go_sem, iP, iN, w64, w8, w32, b_Z7_0, e1, f1, f2, i1, a1, Qak, ih]
include hv hR hX
theorem Qxs {p : Pln} {m : Nat} (s : Sl α) (hp : Pz p m) (hm : m + w0 s ≤ 800000) (τ : Objs) (hτ : Cl0 τ) : E cx 32 [.ptr 0 0, vSl v s] (.cells (mkC n p X) :: τ) = some (vIs (r0 p s).1, .cells (mkC n (r0 p s).2 X) :: τ) :=
  E_on (hR p s m X hX hp hm).1 (by simp only [Qaf, Qaj hv]; rfl) (Qar hX) (Qar hX) Qg3 τ hτ
theorem Wif {p : Pln} {m : Nat} (s : Sl α) (hp : Pz p m) (hm : m + w0 s ≤ 800000) (τ : Objs) (hτ : Cl0 τ) :
    E cx 103 [.ptr 0 0, vSl v s] (.cells (mkC n p X) :: τ) = some (.agg (tmC (Qc4 (r0 p s).1)), .cells (mkC n (r0 p s).2 X) :: τ) := by
  refine E_on ?_ (by simp only [Qaf, Qaj hv]; rfl) (Qar hX) (Qar hX) Qk6 τ hτ
  have k1 := Qxs hv hR hX s hp hm [.cells [.int .i64 0, .int .i64 0, .nils]] (Qae rfl Qay)
  have hl := (hR p s m X hX hp hm).2.2
  have k2 := Qlv (mkC n (r0 p s).2 X) (Qar hX) (r0 p s).1 (by omega) (r0 p s).1 [] rfl
  have k2' : l_Z7_0 (Mi cx) 1 2 [.ptr 1 0, .nils, vIs (r0 p s).1, .int .i64 (r0 p s).1.length, .int .i64 0] [.cells (mkC n (r0 p s).2 X), .cells [.int .i64 0, .int .i64 0, .nils]] = some (.agg (tmC (Qc4 (r0 p s).1)), [.cells (mkC n (r0 p s).2 X)]) := k2
  have f2 : ∀ k σ l, fz k σ fzD (vIs l) = some (vIs l) := fun k σ l => Qaw Qg3
  have e1 : (slo (r0 p s).1).l.length = (r0 p s).1.length := by rw [Qc3]
  clear k2
  rw [e_Z7]
  generalize (r0 p s).1 = rs at *
  generalize tmC (Qc4 rs) = T at *
  generalize mkC n (r0 p s).2 X = M' at *
  generalize mkC n p X = M at *
  simp +contextual -implicitDefEqProofs (disch := first | assumption | omega | (simp -implicitDefEqProofs only [go_sem]; try omega)) only [↓reduceIte, go_sem, iP, iN, w64, w8, w32, s_Z7, k1, f2, Qak, Qag, e1, k2']
omit hv hR hX in
def mkB (n : Nms) (p : Pln) (X : V) : List V := (mkC n p X).set 6 (vSl vCtr (slo p.ctrs))
theorem Qxt {p : Pln} {m : Nat} (s : Sm α) (hp : Pz p m) (hm : m + w0 s.of ≤ 800000) (τ : Objs) (hτ : Cl0 τ) :
    E cx 105 [.ptr 0 0, .agg (smC v s)] (.cells (mkC n p X) :: τ) = some (.agg (tmC (.mk 5 (r0 p s.of).2.ctrs.length [])), .cells (mkC n (addC (r0 p s.of).2 ⟨s.a, s.b, (r0 p s.of).1⟩) X) :: τ) := by
  refine E_on ?_ (by simp only [Qaf, Qa9, Qb2 hv]; rfl) (Qar hX) (Qar hX) Qk6 τ hτ
  have h1 : boxV [.cells (mkC n p X)] (.agg (smC v s)) = some (.ptr 1 0, [.cells (mkC n p X), .cells (smC v s)]) := Qbc Qkm Qen
  have l1 : ∀ (O1 : O) (τ : Objs), eL (O1 :: .cells (smC v s) :: τ) false 1 (.ptr 1 10) = some (vSl v s.of) := fun O1 τ => by
    show Option.map V.ng (some (vSl v s.of)) = _
    rw [Qao, Qak]
  have l2 : ∀ (O1 : O) (τ : Objs), eL (O1 :: .cells (smC v s) :: τ) true 2 (.ptr 1 8) = some (.agg [.int .i64 s.a, .int .i64 s.b]) := fun O1 τ => rfl
  have k1 := Qxs hv hR hX s.of hp hm [.cells (smC v s), .cells [.int .i64 0, .int .i64 0, .nils]] (Qae (Qb2 hv) (Qae rfl Qay))
  obtain ⟨_, ⟨z1, z2, z3, z4, z5⟩, _⟩ := hR p s.of m X hX hp hm
  generalize (r0 p s.of).1 = rs at *
  generalize (r0 p s.of).2 = q at *
  have e1 : tmC (.mk 5 q.ctrs.length []) = [.int .i64 5, .int .i64 q.ctrs.length, .nils] := rfl
  have t1 : ∀ τ : Objs, Qcv (.cells (mkC n q X) :: τ) (.ptr 0 6) = some (vG vCtr 3 q.ctrs, .cells (mkB n q X) :: τ) := fun τ => Qm3 rfl
  have a1 : ∀ σ, appV false true 3 40 σ (vG vCtr 3 q.ctrs) (.sl [.agg [.int .i64 s.a, .int .i64 s.b, vIs rs]] .no) = some (vG vCtr 3 (q.ctrs ++ [⟨s.a, s.b, rs⟩])) := fun σ => by
    refine Qkq (f := vCtr) (x := ⟨s.a, s.b, rs⟩) (fun _ => rfl) (fun x => Wkh) (fun _ => rfl) ?_
    unfold Qbu
    omega
  have s1 : ∀ τ : Objs, stV (.cells (mkB n q X) :: τ) 1 (.ptr 0 6) (vSl vCtr (slo (q.ctrs ++ [⟨s.a, s.b, rs⟩]))) (vG vCtr 3 (q.ctrs ++ [⟨s.a, s.b, rs⟩])) = some (.undef, .cells (mkC n (addC q ⟨s.a, s.b, rs⟩) X) :: τ) := fun τ => Wex (show 6 < 9 by decide)
  have l3 : ∀ τ : Objs, eL (.cells (mkC n (addC q ⟨s.a, s.b, rs⟩) X) :: τ) false 1 (.ptr 0 6) = some (vSl vCtr (slo (q.ctrs ++ [⟨s.a, s.b, rs⟩]))) := fun τ => by
    show Option.map V.ng (some (vG vCtr 3 (q.ctrs ++ [⟨s.a, s.b, rs⟩]))) = _
    rw [Qao, n_vG]
  have b1 : Qax true 3 1 (.agg [.int .i64 0, .int .i64 0, .nils]) [(0, .agg [.int .i64 s.a, .int .i64 s.b, vIs rs])] = some (.sl [.agg [.int .i64 s.a, .int .i64 s.b, vIs rs]] .fx) := Qox rfl (by simp only [Qcf, Qdm, Qdg, Qc2, Bool.and_true])
  have e2 : (slo (q.ctrs ++ [⟨s.a, s.b, rs⟩])).l.length = q.ctrs.length + 1 := by rw [Qc3, List.length_append]; rfl
  have e3 : ((q.ctrs.length + 1 : Nat) : Int) = (q.ctrs.length : Int) + 1 := by omega
  have hM : V.rbs 1 (mkC n (addC q ⟨s.a, s.b, rs⟩) X) = true := rbs0 (Qar hX)
  rw [e_Z2, e1]
  generalize mkC n (addC q ⟨s.a, s.b, rs⟩) X = M2 at *
  generalize hcs : q.ctrs ++ [(⟨s.a, s.b, rs⟩ : Ctr)] = cs at *
  generalize mkB n q X = MB at *
  generalize mkC n q X = M1 at *
  generalize mkC n p X = M at *
  generalize smC v s = S at *
  simp +contextual -implicitDefEqProofs (disch := first | assumption | omega | (simp -implicitDefEqProofs only [go_sem]; try omega)) only [↓reduceIte, go_sem, iP, iN, w64, w8, w32, s_Z2, h1, l1, l2, k1, t1, a1, s1, l3, b1, e2, e3, Qak, n_vG, Qag, Int.add_sub_cancel]
end
end Go.Proofs.YtapnplljnpconaaGreatDoor
namespace Go.Proofs.YtapnplljnpconaaGreatDoor
open Go.Ev
set_option maxRecDepth 100000
set_option maxHeartbeats 4000000
section
variable {α : Type} {v : α → V} (hv : ∀ n x, V.rb n (v x) = true) {n : Nms} (hn : NmB n) {r0 : Pln → Sl α → List Int × Pln} {w0 : Sl α → Nat}
theorem Pz.term {p : Pln} {m : Nat} {s : Sm α} (h : Pz p m) (hr : Pz (r0 p s.of).2 (m + w0 s.of)) : Pz (Qdd r0 n p s).2 (m + (4 + w0 s.of)) := by
  unfold Qdd
  by_cases c : s.kind = 1 ∨ s.kind = 2
  · rw [if_pos c]
    exact h.element.le (by omega)
  rw [if_neg c]
  clear c
  by_cases c : s.kind = 3
  · rw [if_pos c]
    exact h.atom.le (by omega)
  rw [if_neg c]
  clear c
  by_cases c : s.kind = 4
  · rw [if_pos c]
    exact h.atom.le (by omega)
  rw [if_neg c]
  clear c
  by_cases c : s.kind = 5
  · rw [if_pos c]
    exact h.atom.le (by omega)
  rw [if_neg c]
  clear c
  by_cases c : s.kind = 11
  · rw [if_pos c]
    exact h.atom.le (by omega)
  rw [if_neg c]
  clear c
  by_cases c : s.kind = 6
  · rw [if_pos c]
    exact h.le (by omega)
  rw [if_neg c]
  clear c
  by_cases c : s.kind = 8 ∨ s.kind = 9
  · rw [if_pos c]
    exact hr.le (by omega)
  rw [if_neg c]
  clear c
  by_cases c : s.kind = 10
  · rw [if_pos c]
    exact hr.le (by omega)
  rw [if_neg c]
  clear c
  by_cases c : s.kind = 7
  · rw [if_pos c]
    obtain ⟨h1, h2, h3, h4, h5⟩ := hr
    refine ⟨?_, ?_, ?_, ?_, ?_⟩
    · show (r0 p s.of).2.atoms.length ≤ _; omega
    · show (r0 p s.of).2.rows.length ≤ _; omega
    · show ((r0 p s.of).2.ctrs ++ [_]).length ≤ _
      rw [List.length_append]; show _ + 1 ≤ _; omega
    · exact h4
    · show (r0 p s.of).2.steps ≤ _; omega
  rw [if_neg c]
  clear c
  by_cases c : s.kind = 12
  · rw [if_pos c]
    exact h.link.le (by omega)
  rw [if_neg c]
  clear c
  exact h.le (by omega)
variable (hR : Qhw v n r0 w0) {X : V} (hX : V.rb 0 X = true)
include hv hn hR hX
theorem Wig {p : Pln} {m : Nat} (s : Sm α) (hp : Pz p m) (hm : m + (4 + w0 s.of) ≤ 800000) (τ : Objs) (hτ : Cl0 τ) :
    E cx 76 [.ptr 0 0, .agg (smC v s)] (.cells (mkC n p X) :: τ) = some (.agg (tmC (Qdd r0 n p s).1), .cells (mkC n (Qdd r0 n p s).2 X) :: τ) := by
  refine E_on ?_ (by simp only [Qaf, Qa9, Qb2 hv]; rfl) (Qar hX) (Qar hX) Qk6 τ hτ
  have z : V.rbs 0 [.int .i64 0, .int .i64 0, .nils] = true := rfl
  have hτ2 : Cl0 [.cells (smC v s), .cells [.int .i64 0, .int .i64 0, .nils]] := Qae (Qb2 hv) (Qae z Qay)
  have hA : p.atoms.length ≤ 800000 := by have := hp.1; omega
  have h1 : boxV [.cells (mkC n p X)] (.agg (smC v s)) = some (.ptr 1 0, [.cells (mkC n p X), .cells (smC v s)]) := Qbc Qkm Qen
  have l0 : ∀ (O1 : O) (τ : Objs), eL (O1 :: .cells (smC v s) :: τ) false 1 (.ptr 1 0) = some (.int .i64 s.kind) := fun O1 τ => rfl
  have l1 : ∀ (O1 : O) (τ : Objs), eL (O1 :: .cells (smC v s) :: τ) false 1 (.ptr 1 1) = some (.int .i64 s.ns) := fun O1 τ => rfl
  have l3 : ∀ (O1 : O) (τ : Objs), eL (O1 :: .cells (smC v s) :: τ) false 1 (.ptr 1 3) = some (.str s.name) := fun O1 τ => rfl
  have l4 : ∀ (O1 : O) (τ : Objs), eL (O1 :: .cells (smC v s) :: τ) true 3 (.ptr 1 4) = some (.agg [.int .i64 s.op, .str s.text, .bool s.fold]) := fun O1 τ => rfl
  have l10 : ∀ (O1 : O) (τ : Objs), eL (O1 :: .cells (smC v s) :: τ) false 1 (.ptr 1 10) = some (vSl v s.of) := fun O1 τ => by
    show Option.map V.ng (some (vSl v s.of)) = _
    rw [Qao, Qak]
  have l11 : ∀ (O1 : O) (τ : Objs), eL (O1 :: .cells (smC v s) :: τ) true 11 (.ptr 1 0) = some (.agg (smC v s)) := fun O1 τ => Qbt rfl rfl Qen
  have hM : ∀ q : Pln, V.rbs 1 (mkC n q X) = true := fun q => rbs0 (Qar hX)
  have L : ∀ t : Trm, (tmC t).length = 3 := fun t => Qd4
  have OK : ∀ t : Trm, Qai (tmC t) = true := fun t => Qks
  have NO : ∀ t : Trm, (tmC t).map V.ng = tmC t := fun t => Qkt
  have RB : ∀ (t : Trm), V.rb 1 (.agg (tmC t)) = true := fun t => Qk6
  have MT : ∀ (t : Trm), List.map V.ng (List.take 3 (tmC t)) = tmC t := fun t => Qxq
  have kel := Qkv hv hn (p := p) hX s (by omega) _ hτ2
  have kcl := Qg4 (n := n) (p := p) hX [99, 108, 97, 115, 115] 3 s.name (by omega) _ hτ2
  have kid := Qg4 (n := n) (p := p) hX [105, 100] 2 s.name (by omega) _ hτ2
  have kst := Qm5 (n := n) (p := p) hX ⟨3, false, [], s.name, 0, [], false⟩ (by omega) _ hτ2
  have kst' : E cx 101 [.ptr 0 0, .agg [.int .i64 3, .bool false, .str [], .str s.name, .int .i64 0, .str [], .bool false]] [.cells (mkC n p X), .cells (smC v s), .cells [.int .i64 0, .int .i64 0, .nils]] = _ := kst
  have kso := Wif hv hR hX s.of hp (by omega) _ hτ2
  have kco := Qxt hv hR hX s hp (by omega) _ hτ2
  have kli := Wie hn (p := p) hX (by omega) _ hτ2
  clear kst
  unfold Qdd
  rw [e_Z9]
  by_cases c1 : s.kind = 1 ∨ s.kind = 2
  · rw [if_pos c1]
    generalize Qa7 n p s.ns s.pre s.name = q at *
    have hM1 := hM q.2
    have t1 := L q.1; have t2 := OK q.1; have t3 := NO q.1; have t4 := RB q.1; have t5 := MT q.1
    clear kcl kid kst' kso kco kli l4 l10 l1 L OK NO RB MT hM hR
    generalize tmC q.1 = T at *
    generalize mkC n q.2 X = M' at *
    generalize mkC n p X = M at *
    generalize smC v s = S at *
    rcases c1 with c1 | c1 <;> rw [c1] at l0 <;> simp +contextual -implicitDefEqProofs (disch := first | assumption | omega | (simp -implicitDefEqProofs only [go_sem]; try omega)) only [↓reduceIte, go_sem, iP, iN, w64, w8, w32, s_Z9, j_Z9_0, h1, l0, l11, kel, t5]
  have c11 : ¬ s.kind = 1 := fun h => c1 (.inl h)
  have c12 : ¬ s.kind = 2 := fun h => c1 (.inr h)
  rw [if_neg c1]
  clear c1
  by_cases c3 : s.kind = 3
  · rw [if_pos c3]
    generalize Qil p [99, 108, 97, 115, 115] 3 s.name = q at *
    have hM1 := hM q.2
    have t1 := L q.1; have t2 := OK q.1; have t3 := NO q.1; have t4 := RB q.1; have t5 := MT q.1
    clear kel kid kst' kso kco kli l4 l10 l1 L OK NO RB MT hM hR
    generalize tmC q.1 = T at *
    generalize mkC n q.2 X = M' at *
    generalize mkC n p X = M at *
    generalize smC v s = S at *
    rw [c3] at l0
    simp +contextual -implicitDefEqProofs (disch := first | assumption | omega | (simp -implicitDefEqProofs only [go_sem]; try omega)) only [↓reduceIte, go_sem, iP, iN, w64, w8, w32, s_Z9, j_Z9_0, h1, l0, l3, kcl, t5]
  rw [if_neg c3]
  by_cases c4 : s.kind = 4
  · rw [if_pos c4]
    generalize Qil p [105, 100] 2 s.name = q at *
    have hM1 := hM q.2
    have t1 := L q.1; have t2 := OK q.1; have t3 := NO q.1; have t4 := RB q.1; have t5 := MT q.1
    clear kel kcl kst' kso kco kli l4 l10 l1 L OK NO RB MT hM hR
    generalize tmC q.1 = T at *
    generalize mkC n q.2 X = M' at *
    generalize mkC n p X = M at *
    generalize smC v s = S at *
    rw [c4] at l0
    simp +contextual -implicitDefEqProofs (disch := first | assumption | omega | (simp -implicitDefEqProofs only [go_sem]; try omega)) only [↓reduceIte, go_sem, iP, iN, w64, w8, w32, s_Z9, j_Z9_0, h1, l0, l3, kid, t5]
  rw [if_neg c4]
  by_cases c5 : s.kind = 5
  · rw [if_pos c5]
    clear kel kcl kid kst' kso kco kli
    have sS : stV [.cells (mkC n p X), .cells (smC v s), .cells [.int .i64 0, .int .i64 0, .nils], .cells [.int .i64 2, .bool false, .str [], .str s.name, .int .i64 s.op, .str s.text, .bool s.fold]] 1 (.ptr 1 1) (.int .i64 2) (.int .i64 2) = some (.undef, [.cells (mkC n p X), .cells (smC v { s with ns := 2 }), .cells [.int .i64 0, .int .i64 0, .nils], .cells [.int .i64 2, .bool false, .str [], .str s.name, .int .i64 s.op, .str s.text, .bool s.fold]]) := rfl
    have la : ∀ (O1 O2 O3 : O) (τ : Objs), eL (O1 :: O2 :: O3 :: .cells [.int .i64 2, .bool false, .str [], .str s.name, .int .i64 s.op, .str s.text, .bool s.fold] :: τ) true 7 (.ptr 3 0) = some (.agg [.int .i64 2, .bool false, .str [], .str s.name, .int .i64 s.op, .str s.text, .bool s.fold]) := fun O1 O2 O3 τ => rfl
    have key : ∀ s' : Sm α, s'.pre = s.pre → Qe9 n ⟨2, false, [], s.name, s.op, s.text, s.fold⟩ s'.ns s'.pre = Qdy n s →
        E cx 102 [.ptr 0 0, .agg [.int .i64 2, .bool false, .str [], .str s.name, .int .i64 s.op, .str s.text, .bool s.fold], .agg (smC v s')] [.cells (mkC n p X), .cells (smC v s'), .cells [.int .i64 0, .int .i64 0, .nils], .cells [.int .i64 2, .bool false, .str [], .str s.name, .int .i64 s.op, .str s.text, .bool s.fold]] = some (.agg (atC (Qdy n s)), [.cells (mkC n p X), .cells (smC v s'), .cells [.int .i64 0, .int .i64 0, .nils], .cells [.int .i64 2, .bool false, .str [], .str s.name, .int .i64 s.op, .str s.text, .bool s.fold]])
        ∧ E cx 101 [.ptr 0 0, .agg (atC (Qdy n s))] [.cells (mkC n p X), .cells (smC v s'), .cells [.int .i64 0, .int .i64 0, .nils], .cells [.int .i64 2, .bool false, .str [], .str s.name, .int .i64 s.op, .str s.text, .bool s.fold]] = some (.agg (tmC (Qbd p (Qdy n s)).1), [.cells (mkC n (Qbd p (Qdy n s)).2 X), .cells (smC v s'), .cells [.int .i64 0, .int .i64 0, .nils], .cells [.int .i64 2, .bool false, .str [], .str s.name, .int .i64 s.op, .str s.text, .bool s.fold]]) := by
      intro s' hs' e
      have hτ3 : Cl0 [.cells (smC v s'), .cells [.int .i64 0, .int .i64 0, .nils], .cells [.int .i64 2, .bool false, .str [], .str s.name, .int .i64 s.op, .str s.text, .bool s.fold]] := Qae (Qb2 hv) (Qae z (Qae rfl Qay))
      have k := Qr9 hv hn (p := p) hX ⟨2, false, [], s.name, s.op, s.text, s.fold⟩ s' _ hτ3
      rw [e] at k
      exact ⟨k, Qm5 hX _ (by omega) _ hτ3⟩
    have hM1 := hM (Qbd p (Qdy n s)).2
    have t1 := L (Qbd p (Qdy n s)).1; have t2 := OK (Qbd p (Qdy n s)).1; have t3 := NO (Qbd p (Qdy n s)).1; have t4 := RB (Qbd p (Qdy n s)).1; have t5 := MT (Qbd p (Qdy n s)).1
    rw [c5] at l0
    by_cases c6 : s.ns = 0
    · obtain ⟨k1, k2⟩ := key { s with ns := 2 } rfl (by unfold Qdy; rw [if_pos c6])
      have m11 : ∀ (O1 : O) (τ : Objs), eL (O1 :: .cells (smC v { s with ns := 2 }) :: τ) true 11 (.ptr 1 0) = some (.agg (smC v { s with ns := 2 })) := fun O1 τ => Qbt rfl rfl Qen
      rw [c6] at l1
      clear key L OK NO RB MT hM hR
      generalize tmC (Qbd p (Qdy n s)).1 = T at *
      generalize mkC n (Qbd p (Qdy n s)).2 X = M' at *
      generalize mkC n p X = M at *
      generalize smC v { s with ns := 2 } = S2 at *
      generalize smC v s = S at *
      generalize atC (Qdy n s) = AC at *
      simp +contextual -implicitDefEqProofs (disch := first | assumption | omega | (simp -implicitDefEqProofs only [go_sem]; try omega)) only [↓reduceIte, go_sem, iP, iN, w64, w8, w32, s_Z9, j_Z9_0, j_Z9_1, h1, l0, l1, l3, l4, m11, sS, la, k1, k2, t5]
    · obtain ⟨k1, k2⟩ := key s rfl (by unfold Qdy; rw [if_neg c6])
      clear key L OK NO RB MT hM hR sS
      generalize tmC (Qbd p (Qdy n s)).1 = T at *
      generalize mkC n (Qbd p (Qdy n s)).2 X = M' at *
      generalize mkC n p X = M at *
      generalize smC v s = S at *
      generalize atC (Qdy n s) = AC at *
      simp +contextual -implicitDefEqProofs (disch := first | assumption | omega | (simp -implicitDefEqProofs only [go_sem]; try omega)) only [↓reduceIte, go_sem, iP, iN, w64, w8, w32, s_Z9, j_Z9_0, j_Z9_1, h1, l0, l1, l3, l4, l11, la, k1, k2, t5, c6]
  rw [if_neg c5]
  by_cases c11' : s.kind = 11
  · rw [if_pos c11']
    generalize Qbd p ⟨3, false, [], s.name, 0, [], false⟩ = q at *
    have hM1 := hM q.2
    have t1 := L q.1; have t2 := OK q.1; have t3 := NO q.1; have t4 := RB q.1; have t5 := MT q.1
    clear kel kcl kid kso kco kli l4 l10 l1 L OK NO RB MT hM hR
    generalize tmC q.1 = T at *
    generalize mkC n q.2 X = M' at *
    generalize mkC n p X = M at *
    generalize smC v s = S at *
    rw [c11'] at l0
    simp +contextual -implicitDefEqProofs (disch := first | assumption | omega | (simp -implicitDefEqProofs only [go_sem]; try omega)) only [↓reduceIte, go_sem, iP, iN, w64, w8, w32, s_Z9, j_Z9_0, h1, l0, l3, kst', t5]
  rw [if_neg c11']
  by_cases c6 : s.kind = 6
  · rw [if_pos c6]
    have e1 : tmC (.mk 6 0 []) = [.int .i64 6, .int .i64 0, .nils] := rfl
    rw [e1]
    have hM1 := hM p
    clear kel kcl kid kst' kso kco kli l4 l10 l1 L OK NO RB MT hM hR
    generalize mkC n p X = M at *
    generalize smC v s = S at *
    rw [c6] at l0
    simp +contextual -implicitDefEqProofs (disch := first | assumption | omega | (simp -implicitDefEqProofs only [go_sem]; try omega)) only [↓reduceIte, go_sem, iP, iN, w64, w8, w32, s_Z9, j_Z9_0, h1, l0]
  rw [if_neg c6]
  have hw2 : ∀ q : Pln, Wf [.cells (mkC n q X), .cells (smC v s), .cells [.int .i64 0, .int .i64 0, .nils]] := fun q => Qb5 (Qae (Qar hX) hτ2)
  by_cases c8 : s.kind = 8 ∨ s.kind = 9
  · rw [if_pos c8]
    generalize r0 p s.of = q at *
    have hM1 := hM q.2
    have t1 := L (Qc4 q.1); have t2 := OK (Qc4 q.1); have t3 := NO (Qc4 q.1); have t4 := RB (Qc4 q.1); have t5 := MT (Qc4 q.1)
    clear kel kcl kid kst' kco kli l4 l1 L OK NO RB MT hM hR hw2
    generalize tmC (Qc4 q.1) = T at *
    generalize mkC n q.2 X = M' at *
    generalize mkC n p X = M at *
    generalize smC v s = S at *
    rcases c8 with c8 | c8 <;> rw [c8] at l0 <;> simp +contextual -implicitDefEqProofs (disch := first | assumption | omega | (simp -implicitDefEqProofs only [go_sem]; try omega)) only [↓reduceIte, go_sem, iP, iN, w64, w8, w32, s_Z9, j_Z9_0, j_Z9_2, h1, l0, l10, Qak, kso, t5]
  have c88 : ¬ s.kind = 8 := fun h => c8 (.inl h)
  have c89 : ¬ s.kind = 9 := fun h => c8 (.inr h)
  rw [if_neg c8]
  clear c8
  by_cases c10 : s.kind = 10
  · rw [if_pos c10]
    generalize r0 p s.of = q at *
    have k2 := Wak (Qc4 q.1) _ (hw2 q.2)
    have hM1 := hM q.2
    have t1 := L (notT (Qc4 q.1)); have t2 := OK (notT (Qc4 q.1)); have t3 := NO (notT (Qc4 q.1)); have t4 := RB (notT (Qc4 q.1)); have t5 := MT (notT (Qc4 q.1))
    clear kel kcl kid kst' kco kli l4 l1 L OK NO RB MT hM hR hw2
    generalize tmC (notT (Qc4 q.1)) = T at *
    generalize tmC (Qc4 q.1) = T1 at *
    generalize mkC n q.2 X = M' at *
    generalize mkC n p X = M at *
    generalize smC v s = S at *
    rw [c10] at l0
    simp +contextual -implicitDefEqProofs (disch := first | assumption | omega | (simp -implicitDefEqProofs only [go_sem]; try omega)) only [↓reduceIte, go_sem, iP, iN, w64, w8, w32, s_Z9, j_Z9_0, j_Z9_2, h1, l0, l10, Qak, kso, k2, t5]
  rw [if_neg c10]
  by_cases c7 : s.kind = 7
  · rw [if_pos c7]
    generalize r0 p s.of = q at *
    simp only
    have hM1 := hM (addC q.2 ⟨s.a, s.b, q.1⟩)
    have t1 := L (.mk 5 q.2.ctrs.length []); have t2 := OK (.mk 5 q.2.ctrs.length []); have t3 := NO (.mk 5 q.2.ctrs.length []); have t4 := RB (.mk 5 q.2.ctrs.length []); have t5 := MT (.mk 5 q.2.ctrs.length [])
    clear kel kcl kid kst' kso kli l4 l1 l10 L OK NO RB MT hM hR hw2
    generalize tmC (.mk 5 q.2.ctrs.length []) = T at *
    generalize mkC n (addC q.2 ⟨s.a, s.b, q.1⟩) X = M' at *
    generalize mkC n p X = M at *
    generalize smC v s = S at *
    rw [c7] at l0
    simp +contextual -implicitDefEqProofs (disch := first | assumption | omega | (simp -implicitDefEqProofs only [go_sem]; try omega)) only [↓reduceIte, go_sem, iP, iN, w64, w8, w32, s_Z9, j_Z9_0, j_Z9_2, h1, l0, l11, Qak, kco, t5]
  rw [if_neg c7]
  by_cases c12' : s.kind = 12
  · rw [if_pos c12']
    generalize Qk7 n p = q at *
    have hM1 := hM q.2
    have t1 := L q.1; have t2 := OK q.1; have t3 := NO q.1; have t4 := RB q.1; have t5 := MT q.1
    clear kel kcl kid kst' kso kco l4 l10 l1 L OK NO RB MT hM hR hw2
    generalize tmC q.1 = T at *
    generalize mkC n q.2 X = M' at *
    generalize mkC n p X = M at *
    generalize smC v s = S at *
    rw [c12'] at l0
    simp +contextual -implicitDefEqProofs (disch := first | assumption | omega | (simp -implicitDefEqProofs only [go_sem]; try omega)) only [↓reduceIte, go_sem, iP, iN, w64, w8, w32, s_Z9, j_Z9_0, j_Z9_2, h1, l0, kli, t5]
  rw [if_neg c12']
  have e1 : tmC (.mk 7 0 []) = [.int .i64 7, .int .i64 0, .nils] := rfl
  rw [e1]
  have hM1 := hM p
  clear kel kcl kid kst' kso kco kli l4 l10 l1 L OK NO RB MT hM hR hw2
  generalize mkC n p X = M at *
  generalize smC v s = S at *
  generalize s.kind = kind at *
  simp +contextual -implicitDefEqProofs (disch := first | assumption | omega | (simp -implicitDefEqProofs only [go_sem]; try omega)) only [↓reduceIte, go_sem, iP, iN, w64, w8, w32, s_Z9, j_Z9_0, j_Z9_2, h1, l0, c11, c12, c3, c4, c5, c11', c6, c88, c89, c10, c7, c12']
end
end Go.Proofs.YtapnplljnpconaaGreatDoor
namespace Go.Proofs.YtapnplljnpconaaGreatDoor
open Go.Ev
set_option maxRecDepth 100000
set_option maxHeartbeats 4000000
section
variable {α : Type}
def We6 (x : Cp α) : List UInt8 := match x.list.l.getLast? with
  | none => []
  | some s => if s.kind = 13 then s.name else []
def Qde (c : Co α) : List UInt8 := match c.list.l.getLast? with
  | none => []
  | some x => We6 x
variable (r0 : Pln → Sl α → List Int × Pln) (n : Nms)
def Qb3 : Pln → List (Sm α) → List Trm × Pln
  | p, [] => ([], p)
  | p, s :: r => ((Qdd r0 n p s).1 :: (Qb3 (Qdd r0 n p s).2 r).1, (Qb3 (Qdd r0 n p s).2 r).2)
def Qck : Pln → List (Cp α) → List Stp × Pln
  | p, [] => ([], p)
  | p, x :: r => (⟨x.comb, (Qb3 r0 n p x.list.l).1⟩ :: (Qck (Qb3 r0 n p x.list.l).2 r).1, (Qck (Qb3 r0 n p x.list.l).2 r).2)
def addR (p : Pln) (ss : List Stp) (ps : List UInt8) : Pln := { p with rows := p.rows ++ [⟨p.steps, ss, ps⟩], steps := p.steps + ss.length }
def rowP (p : Pln) (c : Co α) : Int × Pln := ((Qck r0 n p c.list.l).2.rows.length, addR (Qck r0 n p c.list.l).2 (Qck r0 n p c.list.l).1 (Qde c))
def Qdx : Pln → List (Co α) → List Int × Pln
  | p, [] => ([], p)
  | p, c :: r => ((rowP r0 n p c).1 :: (Qdx (rowP r0 n p c).2 r).1, (Qdx (rowP r0 n p c).2 r).2)
end
section
variable {α : Type}
def wX (w0 : Sl α → Nat) : List (Sm α) → Nat
  | [] => 0
  | y :: r => 4 + w0 y.of + wX w0 r
def wC (w0 : Sl α → Nat) : List (Cp α) → Nat
  | [] => 0
  | x :: r => 1 + wX w0 x.list.l + wC w0 r
def wR (w0 : Sl α → Nat) (c : Co α) : Nat := 1 + wC w0 c.list.l
def wL (w0 : Sl α → Nat) : List (Co α) → Nat
  | [] => 0
  | c :: r => wR w0 c + wL w0 r
variable {w0 : Sl α → Nat}
theorem Qxu : ∀ l : List (Sm α), l.length ≤ wX w0 l
  | [] => Nat.zero_le _
  | y :: r => by have := Qxu r; rw [List.length_cons]; unfold wX; omega
theorem Qxv : ∀ l : List (Cp α), l.length ≤ wC w0 l
  | [] => Nat.zero_le _
  | y :: r => by have := Qxv r; rw [List.length_cons]; unfold wC; omega
theorem Wbz : ∀ l : List (Co α), l.length ≤ wL w0 l
  | [] => Nat.zero_le _
  | y :: r => by have := Wbz r; rw [List.length_cons]; unfold wL wR; omega
theorem Wb0 : ∀ {l : List (Cp α)} {x : Cp α}, x ∈ l → wX w0 x.list.l ≤ wC w0 l
  | [], x, h => by cases h
  | y :: r, x, h => by
    unfold wC
    rcases List.mem_cons.1 h with rfl | h
    · omega
    · have := Wb0 h; omega
end
section
variable {α : Type} {v : α → V} (hv : ∀ n x, V.rb n (v x) = true)
include hv
theorem Wam (c : Co α) (hc : c.list.l.length ≤ 1000000000) (hx : ∀ x ∈ c.list.l, x.list.l.length ≤ 1000000000) (σ : Objs) (hσ : Wf σ) : E cx 75 [.agg (coC v c)] σ = some (.str (Qde c), σ) := by
  refine Qcm Qci ?_ (by simp only [Qaf, Qa9, Qep hv]; rfl) rfl σ hσ
  have h1 : boxV [] (.agg (coC v c)) = some (.ptr 0 0, [.cells (coC v c)]) := Qbc Wag Qor
  have l0 : eL [.cells (coC v c)] false 1 (.ptr 0 0) = some (vSl (vCp v) c.list) := by
    show Option.map V.ng (some (vSl (vCp v) c.list)) = _
    rw [Qao, Qak]
  rw [e_Z16]
  unfold Qde
  by_cases c1 : c.list.l = []
  · have e1 : (c.list.l.length : Int) = 0 := by rw [c1]; rfl
    rw [show c.list.l.getLast? = none by rw [c1]; rfl]
    generalize coC v c = C at *
    simp +contextual -implicitDefEqProofs (disch := first | assumption | omega | (simp -implicitDefEqProofs only [go_sem]; try omega)) only [↓reduceIte, go_sem, iP, iN, w64, w8, w32, s_Z16, h1, l0, Qag, e1]
  · have hpos : 0 < c.list.l.length := List.length_pos_iff.2 c1
    have e1 : ¬ (c.list.l.length : Int) = 0 := by omega
    obtain ⟨x, hlx⟩ : ∃ x, c.list.l.getLast? = some x := by
      cases h : c.list.l.getLast? with
      | none => exact absurd (List.getLast?_eq_none_iff.1 h) c1
      | some x => exact ⟨x, rfl⟩
    have hx1 : c.list.l[((c.list.l.length : Int) - 1).toNat]? = some x := by
      rw [List.getLast?_eq_getElem?] at hlx
      rw [show ((c.list.l.length : Int) - 1).toNat = c.list.l.length - 1 by omega]
      exact hlx
    have hxl := hx x (List.mem_of_getElem? hx1)
    have i1 : eI 2 (.int .i64 ((c.list.l.length : Int) - 1)) (vSl (vCp v) c.list) = some (.eptr (cpC v x) 0) := Qex (f := vCp v) hx1 (by omega) rfl
    have l1 : eL [.cells (coC v c)] false 1 (.eptr (cpC v x) 1) = some (vSl (vSm v) x.list) := by
      show Option.map V.ng (some (vSl (vSm v) x.list)) = _
      rw [Qao, Qak]
    rw [hlx]
    show _ = some (V.str (We6 x), _)
    unfold We6
    by_cases c2 : x.list.l = []
    · have e2 : (x.list.l.length : Int) = 0 := by rw [c2]; rfl
      rw [show x.list.l.getLast? = none by rw [c2]; rfl]
      generalize coC v c = C at *
      generalize cpC v x = Y at *
      simp +contextual -implicitDefEqProofs (disch := first | assumption | omega | (simp -implicitDefEqProofs only [go_sem]; try omega)) only [↓reduceIte, go_sem, iP, iN, w64, w8, w32, s_Z16, h1, l0, Qag, e1, i1, l1, e2, Qak]
    · have hpos2 : 0 < x.list.l.length := List.length_pos_iff.2 c2
      have e2 : ¬ (x.list.l.length : Int) = 0 := by omega
      obtain ⟨s, hls⟩ : ∃ s, x.list.l.getLast? = some s := by
        cases h : x.list.l.getLast? with
        | none => exact absurd (List.getLast?_eq_none_iff.1 h) c2
        | some s => exact ⟨s, rfl⟩
      have hs1 : x.list.l[((x.list.l.length : Int) - 1).toNat]? = some s := by
        rw [List.getLast?_eq_getElem?] at hls
        rw [show ((x.list.l.length : Int) - 1).toNat = x.list.l.length - 1 by omega]
        exact hls
      have i2 : eI 11 (.int .i64 ((x.list.l.length : Int) - 1)) (vSl (vSm v) x.list) = some (.eptr (smC v s) 0) := Qex (f := vSm v) hs1 (by omega) rfl
      have l2 : eL [.cells (coC v c)] false 1 (.eptr (smC v s) 0) = some (.int .i64 s.kind) := rfl
      have l3 : eL [.cells (coC v c)] false 1 (.eptr (smC v s) 3) = some (.str s.name) := rfl
      rw [hls]
      simp only
      generalize coC v c = C at *
      generalize cpC v x = Y at *
      generalize smC v s = S at *
      by_cases c3 : s.kind = 13
      · rw [if_pos c3]
        rw [c3] at l2
        simp +contextual -implicitDefEqProofs (disch := first | assumption | omega | (simp -implicitDefEqProofs only [go_sem]; try omega)) only [↓reduceIte, go_sem, iP, iN, w64, w8, w32, s_Z16, h1, l0, Qag, e1, i1, l1, e2, Qak, i2, l2, l3]
      · rw [if_neg c3]
        simp +contextual -implicitDefEqProofs (disch := first | assumption | omega | (simp -implicitDefEqProofs only [go_sem]; try omega)) only [↓reduceIte, go_sem, iP, iN, w64, w8, w32, s_Z16, h1, l0, Qag, e1, i1, l1, e2, Qak, i2, l2, l3, c3]
end
section
variable {α : Type} {v : α → V} (hv : ∀ n x, V.rb n (v x) = true) {n : Nms} (hn : NmB n) {r0 : Pln → Sl α → List Int × Pln} {w0 : Sl α → Nat}
def rwG (f : Int) (ss : List Stp) (ps : List UInt8) : List V := [.int .i64 f, vG vStp 2 ss, .str ps]
def stG (comb : Int) (ts : List Trm) : List V := [.int .i64 comb, vG vT 3 ts]
theorem Qkw {k : Nat} {f : Int} {ss : List Stp} {ps : List UInt8} : V.rbs k (rwG f ss ps) = true := by
  simp only [rwG, Qaf, Qdi, Qj9, Qby, Qkp (fun s => Qr6 (s := s)), Bool.and_true]
theorem Qxw {k : Nat} {c : Int} {ts : List Trm} : V.rbs k (stG c ts) = true := by
  simp only [stG, Qaf, Qdi, Qby, Qkp Qg2, Bool.and_true]
variable (hR : Qhw v n r0 w0) {X : V} (hX : V.rb 0 X = true)
include hv hn hR hX
theorem Wb1 (c : Co α) (i : Int) (hi : 0 ≤ i ∧ i ≤ 800000) (ss : List Stp) (hss : ss.length ≤ 800000) (ps : List UInt8) (x : Cp α) (hxl : x.list.l.length ≤ 800000) (r1 : Rk) : ∀ (r q : List (Sm α)) (p : Pln) (m : Nat) (ts : List Trm), x.list.l = q ++ r → Pz p m → m + wX w0 r ≤ 800000 → ts.length + r.length ≤ 800000 →
    Pz (Qb3 r0 n p r).2 (m + wX w0 r) ∧
    l_Z5_1 (Mi cx) 1 3 r1 5 [.ptr 0 0, .ptr 2 0, .ptr 4 0, vSl (vCp v) c.list, .int .i64 c.list.l.length, .int .i64 i, vSl (vSm v) x.list, .int .i64 x.list.l.length, .int .i64 q.length] [.cells (mkC n p X), .cells (coC v c), .cells (rwG 0 ss ps), .cells (cpC v x), .cells (stG x.comb ts)] =
      r1 [.ptr 0 0, .ptr 2 0, vSl (vCp v) c.list, .int .i64 c.list.l.length, .int .i64 (i + 1)] [.cells (mkC n (Qb3 r0 n p r).2 X), .cells (coC v c), .cells (rwG 0 (ss ++ [⟨x.comb, ts ++ (Qb3 r0 n p r).1⟩]) ps)]
  | [], q, p, m, ts, hq, hp, hm, ht => by
    have hlen : x.list.l.length = q.length := by rw [hq]; simp
    refine ⟨hp, ?_⟩
    have e1 : ¬ (q.length : Int) < x.list.l.length := by omega
    have f2 : ∀ k σ, fz k σ fzD (vSl (vCp v) c.list) = some (vSl (vCp v) c.list) := fun k σ => Qaw (Qaj (Qiy hv))
    have cl5 : Cl0 [.cells (mkC n p X), .cells (coC v c), .cells (rwG 0 ss ps), .cells (cpC v x), .cells (stG x.comb ts)] := Qae (Qar hX) (Qae (Qep hv) (Qae Qkw (Qae (Qi5 hv) (Qae Qxw Qay))))
    have c5 : cuO 5 [.cells (mkC n p X), .cells (coC v c), .cells (rwG 0 ss ps), .cells (cpC v x), .cells (stG x.comb ts)] = some [.cells (mkC n p X), .cells (coC v c), .cells (rwG 0 ss ps), .cells (cpC v x), .cells (stG x.comb ts)] := Qe6 (Qb5 cl5)
    have ld1 : Qcv [.cells (mkC n p X), .cells (coC v c), .cells (rwG 0 ss ps), .cells (cpC v x), .cells (stG x.comb ts)] (.ptr 2 1) = some (vG vStp 2 ss, [.cells (mkC n p X), .cells (coC v c), .cells ((rwG 0 ss ps).set 1 (vSl vStp (slo ss))), .cells (cpC v x), .cells (stG x.comb ts)]) := Qm6 (φ := [_, _]) rfl rfl
    have ld2 : eL [.cells (mkC n p X), .cells (coC v c), .cells ((rwG 0 ss ps).set 1 (vSl vStp (slo ss))), .cells (cpC v x), .cells (stG x.comb ts)] true 2 (.ptr 4 0) = some (.agg (stC ⟨x.comb, ts⟩)) := by
      show some (V.agg [(V.int .i64 x.comb).ng, (vG vT 3 ts).ng]) = _
      rw [n_vG]; rfl
    have b1 : Qax true 2 1 (.agg [.int .i64 0, .nils]) [(0, .agg (stC ⟨x.comb, ts⟩))] = some (.sl [.agg (stC ⟨x.comb, ts⟩)] .fx) := Qox rfl Wev
    have a1 : ∀ σ, appV false true 2 32 σ (vG vStp 2 ss) (.sl [.agg (stC ⟨x.comb, ts⟩)] .no) = some (vG vStp 2 (ss ++ [⟨x.comb, ts⟩])) := fun σ => by
      refine Qkq (f := vStp) (x := ⟨x.comb, ts⟩) (fun _ => rfl) (fun _ => Wev) (fun _ => rfl) ?_
      unfold Qbu
      omega
    have s1 : stV [.cells (mkC n p X), .cells (coC v c), .cells ((rwG 0 ss ps).set 1 (vSl vStp (slo ss))), .cells (cpC v x), .cells (stG x.comb ts)] 1 (.ptr 2 1) (vSl vStp (slo (ss ++ [⟨x.comb, ts⟩]))) (vG vStp 2 (ss ++ [⟨x.comb, ts⟩])) = some (.undef, [.cells (mkC n p X), .cells (coC v c), .cells (rwG 0 (ss ++ [⟨x.comb, ts⟩]) ps), .cells (cpC v x), .cells (stG x.comb ts)]) := We4 (φ := [_, _]) (cs := (rwG 0 ss ps).set 1 (vSl vStp (slo ss))) rfl (show 1 < 3 by decide)
    have cl3 : Cl0 [.cells (mkC n p X), .cells (coC v c), .cells (rwG 0 (ss ++ [⟨x.comb, ts⟩]) ps)] := Qae (Qar hX) (Qae (Qep hv) (Qae Qkw Qay))
    have c3 : ∀ τ : Objs, cuO 3 (.cells (mkC n p X) :: .cells (coC v c) :: .cells (rwG 0 (ss ++ [⟨x.comb, ts⟩]) ps) :: τ) = some [.cells (mkC n p X), .cells (coC v c), .cells (rwG 0 (ss ++ [⟨x.comb, ts⟩]) ps)] := fun τ => Qd9 (σ := [_, _, _]) (τ := τ) (Qb5 cl3)
    rw [u_Z5_1]
    unfold Qb3
    rw [List.append_nil]
    clear hR
    generalize (rwG 0 ss ps).set 1 (vSl vStp (slo ss)) = R1 at *
    generalize rwG 0 (ss ++ [⟨x.comb, ts⟩]) ps = R2 at *
    generalize rwG 0 ss ps = R0 at *
    generalize hS : ss ++ [(⟨x.comb, ts⟩ : Stp)] = SS at *
    generalize stC ⟨x.comb, ts⟩ = SC at *
    generalize stG x.comb ts = SG at *
    generalize mkC n p X = M at *
    generalize coC v c = C at *
    generalize cpC v x = Y at *
    simp +contextual -implicitDefEqProofs (disch := first | assumption | omega | (simp -implicitDefEqProofs only [go_sem]; try omega)) only [↓reduceIte, go_sem, iP, iN, w64, w8, w32, b_Z5_1, e1, f2, c5, ld1, ld2, b1, a1, s1, c3, Qak, n_vG]
  | s :: r, q, p, m, ts, hq, hp, hm, ht => by
    have hlen : x.list.l.length = q.length + r.length + 1 := by rw [hq]; simp; omega
    have hm' : m + (4 + w0 s.of) + wX w0 r ≤ 800000 := by
      have : wX w0 (s :: r) = 4 + w0 s.of + wX w0 r := rfl
      omega
    have hPr := (hR p s.of m .nils rfl hp (by omega)).2.1
    have hPt : Pz (Qdd r0 n p s).2 (m + (4 + w0 s.of)) := Pz.term hp hPr
    obtain ⟨ih1, ih2⟩ := Wb1 c i hi ss hss ps x hxl r1 r (q ++ [s]) (Qdd r0 n p s).2 (m + (4 + w0 s.of)) (ts ++ [(Qdd r0 n p s).1]) (by rw [hq]; simp) hPt hm' (by rw [List.length_append]; have h1 : [(Qdd r0 n p s).1].length = 1 := rfl; rw [List.length_cons] at ht; omega)
    rw [show ((q ++ [s]).length : Int) = q.length + 1 by simp] at ih2
    refine ⟨?_, ?_⟩
    · have e : m + wX w0 (s :: r) = m + (4 + w0 s.of) + wX w0 r := by
        show m + (4 + w0 s.of + wX w0 r) = _
        omega
      rw [e]
      exact ih1
    have eT : (Qb3 r0 n p (s :: r)).2 = (Qb3 r0 n (Qdd r0 n p s).2 r).2 := rfl
    have eT1 : ts ++ (Qb3 r0 n p (s :: r)).1 = ts ++ [(Qdd r0 n p s).1] ++ (Qb3 r0 n (Qdd r0 n p s).2 r).1 := by
      rw [List.append_assoc]; rfl
    rw [eT, eT1, ← ih2, u_Z5_1]
    clear ih1 ih2 eT eT1
    have e1 : (q.length : Int) < x.list.l.length := by omega
    have i1 : eI 11 (.int .i64 q.length) (vSl (vSm v) x.list) = some (.eptr (smC v s) 0) := Qaz (f := vSm v) hq rfl rfl
    have i2 : ∀ σ, eL σ true 11 (.eptr (smC v s) 0) = some (.agg (smC v s)) := fun σ => Qdb rfl Qen
    have i3 : stV [.cells (mkC n p X), .cells (coC v c), .cells (rwG 0 ss ps), .cells (cpC v x), .cells (stG x.comb ts), .cells [.int .i64 0, .int .i64 0, .str [], .str [], .int .i64 0, .str [], .bool false, .int .i64 0, .int .i64 0, .int .i64 0, .nils]] 11 (.ptr 5 0) (.agg (smC v s)) (.agg (smC v s)) = some (.undef, [.cells (mkC n p X), .cells (coC v c), .cells (rwG 0 ss ps), .cells (cpC v x), .cells (stG x.comb ts), .cells (smC v s)]) := Qi3 rfl rfl rfl Qkm Qen
    have ld1 : Qcv [.cells (mkC n p X), .cells (coC v c), .cells (rwG 0 ss ps), .cells (cpC v x), .cells (stG x.comb ts), .cells (smC v s)] (.ptr 4 1) = some (vG vT 3 ts, [.cells (mkC n p X), .cells (coC v c), .cells (rwG 0 ss ps), .cells (cpC v x), .cells ((stG x.comb ts).set 1 (vSl vT (slo ts))), .cells (smC v s)]) := Qm6 (φ := [_, _, _, _]) rfl rfl
    have ld2 : eL [.cells (mkC n p X), .cells (coC v c), .cells (rwG 0 ss ps), .cells (cpC v x), .cells ((stG x.comb ts).set 1 (vSl vT (slo ts))), .cells (smC v s)] true 11 (.ptr 5 0) = some (.agg (smC v s)) := Qbt rfl rfl Qen
    have lk : Qj4 [Qct [.cells (mkC n p X), .cells (coC v c), .cells (rwG 0 ss ps), .cells (cpC v x), .cells (stG x.comb ts), .cells (smC v s)] (.ptr 4 1)] [.cells (mkC n p X), .cells (coC v c), .cells (rwG 0 ss ps), .cells (cpC v x), .cells ((stG x.comb ts).set 1 (vSl vT (slo ts))), .cells (smC v s)] = some [.cells (mkC n p X), .cells (coC v c), .cells (rwG 0 ss ps), .cells (cpC v x), .cells ((stG x.comb ts).set 1 (vK vT ts)), .cells (smC v s)] := Qxr (sz := 3) (φ := [_, _, _, _]) rfl rfl
    have hK : V.rbs 0 ((stG x.comb ts).set 1 (vK vT ts)) = true := by
      show V.rbs 0 [V.int .i64 x.comb, vK vT ts] = true
      simp only [Qaf, Qdi, Qby, Wal Qg2, Bool.and_true]
    have k1 := Wig hv hn hR hX s hp (by omega) [.cells (coC v c), .cells (rwG 0 ss ps), .cells (cpC v x), .cells ((stG x.comb ts).set 1 (vK vT ts)), .cells (smC v s)] (Qae (Qep hv) (Qae Qkw (Qae (Qi5 hv) (Qae hK (Qae (Qb2 hv) Qay)))))
    have b1 : ∀ t : Trm, Qax true 3 1 (.agg [.int .i64 0, .int .i64 0, .nils]) [(0, .agg (tmC t))] = some (.sl [.agg (tmC t)] .fx) := fun t => Qox Qd4 Qks
    have a1 : ∀ σ t, appV false true 3 40 σ (vG vT 3 ts) (.sl [.agg (tmC t)] .no) = some (vG vT 3 (ts ++ [t])) := fun σ t => Wby (by omega)
    generalize Qdd r0 n p s = q1 at *
    have op : Qgx [Qct [.cells (mkC n p X), .cells (coC v c), .cells (rwG 0 ss ps), .cells (cpC v x), .cells (stG x.comb ts), .cells (smC v s)] (.ptr 4 1)] [.cells (mkC n p X), .cells (coC v c), .cells (rwG 0 ss ps), .cells (cpC v x), .cells ((stG x.comb ts).set 1 (vSl vT (slo ts))), .cells (smC v s)] [.cells (mkC n q1.2 X), .cells (coC v c), .cells (rwG 0 ss ps), .cells (cpC v x), .cells ((stG x.comb ts).set 1 (vK vT ts)), .cells (smC v s)] = some [.cells (mkC n q1.2 X), .cells (coC v c), .cells (rwG 0 ss ps), .cells (cpC v x), .cells ((stG x.comb ts).set 1 (vSl vT (slo ts))), .cells (smC v s)] := We5 (sz := 3) (φ := [_, _, _, _]) (φ' := [_, _, _, _]) rfl rfl rfl
    have s1 : stV [.cells (mkC n q1.2 X), .cells (coC v c), .cells (rwG 0 ss ps), .cells (cpC v x), .cells ((stG x.comb ts).set 1 (vSl vT (slo ts))), .cells (smC v s)] 1 (.ptr 4 1) (vSl vT (slo (ts ++ [q1.1]))) (vG vT 3 (ts ++ [q1.1])) = some (.undef, [.cells (mkC n q1.2 X), .cells (coC v c), .cells (rwG 0 ss ps), .cells (cpC v x), .cells (stG x.comb (ts ++ [q1.1])), .cells (smC v s)]) := We4 (φ := [_, _, _, _]) (cs := (stG x.comb ts).set 1 (vSl vT (slo ts))) rfl (show 1 < 2 by decide)
    have cl5 : Cl0 [.cells (mkC n q1.2 X), .cells (coC v c), .cells (rwG 0 ss ps), .cells (cpC v x), .cells (stG x.comb (ts ++ [q1.1]))] := Qae (Qar hX) (Qae (Qep hv) (Qae Qkw (Qae (Qi5 hv) (Qae Qxw Qay))))
    have c5 : cuO 5 [.cells (mkC n q1.2 X), .cells (coC v c), .cells (rwG 0 ss ps), .cells (cpC v x), .cells (stG x.comb (ts ++ [q1.1])), .cells (smC v s)] = some [.cells (mkC n q1.2 X), .cells (coC v c), .cells (rwG 0 ss ps), .cells (cpC v x), .cells (stG x.comb (ts ++ [q1.1]))] := Qd9 (σ := [_, _, _, _, _]) (τ := [_]) (Qb5 cl5)
    have f2 : ∀ k σ, fz k σ fzD (vSl (vCp v) c.list) = some (vSl (vCp v) c.list) := fun k σ => Qaw (Qaj (Qiy hv))
    have f3 : ∀ k σ, fz k σ fzD (vSl (vSm v) x.list) = some (vSl (vSm v) x.list) := fun k σ => Qaw (Qaj (Qix hv))
    have b1' := b1 q1.1
    have a1' := fun σ => a1 σ q1.1
    clear hR b1 a1 hPt
    generalize (stG x.comb ts).set 1 (vSl vT (slo ts)) = SN at *
    generalize (stG x.comb ts).set 1 (vK vT ts) = SK at *
    generalize stG x.comb (ts ++ [q1.1]) = SG2 at *
    generalize stG x.comb ts = SG at *
    generalize rwG 0 ss ps = R0 at *
    generalize mkC n q1.2 X = M2 at *
    generalize mkC n p X = M at *
    generalize coC v c = C at *
    generalize cpC v x = Y at *
    generalize smC v s = S at *
    generalize tmC q1.1 = T at *
    generalize ts ++ [q1.1] = TS at *
    simp +contextual -implicitDefEqProofs (disch := first | assumption | omega | (simp -implicitDefEqProofs only [go_sem]; try omega)) only [↓reduceIte, go_sem, iP, iN, w64, w8, w32, b_Z5_1, e1, i1, i2, i3, ld1, ld2, lk, k1, op, b1', a1', s1, c5, f2, f3, Qak, n_vG]
end
end Go.Proofs.YtapnplljnpconaaGreatDoor
