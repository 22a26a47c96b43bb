/- Walks of Span, the reference's Span and Fold. -/
import Derived.Test.YtlbffpojdfhefaaNthB
namespace Go.Proofs.Ytlbffpojdfhefaa
open Go.RowKit

def headI (x : Int × Int) : Int := if 0 < x.1 then x.2 - 1 else x.2
def stepH (h : Int) (x : Int × Int) : Int := max h (headI x)
def stepP (p : Int) (x : Int × Int) : Int := if x.1 = 0 then p else satI p (x.1.natAbs : Int)
def spanH (xs : List (Int × Int)) : Int := xs.foldl stepH 0
def spanP (xs : List (Int × Int)) : Int := xs.foldl stepP 1
def Bd (x : Int × Int) : Prop := (-1099511627776 ≤ x.1 ∧ x.1 ≤ 1099511627776) ∧ (-1099511627776 ≤ x.2 ∧ x.2 ≤ 1099511627776)
theorem foldH_bd (xs : List (Int × Int)) (hx : ∀ x ∈ xs, Bd x) : ∀ h, 0 ≤ h → h ≤ 1099511627776 → 0 ≤ xs.foldl stepH h ∧ xs.foldl stepH h ≤ 1099511627776 := by
  induction xs with
  | nil => intro h h1 h2; exact ⟨h1, h2⟩
  | cons x xs ih =>
    intro h h1 h2
    have hb := hx x (by simp)
    refine ih (fun y hy => hx y (by simp [hy])) _ ?_ ?_
    · unfold stepH; omega
    · unfold stepH headI; obtain ⟨_, hb⟩ := hb; split <;> omega
theorem foldP_bd (xs : List (Int × Int)) : ∀ p, 1 ≤ p → p ≤ 4611686018427387904 → 1 ≤ xs.foldl stepP p ∧ xs.foldl stepP p ≤ 4611686018427387904 := by
  induction xs with
  | nil => intro h h1 h2; exact ⟨h1, h2⟩
  | cons x xs ih =>
    intro p h1 h2
    have : 1 ≤ stepP p x ∧ stepP p x ≤ 4611686018427387904 := by
      unfold stepP; split
      · exact ⟨h1, h2⟩
      · exact satI_bd _ _ h1 (by omega)
    exact ih _ this.1 this.2
theorem spanH_bd (xs : List (Int × Int)) (hx : ∀ x ∈ xs, Bd x) : 0 ≤ spanH xs ∧ spanH xs ≤ 1099511627776 := foldH_bd xs hx 0 (by omega) (by omega)
theorem spanP_bd (xs : List (Int × Int)) : 1 ≤ spanP xs ∧ spanP xs ≤ 4611686018427387904 := foldP_bd xs 1 (by omega) (by omega)
theorem take_getD (xs : List (Int × Int)) (k : Nat) (h : k < xs.length) : xs.take (k + 1) = xs.take k ++ [xs.getD k (0, 0)] := by
  rw [List.take_succ_eq_append_getElem h]; simp [List.getD, h]
theorem spanH_snoc (xs : List (Int × Int)) (k : Nat) (h : k < xs.length) : spanH (xs.take (k + 1)) = stepH (spanH (xs.take k)) (xs.getD k (0, 0)) := by
  rw [take_getD xs k h]; simp [spanH]
theorem spanP_snoc (xs : List (Int × Int)) (k : Nat) (h : k < xs.length) : spanP (xs.take (k + 1)) = stepP (spanP (xs.take k)) (xs.getD k (0, 0)) := by
  rw [take_getD xs k h]; simp [spanP]
theorem bd_take {xs : List (Int × Int)} (hx : ∀ x ∈ xs, Bd x) (k : Nat) : ∀ x ∈ xs.take k, Bd x := fun x h => hx x (List.mem_of_mem_take h)
theorem bd_getD {xs : List (Int × Int)} (hx : ∀ x ∈ xs, Bd x) (k : Nat) (h : k < xs.length) : Bd (xs.getD k (0, 0)) := by
  have : xs.getD k (0, 0) = xs[k] := by simp [List.getD, h]
  rw [this]; exact hx _ (List.getElem_mem h)
def RowAB := RowG gAB 2 (0, 0)

set_option maxHeartbeats 1000000 in
theorem span_any (a : Option Addr) (n c : Nat) (xs : List (Int × Int)) (w : World) (hr : RowAB w a n c xs) (hx : ∀ x ∈ xs, Bd x) :
    Calls Try.prog 9 #[.slice a n c] w fun e w' => e = .returned (.tuple #[.int .i64 (spanH xs), .int .i64 (spanP xs)]) ∧ Below w.heap.size w w' := by
  have hn := RowG.len hr
  have hle := RowG.le hr
  have HR := Lib.hid hr
  have HX := Lib.hid hx
  have HN := Lib.hid hn
  clear hr hx hn
  go_enter Try.func9, Try.ntmps9
  go_wp2
  go_loopw [2, 3, 9] (fun h p i w' => ∃ (k : Nat) (H P : Int), k ≤ n ∧ i = .int .i64 k ∧ h = .int .i64 H ∧ p = .int .i64 P ∧ 0 ≤ H ∧ H ≤ 1099511627776 ∧ 1 ≤ P ∧ P ≤ 4611686018427387904 ∧ Hid (H = spanH (xs.take k) ∧ P = spanP (xs.take k)) ∧ Below w.heap.size w w') (fun _ _ i _ => n - (intOf i).toNat)
  case atStart => exact ⟨0, 0, 1, by omega, rfl, rfl, rfl, by omega, by omega, by omega, by omega, ⟨rfl, rfl⟩, Below.refl _ _⟩
  case round =>
    obtain ⟨k, H, P, hk, rfl, rfl, rfl, h1, h2, p1, p2, HHP, hbl⟩ := hrel
    by_cases hlt : k < n
    · obtain ⟨b, off, rfl, hb, hcell⟩ := (HR.out).at (show 0 < n by omega)
      have hbd := bd_getD HX.out k (by rw [HN.out]; exact hlt)
      have c0 := hcell k hlt 0 _ rfl
      have c1 := hcell k hlt 1 _ rfl
      clear hcell
      rw [← hbl.cell (p := ⟨b, off + k * 2 + 0, none⟩) hb] at c0
      rw [← hbl.cell (p := ⟨b, off + k * 2 + 1, none⟩) hb] at c1
      simp only [Nat.add_zero] at c0
      have HS : Hid (spanH (xs.take (k + 1)) = stepH H (xs.getD k (0, 0)) ∧ spanP (xs.take (k + 1)) = stepP P (xs.getD k (0, 0))) := by
        rw [HHP.out.1, HHP.out.2]; exact ⟨spanH_snoc xs k (by rw [HN.out]; exact hlt), spanP_snoc xs k (by rw [HN.out]; exact hlt)⟩
      generalize xs.getD k (0, 0) = x at c0 c1 hbd HS
      obtain ⟨A, B⟩ := x
      obtain ⟨⟨a1, a2⟩, ⟨b1, b2⟩⟩ := hbd
      clear HHP
      have hsz := hbl.size
      have hb' : b < wr.heap.size := Nat.lt_of_lt_of_le hb hbl.size
      simp only at c0 c1 a1 a2 b1 b2
      have hAx : A = 0 ∨ ¬ A = 0 := by omega
      rcases hAx with hA | hA
      · subst hA
        go_wp2
        go_roundw
        case rel => exact ⟨k + 1, _, _, by omega, by go_num, rfl, rfl, by split <;> omega, by split <;> omega, p1, p2, ⟨by rw [HS.out.1]; simp only [stepH, headI]; split <;> omega, by rw [HS.out.2]; simp [stepP]⟩, (hbl.alloc (by omega) _)⟩
        case measure => simp [intOf]; omega
      · have hA' : (A == 0) = false := by simpa using hA
        have sb := satI_bd P (A.natAbs : Int) p1 (by omega)
        obtain ⟨s1, s2⟩ := sb
        go_wp2_with (first | (go_at_call 25; refine (size_any _ a1 a2 _).mono ?_; rintro e w' ⟨rfl, rfl⟩) | (go_at_call 24; refine (common_any _ _ p1 (by omega) p2 (by omega) _).mono ?_; rintro e w1 ⟨rfl, hb1⟩))
        · go_roundw
          case rel => exact ⟨k + 1, _, _, by omega, by go_num, rfl, rfl, by split <;> (try split) <;> omega, by split <;> (try split) <;> omega, s1, s2, ⟨by rw [HS.out.1]; simp only [stepH, headI]; split <;> (try split) <;> (try split) <;> omega, by rw [HS.out.2]; simp [stepP, hA]⟩, (hbl.alloc (by omega) _).trans (hb1.mono (by simp; omega))⟩
          case measure => simp [intOf]; omega
        · go_roundw
          case rel => exact ⟨k + 1, _, _, by omega, by go_num, rfl, rfl, by split <;> omega, by split <;> omega, s1, s2, ⟨by rw [HS.out.1]; simp only [stepH, headI]; split <;> (try split) <;> omega, by rw [HS.out.2]; simp [stepP, hA]⟩, (hbl.alloc (by omega) _).trans (hb1.mono (by simp; omega))⟩
          case measure => simp [intOf]; omega
    · have hkn : k = n := by omega
      subst hkn
      go_wp2
      go_ret2
      have e : xs.take k = xs := List.take_of_length_le (by rw [HN.out]; exact Nat.le_refl _)
      exact ⟨ret_ii (by rw [HHP.out.1, e]) (by rw [HHP.out.2, e]), hbl⟩

set_option maxHeartbeats 1000000 in
theorem refSpan_any (a : Option Addr) (n c : Nat) (xs : List (Int × Int)) (w : World) (hr : RowAB w a n c xs) (hx : ∀ x ∈ xs, Bd x) :
    Calls Try.prog 10 #[.slice a n c] w fun e w' => e = .returned (.tuple #[.int .i64 (spanH xs), .int .i64 (spanP xs)]) ∧ Below w.heap.size w w' := by
  have hn := RowG.len hr
  have hle := RowG.le hr
  have HR := Lib.hid hr
  have HX := Lib.hid hx
  have HN := Lib.hid hn
  clear hr hx hn
  go_enter Try.func10, Try.ntmps10
  go_wp2
  go_loopw [4, 5, 6] (fun h p i w' => ∃ (k : Nat) (H P : Int), k ≤ n ∧ i = .int .i64 k ∧ h = .int .i64 H ∧ p = .int .i64 P ∧ 0 ≤ H ∧ H ≤ 1099511627776 ∧ 1 ≤ P ∧ P ≤ 4611686018427387904 ∧ Hid (H = spanH (xs.take k) ∧ P = spanP (xs.take k)) ∧ Below w.heap.size w w') (fun _ _ i _ => n - (intOf i).toNat)
  case atStart => exact ⟨0, 0, 1, by omega, rfl, rfl, rfl, by omega, by omega, by omega, by omega, ⟨rfl, rfl⟩, Below.refl _ _⟩
  case round =>
    obtain ⟨k, H, P, hk, rfl, rfl, rfl, h1, h2, p1, p2, HHP, hbl⟩ := hrel
    by_cases hlt : k < n
    · obtain ⟨b, off, rfl, hb, hcell⟩ := (HR.out).at (show 0 < n by omega)
      have hbd := bd_getD HX.out k (by rw [HN.out]; exact hlt)
      have c0 := hcell k hlt 0 _ rfl
      have c1 := hcell k hlt 1 _ rfl
      clear hcell
      rw [← hbl.cell (p := ⟨b, off + k * 2 + 0, none⟩) hb] at c0
      rw [← hbl.cell (p := ⟨b, off + k * 2 + 1, none⟩) hb] at c1
      simp only [Nat.add_zero] at c0
      have HS : Hid (spanH (xs.take (k + 1)) = stepH H (xs.getD k (0, 0)) ∧ spanP (xs.take (k + 1)) = stepP P (xs.getD k (0, 0))) := by
        rw [HHP.out.1, HHP.out.2]; exact ⟨spanH_snoc xs k (by rw [HN.out]; exact hlt), spanP_snoc xs k (by rw [HN.out]; exact hlt)⟩
      generalize xs.getD k (0, 0) = x at c0 c1 hbd HS
      obtain ⟨A, B⟩ := x
      obtain ⟨⟨a1, a2⟩, ⟨b1, b2⟩⟩ := hbd
      clear HHP
      have hsz := hbl.size
      have hb' : b < wr.heap.size := Nat.lt_of_lt_of_le hb hbl.size
      have hk1 : (0 : Int) ≤ (k : Int) := by omega
      have hk2 : (k : Int) < (n : Int) := by omega
      simp only at c0 c1 a1 a2 b1 b2
      rcases (show A = 0 ∨ 0 < A ∨ A < 0 by omega) with hA | hA | hA
      · subst hA
        go_wp2_with fail
        go_quiet (fail)
        go_wp2
        all_goals go_roundw
        case rel => exact ⟨k + 1, _, _, by omega, by go_num, rfl, rfl, by omega, by omega, by omega, by omega, ⟨by rw [HS.out.1]; simp only [stepH, headI]; split <;> omega, by rw [HS.out.2]; simp [stepP]⟩, below_drewN hbl _⟩
        case measure => simp [intOf]; omega
        case rel => exact ⟨k + 1, _, _, by omega, by go_num, rfl, rfl, by omega, by omega, by omega, by omega, ⟨by rw [HS.out.1]; simp only [stepH, headI]; split <;> omega, by rw [HS.out.2]; simp [stepP]⟩, below_drewN hbl _⟩
        case measure => simp [intOf]; omega
      · -- above 0
        have g1 := gcdI_pos P A p1
        have g2 := gcdI_le P A (by omega)
        have q1 := quo_pos P A p1 (by omega)
        have q2 := quo_le P A p1 (by omega)
        have g0 : ¬ gcdI P A = 0 := by omega
        have q0 : ¬ A / gcdI P A = 0 := by omega
        have e0 : (A == 0) = false := by simp; omega
        have en : ((A.natAbs : Nat) : Int) = A := by omega
        have HE := Lib.hid (show stepP P (A, B) = satI P A by unfold stepP; rw [if_neg (by omega), en])
        clear en
        by_cases hc : 4611686018427387904 / (A / gcdI P A) < P
        · have F := Lib.hid (show satI P A = 4611686018427387904 by simp [satI, hc])
          go_wp2_with fail
          go_quiet (fail)
          go_wp2_with ((go_at_call 26; refine (refDivisor_any _ _ (by omega) (by omega) p2 (by omega) _).mono ?_; rintro e w1 ⟨rfl, rfl⟩))
          all_goals go_roundw
          case rel => exact ⟨k + 1, _, _, by omega, by go_num, rfl, rfl, by omega, by omega, by omega, by omega, ⟨by rw [HS.out.1]; simp only [stepH, headI]; split <;> omega, by rw [HS.out.2, HE.out, F.out]⟩, below_drewN hbl _⟩
          case measure => simp [intOf]; omega
          case rel => exact ⟨k + 1, _, _, by omega, by go_num, rfl, rfl, by omega, by omega, by omega, by omega, ⟨by rw [HS.out.1]; simp only [stepH, headI]; split <;> omega, by rw [HS.out.2, HE.out, F.out]⟩, below_drewN hbl _⟩
          case measure => simp [intOf]; omega
        · have F := Lib.hid (show satI P A = P * (A / gcdI P A) by simp [satI, hc])
          obtain ⟨m1, m2⟩ := satI_ok P A p1 (by omega) hc
          go_wp2_with fail
          go_quiet (fail)
          go_wp2_with ((go_at_call 26; refine (refDivisor_any _ _ (by omega) (by omega) p2 (by omega) _).mono ?_; rintro e w1 ⟨rfl, rfl⟩))
          all_goals go_roundw
          case rel => exact ⟨k + 1, _, _, by omega, by go_num, rfl, rfl, by omega, by omega, m1, m2, ⟨by rw [HS.out.1]; simp only [stepH, headI]; split <;> omega, by rw [HS.out.2, HE.out, F.out]⟩, below_drewN hbl _⟩
          case measure => simp [intOf]; omega
          case rel => exact ⟨k + 1, _, _, by omega, by go_num, rfl, rfl, by omega, by omega, m1, m2, ⟨by rw [HS.out.1]; simp only [stepH, headI]; split <;> omega, by rw [HS.out.2, HE.out, F.out]⟩, below_drewN hbl _⟩
          case measure => simp [intOf]; omega
      · -- below 0
        obtain ⟨M, rfl⟩ : ∃ M, A = -M := ⟨-A, by omega⟩
        have hM : 0 < M := by omega
        have hM2 : M ≤ 1099511627776 := by omega
        have g1 := gcdI_pos P M p1
        have g2 := gcdI_le P M (by omega)
        have q1 := quo_pos P M p1 (by omega)
        have q2 := quo_le P M p1 (by omega)
        have g0 : ¬ gcdI P M = 0 := by omega
        have q0 : ¬ M / gcdI P M = 0 := by omega
        have e0 : (M == 0) = false := by simp; omega
        have en : (((-M).natAbs : Nat) : Int) = M := by omega
        have HE := Lib.hid (show stepP P (-M, B) = satI P M by unfold stepP; rw [if_neg (by omega), en])
        clear en
        by_cases hc : 4611686018427387904 / (M / gcdI P M) < P
        · have F := Lib.hid (show satI P M = 4611686018427387904 by simp [satI, hc])
          go_wp2_with fail
          go_quiet (fail)
          go_wp2_with ((go_at_call 26; refine (refDivisor_any _ _ (by omega) (by omega) p2 (by omega) _).mono ?_; rintro e w1 ⟨rfl, rfl⟩))
          all_goals go_roundw
          case rel => exact ⟨k + 1, _, _, by omega, by go_num, rfl, rfl, by omega, by omega, by omega, by omega, ⟨by rw [HS.out.1]; simp only [stepH, headI]; split <;> omega, by rw [HS.out.2, HE.out, F.out]⟩, below_drewN hbl _⟩
          case measure => simp [intOf]; omega
          case rel => exact ⟨k + 1, _, _, by omega, by go_num, rfl, rfl, by omega, by omega, by omega, by omega, ⟨by rw [HS.out.1]; simp only [stepH, headI]; split <;> omega, by rw [HS.out.2, HE.out, F.out]⟩, below_drewN hbl _⟩
          case measure => simp [intOf]; omega
        · have F := Lib.hid (show satI P M = P * (M / gcdI P M) by simp [satI, hc])
          obtain ⟨m1, m2⟩ := satI_ok P M p1 (by omega) hc
          go_wp2_with fail
          go_quiet (fail)
          go_wp2_with ((go_at_call 26; refine (refDivisor_any _ _ (by omega) (by omega) p2 (by omega) _).mono ?_; rintro e w1 ⟨rfl, rfl⟩))
          all_goals go_roundw
          case rel => exact ⟨k + 1, _, _, by omega, by go_num, rfl, rfl, by omega, by omega, m1, m2, ⟨by rw [HS.out.1]; simp only [stepH, headI]; split <;> omega, by rw [HS.out.2, HE.out, F.out]⟩, below_drewN hbl _⟩
          case measure => simp [intOf]; omega
          case rel => exact ⟨k + 1, _, _, by omega, by go_num, rfl, rfl, by omega, by omega, m1, m2, ⟨by rw [HS.out.1]; simp only [stepH, headI]; split <;> omega, by rw [HS.out.2, HE.out, F.out]⟩, below_drewN hbl _⟩
          case measure => simp [intOf]; omega
    · have hkn : k = n := by omega
      subst hkn
      go_wp2
      go_ret2
      have e : xs.take k = xs := List.take_of_length_le (by rw [HN.out]; exact Nat.le_refl _)
      exact ⟨ret_ii (by rw [HHP.out.1, e]) (by rw [HHP.out.2, e]), hbl⟩
end Go.Proofs.Ytlbffpojdfhefaa
