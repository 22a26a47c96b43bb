/- Walks of divisor, common, size, Fold and the reference's of these. -/
import Derived.Test.YtlbffpojdfhefaaNthA
import Derived.RegionTactic
namespace Go.Proofs.Ytlbffpojdfhefaa
open Go.RowKit

def gcdI (a b : Int) : Int := (Int.gcd a b : Int)
theorem gcdI_pos (a b : Int) (h : 1 ≤ a) : 1 ≤ gcdI a b := by
  unfold gcdI; have := Int.gcd_pos_of_ne_zero_left b (show a ≠ 0 by omega); omega
theorem gcdI_le (a b : Int) (h : 1 ≤ b) : gcdI a b ≤ b := by
  unfold gcdI; exact Int.le_of_dvd (by omega) (Int.gcd_dvd_right a b)
theorem gcdI_step (x y : Int) (hx : 0 ≤ x) (hy : 0 < y) : gcdI y (x % y) = gcdI x y := by
  unfold gcdI
  obtain ⟨a, rfl⟩ := Int.eq_ofNat_of_zero_le hx
  obtain ⟨b, rfl⟩ := Int.eq_ofNat_of_zero_le (Int.le_of_lt hy)
  rw [← Int.natCast_emod, Int.gcd_natCast_natCast, Int.gcd_natCast_natCast, Nat.gcd_comm b, ← Nat.gcd_rec, Nat.gcd_comm]
theorem gcdI_zero (x : Int) (hx : 0 ≤ x) : gcdI x 0 = x := by
  unfold gcdI; rw [Int.gcd_zero]; omega

set_option maxHeartbeats 400000 in
theorem divisor_any (a b : Int) (ha : 0 ≤ a) (hb : 0 ≤ b) (ha' : a ≤ 4611686018427387904) (hb' : b ≤ 4611686018427387904) (w : World) :
    Calls Try.prog 40 #[.int .i64 a, .int .i64 b] w fun e w' => e = .returned (.int .i64 (gcdI a b)) ∧ Below w.heap.size w w' := by
  go_enter Try.func40, Try.ntmps40
  go_wp2
  go_loopw [0, 1] (fun u v w' => ∃ x y : Int, 0 ≤ x ∧ 0 ≤ y ∧ x ≤ 4611686018427387904 ∧ y ≤ 4611686018427387904 ∧ u = .int .i64 x ∧ v = .int .i64 y ∧ Hid (gcdI x y = gcdI a b) ∧ Below w.heap.size w w') (fun _ v _ => (intOf v).toNat)
  case atStart => exact ⟨a, b, ha, hb, ha', hb', rfl, rfl, rfl, Below.refl _ _⟩
  case round =>
    obtain ⟨x, y, hx, hy, hx', hy', rfl, rfl, hg, hbl⟩ := hrel
    by_cases hc : 0 < y
    · have hm1 := Int.emod_nonneg x (show y ≠ 0 by omega)
      have hm2 := Int.emod_lt_of_pos x hc
      have hy0 : ¬ y = 0 := by omega
      go_wp2
      go_quiet (fail)
      go_wp2
      go_roundw
      case rel => exact ⟨y, x % y, by omega, by omega, by omega, by omega, rfl, rfl, (gcdI_step x y hx hc).trans hg, below_drewN hbl _⟩
      case measure => simp [intOf]; omega
    · have hy0 : y = 0 := by omega
      subst hy0
      go_wp2
      go_ret
      exact ⟨ret_int (by have := hg.out; rw [gcdI_zero x hx] at this; exact this), hbl⟩

set_option maxHeartbeats 400000 in
theorem refDivisor_any (a b : Int) (ha : 0 ≤ a) (hb : 0 ≤ b) (ha' : a ≤ 4611686018427387904) (hb' : b ≤ 4611686018427387904) (w : World) :
    Calls Try.prog 26 #[.int .i64 a, .int .i64 b] w fun e w' => e = .returned (.int .i64 (gcdI a b)) ∧ w = w' := by
  go_enter Try.func26, Try.ntmps26
  go_wp2
  go_loop [0, 1] (fun u v => ∃ x y : Int, 0 ≤ x ∧ 0 ≤ y ∧ x ≤ 4611686018427387904 ∧ y ≤ 4611686018427387904 ∧ u = .int .i64 x ∧ v = .int .i64 y ∧ Hid (gcdI x y = gcdI a b)) (fun _ v => (intOf v).toNat)
  case atStart => exact ⟨a, b, ha, hb, ha', hb', rfl, rfl, rfl⟩
  case round =>
    obtain ⟨x, y, hx, hy, hx', hy', rfl, rfl, hg⟩ := hrel
    by_cases hc : 0 < y
    · have hm1 := Int.emod_nonneg x (show y ≠ 0 by omega)
      have hm2 := Int.emod_lt_of_pos x hc
      have hy0 : ¬ y = 0 := by omega
      have hy1 : (y == 0) = false := by simpa using hy0
      go_wp2
      go_round
      case rel => exact ⟨y, x % y, by omega, by omega, by omega, by omega, rfl, rfl, (gcdI_step x y hx hc).trans hg⟩
      case measure => simp [intOf]; omega
    · have hy0 : y = 0 := by omega
      subst hy0
      go_wp2
      go_ret
      exact ⟨ret_int (by have := hg.out; rw [gcdI_zero x hx] at this; exact this), rfl⟩

/-- The least common multiple, at most 2^62. -/
def satI (a b : Int) : Int := if 4611686018427387904 / (b / gcdI a b) < a then 4611686018427387904 else a * (b / gcdI a b)
theorem quo_pos (a b : Int) (ha : 1 ≤ a) (hb : 1 ≤ b) : 1 ≤ b / gcdI a b := by
  have h1 := gcdI_le a b hb
  have h2 := gcdI_pos a b ha
  exact (Int.le_ediv_iff_mul_le (by omega)).2 (by omega)
theorem quo_le (a b : Int) (ha : 1 ≤ a) (hb : 1 ≤ b) : b / gcdI a b ≤ b := Int.ediv_le_self _ (by omega)
theorem satI_ok (a b : Int) (ha : 1 ≤ a) (hb : 1 ≤ b) (h : ¬ 4611686018427387904 / (b / gcdI a b) < a) : 1 ≤ a * (b / gcdI a b) ∧ a * (b / gcdI a b) ≤ 4611686018427387904 := by
  have h1 := quo_pos a b ha hb
  refine ⟨by have := Int.mul_le_mul ha h1 (by omega) (by omega); omega, ?_⟩
  have h2 : a ≤ 4611686018427387904 / (b / gcdI a b) := by omega
  exact (Int.le_ediv_iff_mul_le (by omega)).1 h2
theorem satI_bd (a b : Int) (ha : 1 ≤ a) (hb : 1 ≤ b) : 1 ≤ satI a b ∧ satI a b ≤ 4611686018427387904 := by
  unfold satI; split
  · omega
  · exact satI_ok a b ha hb ‹_›

set_option maxHeartbeats 400000 in
theorem common_any (a b : Int) (ha : 1 ≤ a) (hb : 1 ≤ b) (ha' : a ≤ 4611686018427387904) (hb' : b ≤ 4611686018427387904) (w : World) :
    Calls Try.prog 24 #[.int .i64 a, .int .i64 b] w fun e w' => e = .returned (.int .i64 (satI a b)) ∧ Below w.heap.size w w' := by
  have g1 := gcdI_pos a b ha
  have g2 := gcdI_le a b hb
  have q1 := quo_pos a b ha hb
  have q2 := quo_le a b ha hb
  have g0 : ¬ gcdI a b = 0 := by omega
  have q0 : ¬ b / gcdI a b = 0 := by omega
  by_cases hc : 4611686018427387904 / (b / gcdI a b) < a
  · have F := Lib.hid (show satI a b = 4611686018427387904 by simp [satI, hc])
    go_enter Try.func24, Try.ntmps24
    go_wp2_with (go_at_call 40; refine (divisor_any _ _ (by omega) (by omega) ha' hb' _).mono ?_; rintro e w' ⟨rfl, hbl⟩)
    go_ret
    exact ⟨ret_int F.out.symm, hbl⟩
  · have F := Lib.hid (show satI a b = a * (b / gcdI a b) by simp [satI, hc])
    obtain ⟨m1, m2⟩ := satI_ok a b ha hb hc
    go_enter Try.func24, Try.ntmps24
    go_wp2_with (go_at_call 40; refine (divisor_any _ _ (by omega) (by omega) ha' hb' _).mono ?_; rintro e w' ⟨rfl, hbl⟩)
    go_ret
    exact ⟨ret_int F.out.symm, hbl⟩

set_option maxHeartbeats 400000 in
theorem size_any (n : Int) (h1 : -1099511627776 ≤ n) (h2 : n ≤ 1099511627776) (w : World) :
    Calls Try.prog 25 #[.int .i64 n] w fun e w' => e = .returned (.int .i64 (n.natAbs : Int)) ∧ w = w' := by
  go_enter Try.func25, Try.ntmps25
  go_wp2
  all_goals go_ret
  all_goals refine ⟨ret_int ?_, rfl⟩
  all_goals omega

theorem emod_le0 (x p : Int) (h : 0 ≤ x) : x % p ≤ x := by
  obtain ⟨a, rfl⟩ := Int.eq_ofNat_of_zero_le h
  rcases Int.eq_nat_or_neg p with ⟨q, rfl | rfl⟩
  · rw [← Int.natCast_emod]; have := Nat.mod_le a q; omega
  · rw [Int.emod_neg, ← Int.natCast_emod]; have := Nat.mod_le a q; omega
def foldI (h p n : Int) : Int := if p < 1 ∨ n - h ≤ p then n else h + 1 + (n - h - 1) % p
set_option maxHeartbeats 400000 in
theorem fold_any (h p n : Int) (h1 : 0 ≤ h) (h2 : h ≤ 1099511627776) (p1 : 1 ≤ p) (p2 : p ≤ 4611686018427387904) (n1 : 0 ≤ n) (n2 : n ≤ 1099511627776) (w : World) :
    Calls Try.prog 11 #[.int .i64 h, .int .i64 p, .int .i64 n] w fun e w' => e = .returned (.int .i64 (foldI h p n)) ∧ w = w' := by
  by_cases hc : n - h ≤ p
  · have F := Lib.hid (show foldI h p n = n by simp [foldI, hc])
    go_enter Try.func11, Try.ntmps11
    go_wp2
    go_ret
    exact ⟨ret_int F.out.symm, rfl⟩
  · have F := Lib.hid (show foldI h p n = h + 1 + (n - h - 1) % p by unfold foldI; rw [if_neg (by omega)])
    have m1 := Int.emod_nonneg (n - h - 1) (show p ≠ 0 by omega)
    have m2 := Int.emod_lt_of_pos (n - h - 1) (show 0 < p by omega)
    have m3 := emod_le0 (n - h - 1) p (by omega)
    have p0 : ¬ p = 0 := by omega
    go_enter Try.func11, Try.ntmps11
    go_wp2
    go_ret
    exact ⟨ret_int F.out.symm, rfl⟩
end Go.Proofs.Ytlbffpojdfhefaa
