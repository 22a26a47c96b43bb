/- The reference's Fold. -/
import Derived.Test.YtlbffpojdfhefaaNthC
namespace Go.Proofs.Ytlbffpojdfhefaa
open Go.RowKit

theorem foldI_small (h p n : Int) (hc : n - h ≤ p) : foldI h p n = n := by simp [foldI, hc]
theorem foldI_step (h p n : Int) (p1 : 1 ≤ p) (hc : ¬ n - h ≤ p) : n - p * ((n - h - 1) / p) = h + 1 + (n - h - 1) % p ∧ foldI h p (n - p * ((n - h - 1) / p)) = foldI h p n := by
  have e := Int.mul_ediv_add_emod (n - h - 1) p
  have m1 := Int.emod_nonneg (n - h - 1) (show p ≠ 0 by omega)
  have m2 := Int.emod_lt_of_pos (n - h - 1) (show 0 < p by omega)
  have e1 : n - p * ((n - h - 1) / p) = h + 1 + (n - h - 1) % p := by omega
  refine ⟨e1, ?_⟩
  rw [e1, foldI_small h p _ (by omega)]
  unfold foldI; rw [if_neg (by omega)]
set_option maxHeartbeats 400000 in
theorem refFold_any (h p n : Int) (h1 : 0 ≤ h) (h2 : h ≤ 1099511627776) (p1 : 1 ≤ p) (p2 : p ≤ 4611686018427387904) (n1 : 0 ≤ n) (n2 : n ≤ 1099511627776) (w : World) :
    Calls Try.prog 12 #[.int .i64 h, .int .i64 p, .int .i64 n] w fun e w' => e = .returned (.int .i64 (foldI h p n)) ∧ w = w' := by
  go_enter Try.func12, Try.ntmps12
  go_wp2
  go_loop [2] (fun u => ∃ m : Int, 0 ≤ m ∧ m ≤ 1099511627776 ∧ u = .int .i64 m ∧ Hid (foldI h p m = foldI h p n)) (fun u => (intOf u).toNat)
  case atStart => exact ⟨n, n1, n2, rfl, rfl⟩
  case round =>
    obtain ⟨m, hm1, hm2, rfl, hf⟩ := hrel
    have t1 : (1 ≤ p) := p1
    by_cases hc : m - h ≤ p
    · go_wp2
      go_ret
      exact ⟨ret_int (by have := hf.out; rw [foldI_small h p m hc] at this; exact this), rfl⟩
    · obtain ⟨e1, e2⟩ := foldI_step h p m p1 hc
      have m1 := Int.emod_nonneg (m - h - 1) (show p ≠ 0 by omega)
      have m2 := Int.emod_lt_of_pos (m - h - 1) (show 0 < p by omega)
      have m3 := Int.ediv_nonneg (show 0 ≤ m - h - 1 by omega) (show 0 ≤ p by omega)
      have m4 := Int.ediv_le_self p (show 0 ≤ m - h - 1 by omega)
      have e3 : 0 ≤ p * ((m - h - 1) / p) := Int.mul_nonneg (by omega) m3
      have e4 : p * ((m - h - 1) / p) ≤ m := by omega
      have e5 : m - p * ((m - h - 1) / p) ≤ h + p := by omega
      have e6 : 0 ≤ m - p * ((m - h - 1) / p) := by omega
      have e7 : m - p * ((m - h - 1) / p) < m := by omega
      have E2 := Lib.hid e2
      have p0 : ¬ p = 0 := by omega
      clear e1 e2
      go_wp2
      go_round
      case rel => exact ⟨_, e6, by omega, rfl, E2.out.trans hf.out⟩
      case measure => simp [intOf]; omega
end Go.Proofs.Ytlbffpojdfhefaa
