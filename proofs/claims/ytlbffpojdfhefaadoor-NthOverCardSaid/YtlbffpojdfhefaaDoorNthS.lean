/- Walk of the law's examples (speaks), and of the reference's Row. -/
import Derived.Test.YtlbffpojdfhefaaDoorNthK
namespace Go.Proofs.YtlbffpojdfhefaaDoor
open Go.RowKit
attribute [local go_sem ↓] Go.wp_at_zero Go.wp_at_succ

theorem canon21 : Canon [] [true, false] := by
  refine ⟨by simp, fun m h1 h2 hp => ?_, fun n hn => by simp at hn⟩
  have e : m = 1 := by simp at h2; omega
  subst e
  have := hp 0
  simp [per] at this
theorem sq21 (k : Nat) : sq [] [true, false] k = hasB 2 1 ((k : Int) + 1) := by
  rw [hasB_pos 2 1 _ (by omega) (by omega) (by omega)]
  unfold sq per
  simp only [List.length_nil, Nat.not_lt_zero, if_false, Nat.sub_zero, List.length_cons]
  rcases Nat.mod_two_eq_zero_or_one k with h | h
  · rw [show (0 + 1 + 1) = 2 from rfl, h]; symm
    exact decide_eq_true (by omega)
  · rw [show (0 + 1 + 1) = 2 from rfl, h]; symm
    exact decide_eq_false (by omega)
theorem canon13 : Canon [true, true, true] [false] := by
  refine ⟨by simp, fun m h1 h2 => by simp at h2; omega, fun n hn => ?_⟩
  have e : n = 2 := by simp at hn; omega
  subst e; decide
theorem sq13 (k : Nat) : sq [true, true, true] [false] k = hasB (-1) 3 ((k : Int) + 1) := by
  match k with
  | 0 => decide
  | 1 => decide
  | 2 => decide
  | k + 3 =>
    rw [hasB_none (-1) 3 _ (by omega) (by omega) (by omega)]
    simp [sq, per, Nat.mod_one]

/-- What Of gives where its numbers are small: a set, and no error. -/
theorem of_ok (A B : Int) (w : World) (hA : -1000 ≤ A ∧ A ≤ 1000) (hB : -1000 ≤ B ∧ B ≤ 1000) :
    Calls Tryd.prog 6 #[.agg #[.int .i64 A, .int .i64 B]] w (OfOk A B w) := by
  refine (of_any A B w (by omega) (by omega)).mono fun e w' h => ?_
  rcases h with h | ⟨_, _, _, _, _, h, _⟩
  · exact h
  · exfalso
    unfold hdOf headI rdOf at h
    split at h <;> simp only at * <;> omega

set_option maxHeartbeats 1000000 in
theorem speaks_any (w : World) : Calls Tryd.prog 4 #[] w (RetB w true) := by
  go_enter Tryd.func4, Tryd.ntmps4
  go_wp2_with fail
  refine (of_ok 2 1 w (by omega) (by omega)).mono ?_
  rintro e w1 ⟨v1, h1, r1, rfl, s1, c1, q1, -, -, -, hb1⟩
  obtain ⟨rfl, rfl⟩ := canon_unique c1 canon21 (fun k => by rw [q1, sq21])
  obtain ⟨a0, m0, x0, a1, m1, x1, r0, rfl, -, -, -⟩ := s1.open
  have S1 := Lib.hid s1
  clear s1 c1 q1
  go_wp2_with fail
  have hba : Below w.heap.size w (w1.alloc (.cells #[.slice a0 m0 x0, .slice a1 m1 x1] 28)) := hb1.trans ((below_a1 _ _).mono hb1.size)
  refine (of_ok (-1) 3 _ (by omega) (by omega)).mono ?_
  rintro e w2 ⟨v2, h2, r2, rfl, s2, c2, q2, -, -, -, hb2⟩
  obtain ⟨rfl, rfl⟩ := canon_unique c2 canon13 (fun k => by rw [q2, sq13])
  obtain ⟨a2, m2, x2, a3, m3, x3, r3, rfl, -, -, -⟩ := s2.open
  have S2 := Lib.hid s2
  have d0 : w2.cell? ⟨w1.heap.size, 0, none⟩ = some (.slice a0 m0 x0) := by rw [hb2.cell (by simp)]; simp [go_sem]
  have d1 : w2.cell? ⟨w1.heap.size, 1, none⟩ = some (.slice a1 m1 x1) := by rw [hb2.cell (by simp)]; simp [go_sem]
  have hlt : w1.heap.size < w2.heap.size := by have := hb2.size; simp at this; omega
  have hbb : Below w.heap.size w w2 := hba.trans (hb2.mono hba.size)
  have HBB := Lib.hid hbb
  have SS1 := Lib.hid ((S1.out.keep (below_a1 w1 (.cells #[.slice a0 m0 x0, .slice a1 m1 x1] 28))).keep hb2)
  clear s2 c2 q2 hb1 hb2 hba hbb
  go_wp2_with fail
  refine (parts_any _ _ [] [true, false] _ (SS1.out.keep (below_a1 _ _))).mono ?_
  rintro e w3 ⟨rfl, hb3⟩
  have d2 : w3.cell? ⟨w2.heap.size, 0, none⟩ = some (.slice a2 m2 x2) := by rw [hb3.cell (by simp)]; simp [go_sem]
  have d3 : w3.cell? ⟨w2.heap.size, 1, none⟩ = some (.slice a3 m3 x3) := by rw [hb3.cell (by simp)]; simp [go_sem]
  have hb33 : Below w2.heap.size w2 w3 := (below_a1 _ _).trans (hb3.mono (by simp))
  have hlt3 : w2.heap.size < w3.heap.size := by have := hb3.size; simp at this; omega
  clear hb3
  go_wp2_with fail
  refine (parts_any _ _ [true, true, true] [false] _ (S2.out.keep hb33)).mono ?_
  rintro e w4 ⟨rfl, hb4⟩
  have hbf : Below w.heap.size w w4 := (HBB.out.trans (hb33.mono HBB.out.size)).trans (hb4.mono (Nat.le_trans HBB.out.size hb33.size))
  go_wp2
  go_ret
  exact ⟨rfl, hbf⟩

end Go.Proofs.YtlbffpojdfhefaaDoor
