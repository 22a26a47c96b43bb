/- Walk of the law's examples (speaks), and of the reference's Row. -/
import Derived.Test.YtlbffpojdfhefaaNthK
namespace Go.Proofs.Ytlbffpojdfhefaa
open Go.RowKit
attribute [local go_sem ↓] Go.wp_at_zero Go.wp_at_succ

theorem canon21 : Canon [] [true, false] := by
  refine ⟨by simp, fun m h1 h2 hp => ?_, fun n hn => by simp at hn⟩
  have e : m = 1 := by simp at h2; omega
  subst e
  have := hp 0
  simp [per] at this
theorem sq21 (k : Nat) : sq [] [true, false] k = hasB 2 1 ((k : Int) + 1) := by
  rw [hasB_pos 2 1 _ (by omega) (by omega) (by omega)]
  unfold sq per
  simp only [List.length_nil, Nat.not_lt_zero, if_false, Nat.sub_zero, List.length_cons]
  rcases Nat.mod_two_eq_zero_or_one k with h | h
  · rw [show (0 + 1 + 1) = 2 from rfl, h]; symm
    exact decide_eq_true (by omega)
  · rw [show (0 + 1 + 1) = 2 from rfl, h]; symm
    exact decide_eq_false (by omega)
theorem canon13 : Canon [true, true, true] [false] := by
  refine ⟨by simp, fun m h1 h2 => by simp at h2; omega, fun n hn => ?_⟩
  have e : n = 2 := by simp at hn; omega
  subst e; decide
theorem sq13 (k : Nat) : sq [true, true, true] [false] k = hasB (-1) 3 ((k : Int) + 1) := by
  match k with
  | 0 => decide
  | 1 => decide
  | 2 => decide
  | k + 3 =>
    rw [hasB_none (-1) 3 _ (by omega) (by omega) (by omega)]
    simp [sq, per, Nat.mod_one]

/-- What Of gives where its numbers are small: a set, and no error. -/
theorem of_ok (A B : Int) (w : World) (hA : -1000 ≤ A ∧ A ≤ 1000) (hB : -1000 ≤ B ∧ B ≤ 1000) :
    Calls Try.prog 14 #[.agg #[.int .i64 A, .int .i64 B]] w (OfOk A B w) := by
  refine (of_any A B w (by omega) (by omega)).mono fun e w' h => ?_
  rcases h with h | ⟨_, _, _, _, _, h, _⟩
  · exact h
  · exfalso
    unfold hdOf headI rdOf at h
    split at h <;> simp only at * <;> omega

set_option maxHeartbeats 1000000 in
theorem speaks_any (w : World) : Calls Try.prog 7 #[] w (RetB w true) := by
  go_enter Try.func7, Try.ntmps7
  go_wp2_with fail
  refine (of_ok 2 1 w (by omega) (by omega)).mono ?_
  rintro e w1 ⟨v1, h1, r1, rfl, s1, c1, q1, -, -, -, hb1⟩
  obtain ⟨rfl, rfl⟩ := canon_unique c1 canon21 (fun k => by rw [q1, sq21])
  obtain ⟨a0, m0, x0, a1, m1, x1, r0, rfl, -, -, -⟩ := s1.open
  have S1 := Lib.hid s1
  clear s1 c1 q1
  go_wp2_with fail
  have hba : Below w.heap.size w (w1.alloc (.cells #[.slice a0 m0 x0, .slice a1 m1 x1] 34)) := hb1.trans ((below_a1 _ _).mono hb1.size)
  refine (of_ok (-1) 3 _ (by omega) (by omega)).mono ?_
  rintro e w2 ⟨v2, h2, r2, rfl, s2, c2, q2, -, -, -, hb2⟩
  obtain ⟨rfl, rfl⟩ := canon_unique c2 canon13 (fun k => by rw [q2, sq13])
  obtain ⟨a2, m2, x2, a3, m3, x3, r3, rfl, -, -, -⟩ := s2.open
  have S2 := Lib.hid s2
  have d0 : w2.cell? ⟨w1.heap.size, 0, none⟩ = some (.slice a0 m0 x0) := by rw [hb2.cell (by simp)]; simp [go_sem]
  have d1 : w2.cell? ⟨w1.heap.size, 1, none⟩ = some (.slice a1 m1 x1) := by rw [hb2.cell (by simp)]; simp [go_sem]
  have hlt : w1.heap.size < w2.heap.size := by have := hb2.size; simp at this; omega
  have hbb : Below w.heap.size w w2 := hba.trans (hb2.mono hba.size)
  have HBB := Lib.hid hbb
  have SS1 := Lib.hid ((S1.out.keep (below_a1 w1 (.cells #[.slice a0 m0 x0, .slice a1 m1 x1] 34))).keep hb2)
  clear s2 c2 q2 hb1 hb2 hba hbb
  go_wp2_with fail
  refine (parts_any _ _ [] [true, false] _ (SS1.out.keep (below_a1 _ _))).mono ?_
  rintro e w3 ⟨rfl, hb3⟩
  have d2 : w3.cell? ⟨w2.heap.size, 0, none⟩ = some (.slice a2 m2 x2) := by rw [hb3.cell (by simp)]; simp [go_sem]
  have d3 : w3.cell? ⟨w2.heap.size, 1, none⟩ = some (.slice a3 m3 x3) := by rw [hb3.cell (by simp)]; simp [go_sem]
  have hb33 : Below w2.heap.size w2 w3 := (below_a1 _ _).trans (hb3.mono (by simp))
  have hlt3 : w2.heap.size < w3.heap.size := by have := hb3.size; simp at this; omega
  clear hb3
  go_wp2_with fail
  refine (parts_any _ _ [true, true, true] [false] _ (S2.out.keep hb33)).mono ?_
  rintro e w4 ⟨rfl, hb4⟩
  have hbf : Below w.heap.size w w4 := (HBB.out.trans (hb33.mono HBB.out.size)).trans (hb4.mono (Nat.le_trans HBB.out.size hb33.size))
  go_wp2
  go_ret
  exact ⟨rfl, hbf⟩

/-- The truths of an An+B for so many numbers. -/
def rowI (A B : Int) (n : Nat) : List Bool := rowOf (fun k => hasB A B ((k : Int) + 1)) n
theorem rowI_succ (A B : Int) (n : Nat) : rowI A B (n + 1) = rowI A B n ++ [hasB A B ((n : Int) + 1)] := by
  unfold rowI rowOf; rw [List.range_succ, List.map_append]; rfl

set_option maxHeartbeats 1000000 in
theorem row_any (A B : Int) (n : Nat) (w : World) (hA : -1099511627776 ≤ A ∧ A ≤ 1099511627776) (hB : -1099511627776 ≤ B ∧ B ≤ 1099511627776) (hn : n ≤ 1000000) :
    Calls Try.prog 21 #[.agg #[.int .i64 A, .int .i64 B], .int .i64 n] w (RetRB w (rowI A B n)) := by
  obtain ⟨i0, hi, hz0, hz1, hz2⟩ := info_parts' Try.infoB
  have HI := Lib.hid hi
  have HZ := Lib.hid (And.intro hz0 (And.intro hz1 hz2))
  have HA := Lib.hid hA
  have HB := Lib.hid hB
  have hmk := World.ownsRow_made (w.alloc (.cells #[.int .i64 A, .int .i64 B] 25)) #[] 0 (base := w.heap.size + 1) (e := 4) (size := 1) (by simp) (by simp [maxLen]) rfl
  have HMK := Lib.hid hmk
  have hn' : (n : Int) ≤ 1000000 := by omega
  clear hi hz0 hz1 hz2 hA hB hmk
  go_enter Try.func21, Try.ntmps21
  go_wp2_with fail
  go_loopw [5, 6] (fun v i w' => ∃ k : Nat, k ≤ n ∧ i = .int .i64 ((k : Int) + 1) ∧ Hid (w'.ownsRow (w.heap.size + 1) 4 1 v k ((rowI A B k).map VB)) ∧ Below (w.heap.size + 1) (w.alloc (.cells #[.int .i64 A, .int .i64 B] 25)) w') (fun _ i _ => n + 1 - (intOf i).toNat)
  case atStart => exact ⟨0, by omega, rfl, (by have := HMK.out; rw [World.size_alloc] at this; exact this), (below_a1 _ _).mono (by simp)⟩
  case round =>
    obtain ⟨k, hk, rfl, hown, hbl⟩ := hrel
    have hblk := res_block hbl
    have q0 : wr.cell? ⟨w.heap.size, 0, none⟩ = some (.int .i64 A) := cell_of_block hblk 0
    have q1 : wr.cell? ⟨w.heap.size, 1, none⟩ = some (.int .i64 B) := cell_of_block hblk 1
    have hlt0 := lt_of_block hblk
    clear hblk
    by_cases hlt : k < n
    · have HS := Lib.hid (rowI_succ A B k)
      have HC := Lib.hid (refHas_any A B ((k : Int) + 1) HA.out HB.out (by omega) wr)
      have k1 : (k : Int) + 1 ≤ (n : Int) := by omega
      have k2 : (0 : Int) ≤ (k : Int) := by omega
      generalize hasB A B ((k : Int) + 1) = x at HS HC
      go_wp2_with fail
      refine HC.out.mono ?_
      rintro e w2 ⟨rfl, rfl⟩
      have hnew := owns_built (w := wr) (base := 0) (e := 4) [.bool x] (Nat.zero_le _) rfl (by simp [maxLen])
      go_wp2_with (at_builtin; refine wpList_append_own _ rfl _ _ 32 rfl (w.heap.size + 1) 4 i0 (.bool false) 1 1 Try.underlying32 HI.out HZ.out.1 HZ.out.2.1 HZ.out.2.2 rfl (by decide) _ k _ rfl (hown.out.alloc _) ⟨wr.heap.size, 0, none⟩ 1 1 [.bool x] rfl rfl (cell_one_new _ _ _) (by simp [Value.oneCell']) (by unfold maxLen; omega) (by omega) (by simp; omega) ?_; intro v' w1 hown1 hgrow _)
      have HN : Hid (w1.ownsRow (w.heap.size + 1) 4 1 v' (k + 1) ((rowI A B (k + 1)).map VB)) := by
        rw [HS.out, List.map_append]; exact hown1
      have hb1 : Below (w.heap.size + 1) (w.alloc (.cells #[.int .i64 A, .int .i64 B] 25)) w1 := (hbl.alloc (by omega) _).grown hgrow (by simp; omega) (fun j hj => (hown.out.lt j hj).1)
      clear hown1
      go_roundw
      case rel => exact ⟨k + 1, by omega, by go_num, HN, hb1⟩
      case measure => simp [intOf]; omega
    · obtain rfl : k = n := by omega
      go_wp2
      go_ret
      exact ⟨_, rfl, (rowV_of_owns hown.out).mono (Nat.le_succ _), res_below hbl⟩
end Go.Proofs.Ytlbffpojdfhefaa
