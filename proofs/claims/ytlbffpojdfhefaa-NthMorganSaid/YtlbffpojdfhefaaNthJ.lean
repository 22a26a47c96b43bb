/- Walk of Of: the set of an An+B. -/
import Derived.Test.YtlbffpojdfhefaaNthI
namespace Go.Proofs.Ytlbffpojdfhefaa
open Go.RowKit
attribute [local go_sem ↓] Go.wp_at_zero Go.wp_at_succ

def hdOf (A B : Int) : Nat := (max 0 (headI (A, B))).toNat
def rdOf (A : Int) : Nat := if 0 < A then A.toNat else 1
theorem hasB_none (A B n : Int) (hA : A ≤ 0) (hn : 1 ≤ n) (hB : B < n) : hasB A B n = false := by
  unfold hasB
  rw [if_neg (by omega)]
  split
  · exact decide_eq_false (by omega)
  · rw [Bool.and_eq_false_iff]
    by_cases hx : (n - B).tmod A = 0
    · right
      apply decide_eq_false
      intro hq
      have hm := Int.mul_tdiv_add_tmod (n - B) A
      rw [hx, Int.add_zero] at hm
      have : A * (n - B).tdiv A ≤ 0 := Int.mul_nonpos_of_nonpos_of_nonneg (by omega) hq
      omega
    · left; exact decide_eq_false hx
theorem hasB_pos (A B n : Int) (hA : 0 < A) (hn : 1 ≤ n) (hB : B ≤ n) : hasB A B n = decide ((n - B) % A = 0) := by
  unfold hasB
  rw [if_neg (by omega), if_neg (by omega), Int.tmod_eq_emod_of_nonneg (by omega), decide_eq_true (Int.tdiv_nonneg (show 0 ≤ n - B by omega) (by omega)), Bool.and_true]
theorem hasB_comes (A B : Int) : Comes (fun k => hasB A B ((k : Int) + 1)) (hdOf A B) (rdOf A) := by
  intro k hk
  show hasB A B (((k + rdOf A : Nat) : Int) + 1) = hasB A B ((k : Int) + 1)
  by_cases hA : 0 < A
  · have e : ((rdOf A : Nat) : Int) = A := by unfold rdOf; rw [if_pos hA]; omega
    have hB : B ≤ (k : Int) + 1 := by unfold hdOf headI at hk; simp only [hA, if_true] at hk; omega
    rw [Int.natCast_add, e, hasB_pos A B _ hA (by omega) (by omega), hasB_pos A B _ hA (by omega) hB]
    congr 1
    rw [show (k : Int) + A + 1 - B = ((k : Int) + 1 - B) + A by omega, Int.add_emod_right]
  · have hB : B < (k : Int) + 1 := by unfold hdOf headI at hk; simp only [hA, if_false] at hk; omega
    rw [hasB_none A B _ (by omega) (by omega) (by omega), hasB_none A B _ (by omega) (by omega) hB]
theorem sq_row (f : Nat → Bool) (hd rd : Nat) (hr : 0 < rd) (c : Comes f hd rd) (k : Nat) : sq ((rowOf f (hd + rd)).take hd) ((rowOf f (hd + rd)).drop hd) k = f k := by
  have l1 : ((rowOf f (hd + rd)).take hd).length = hd := by rw [List.length_take, rowOf_length]; omega
  have l2 : ((rowOf f (hd + rd)).drop hd).length = rd := by rw [List.length_drop, rowOf_length]; omega
  unfold sq per
  rw [l1, l2]
  split
  · rename_i h
    rw [← rowOf_getD f (hd + rd) k (by omega)]; simp [List.getD_eq_getElem?_getD, List.getElem?_take, h]
  · have hm : (k - hd) % rd < rd := Nat.mod_lt _ hr
    have e1 : ((rowOf f (hd + rd)).drop hd).getD ((k - hd) % rd) false = f (hd + (k - hd) % rd) := by
      rw [← rowOf_getD f (hd + rd) (hd + (k - hd) % rd) (by omega)]; simp [List.getD_eq_getElem?_getD, List.getElem?_drop]
    rw [e1, ← c.mul ((k - hd) / rd) _ (by omega)]
    congr 1
    have := Nat.mod_add_div (k - hd) rd
    rw [Nat.mul_comm] at this
    omega
theorem satI_one (b : Int) (h1 : 1 ≤ b) (h2 : b ≤ 1099511627776) : satI 1 b = b := by
  have g : gcdI 1 b = 1 := by unfold gcdI; simp
  unfold satI
  rw [g, Int.ediv_one, if_neg, Int.one_mul]
  have : 1 ≤ 4611686018427387904 / b := (Int.le_ediv_iff_mul_le (by omega)).2 (by omega)
  omega
theorem spanP_one (A B : Int) (h1 : -1099511627776 ≤ A) (h2 : A ≤ 1099511627776) : spanP [(A, B)] = if A = 0 then 1 else (A.natAbs : Int) := by
  simp only [spanP, List.foldl_cons, List.foldl_nil, stepP]
  split
  · rfl
  · exact satI_one _ (by omega) (by omega)

theorem ofF_any (b : Nat) (A B n : Int) (W : World) (hA : -1099511627776 ≤ A ∧ A ≤ 1099511627776) (hB : -1099511627776 ≤ B ∧ B ≤ 1099511627776) (hn : -1099511627776 ≤ n ∧ n ≤ 1099511627776)
    (c0 : W.cell? ⟨b, 0, none⟩ = some (.int .i64 A)) (c1 : W.cell? ⟨b, 1, none⟩ = some (.int .i64 B)) :
    Calls Try.prog 30 #[.int .i64 n, .pointer (some ⟨b, 0, none⟩)] W (RetB W (hasB A B n)) := by
  go_enter Try.func30, Try.ntmps30
  go_wp2_with (go_at_call 31; refine (has_any A B n hA hB hn _).mono ?_; rintro e w' ⟨rfl, rfl⟩)
  go_ret
  exact ⟨rfl, Below.refl _ _⟩
theorem Try.callOf1 : ∀ args W, (callFunc 30 args).run Try.prog W = .ok (.enter 30 args) W := fun _ _ => by kernel_rfl
end Go.Proofs.Ytlbffpojdfhefaa
