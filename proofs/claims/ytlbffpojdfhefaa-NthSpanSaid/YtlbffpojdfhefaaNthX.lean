/- Walk of the law NthSpan. -/
import Derived.Test.YtlbffpojdfhefaaNthD
import Derived.Test.YtlbffpojdfhefaaNthS
import Derived.Test.YtlbffpojdfhefaaStep
namespace Go.Proofs.Ytlbffpojdfhefaa
open Go.RowKit
attribute [local go_sem ↓] Go.wp_at_zero Go.wp_at_succ

theorem smallB_of (x : Int × Int) (h : smallB x.1 x.2 1099511627776 = true) : Bd x := by
  unfold smallB at h; have := of_decide_eq_true h; exact ⟨⟨this.1, this.2.1⟩, ⟨this.2.2.1, this.2.2.2⟩⟩

/-- Where numbers come round. -/
def mul (p A : Int) : Prop := p = 4611686018427387904 ∨ A ∣ p
theorem satI_mul (p b : Int) (hp : 1 ≤ p) (hb : 1 ≤ b) : mul (satI p b) b ∧ (∀ A, mul p A → mul (satI p b) A) := by
  unfold satI
  have h3 := gcdI_pos p b hp
  obtain ⟨y, hy⟩ : gcdI p b ∣ b := Int.gcd_dvd_right p b
  have hy2 : b / gcdI p b = y := by conv => lhs; lhs; rw [hy]
                                    exact Int.mul_ediv_cancel_left y (by omega)
  split
  · exact ⟨.inl rfl, fun _ _ => .inl rfl⟩
  · rename_i hc
    have hq := quo_pos p b hp hb
    refine ⟨.inr ?_, fun A hA => ?_⟩
    · obtain ⟨x, hx⟩ : gcdI p b ∣ p := Int.gcd_dvd_left p b
      rw [hy2]
      refine ⟨x, ?_⟩
      conv => rhs; lhs; rw [hy]
      conv => lhs; lhs; rw [hx]
      rw [Int.mul_assoc, Int.mul_assoc, Int.mul_comm x y]
    · rcases hA with rfl | hA
      · left
        have := satI_ok 4611686018427387904 b hp hb hc
        have h1 : (4611686018427387904 : Int) * 1 ≤ 4611686018427387904 * (b / gcdI 4611686018427387904 b) := Int.mul_le_mul_of_nonneg_left hq (by omega)
        omega
      · right; exact Int.dvd_trans hA (Int.dvd_mul_right _ _)
theorem foldP_mul (xs : List (Int × Int)) : ∀ p, 1 ≤ p → p ≤ 4611686018427387904 → (∀ A, mul p A → mul (xs.foldl stepP p) A) ∧ ∀ x ∈ xs, x.1 ≠ 0 → mul (xs.foldl stepP p) (x.1.natAbs : Int) := by
  induction xs with
  | nil => intro p _ _; exact ⟨fun _ h => h, fun x hx => by cases hx⟩
  | cons y xs ih =>
    intro p h1 h2
    have hs : 1 ≤ stepP p y ∧ stepP p y ≤ 4611686018427387904 := by
      unfold stepP; split
      · exact ⟨h1, h2⟩
      · exact satI_bd _ _ h1 (by omega)
    obtain ⟨i1, i2⟩ := ih (stepP p y) hs.1 hs.2
    have key : ∀ A, mul p A → mul (stepP p y) A := fun A hA => by
      unfold stepP; split
      · exact hA
      · exact (satI_mul p _ h1 (by omega)).2 A hA
    refine ⟨fun A hA => i1 A (key A hA), fun x hx h0 => ?_⟩
    rcases List.mem_cons.1 hx with rfl | hx
    · refine i1 _ ?_
      unfold stepP; rw [if_neg h0]
      exact (satI_mul p _ h1 (by omega)).1
    · exact i2 x hx h0
theorem foldH_ge (xs : List (Int × Int)) : ∀ h, h ≤ xs.foldl stepH h ∧ ∀ x ∈ xs, headI x ≤ xs.foldl stepH h := by
  induction xs with
  | nil => intro h; exact ⟨Int.le_refl _, fun x hx => by cases hx⟩
  | cons y xs ih =>
    intro h
    obtain ⟨i1, i2⟩ := ih (stepH h y)
    have hm : h ≤ stepH h y ∧ headI y ≤ stepH h y := by unfold stepH; omega
    refine ⟨Int.le_trans hm.1 i1, fun x hx => ?_⟩
    rcases List.mem_cons.1 hx with rfl | hx
    · exact Int.le_trans hm.2 i1
    · exact i2 x hx
/-- What stands for a number has what it has. -/
theorem fold_has (xs : List (Int × Int)) (hx : ∀ x ∈ xs, Bd x) (n : Int) (n1 : 0 < n) (n2 : n ≤ 1099511627776) (x : Int × Int) (hm : x ∈ xs) :
    hasB x.1 x.2 n = hasB x.1 x.2 (foldI (spanH xs) (spanP xs) n) := by
  obtain ⟨h1, h2⟩ := spanH_bd xs hx
  obtain ⟨p1, p2⟩ := spanP_bd xs
  have hh : headI x ≤ spanH xs := (foldH_ge xs 0).2 x hm
  unfold foldI
  split
  · rfl
  · rename_i hc
    have hc1 : spanP xs < n - spanH xs := by omega
    have m1 := Int.emod_nonneg (n - spanH xs - 1) (show spanP xs ≠ 0 by omega)
    have m2 := Int.emod_lt_of_pos (n - spanH xs - 1) (show 0 < spanP xs by omega)
    have m3 := Int.mul_ediv_add_emod (n - spanH xs - 1) (spanP xs)
    generalize hk : (n - spanH xs - 1) % spanP xs = r at *
    by_cases hA : 0 < x.1
    · have hd : x.1 ∣ spanP xs := by
        rcases (foldP_mul xs 1 (by omega) (by omega)).2 x hm (by omega) with e | e
        · exfalso; have : spanP xs = 4611686018427387904 := e; omega
        · rw [show ((x.1.natAbs : Nat) : Int) = x.1 by omega] at e; exact e
      have hB : x.2 ≤ spanH xs + 1 := by unfold headI at hh; rw [if_pos hA] at hh; omega
      rw [hasB_pos x.1 x.2 n hA (by omega) (by omega), hasB_pos x.1 x.2 _ hA (by omega) (by omega)]
      congr 1
      obtain ⟨q, hq⟩ := hd
      have e : n - x.2 = (spanH xs + 1 + r - x.2) + x.1 * (q * ((n - spanH xs - 1) / spanP xs)) := by
        rw [← Int.mul_assoc, ← hq]; omega
      rw [e, Int.add_mul_emod_self_left]
    · have hB : x.2 ≤ spanH xs := by unfold headI at hh; rw [if_neg hA] at hh; omega
      rw [hasB_none x.1 x.2 n (by omega) (by omega) (by omega), hasB_none x.1 x.2 _ (by omega) (by omega) (by omega)]
theorem foldI_bd (h p n : Int) (h1 : 0 ≤ h) (p1 : 1 ≤ p) (n1 : 0 ≤ n) : 0 ≤ foldI h p n ∧ foldI h p n ≤ n ∧ (foldI h p n ≤ h ∨ foldI h p n - h ≤ p) := by
  unfold foldI
  split
  · omega
  · have m1 := Int.emod_nonneg (n - h - 1) (show p ≠ 0 by omega)
    have m2 := Int.emod_lt_of_pos (n - h - 1) (show 0 < p by omega)
    have m3 := emod_le0 (n - h - 1) p (by omega)
    omega
end Go.Proofs.Ytlbffpojdfhefaa
