/- Walks of the plain number functions of nth, anb and their references. -/
import Derived.Test.YtlbffpojdfhefaaLib
namespace Go.Proofs.Ytlbffpojdfhefaa
open Go.RowKit

def smallB (a b m : Int) : Bool := decide (-m ≤ a ∧ a ≤ m ∧ -m ≤ b ∧ b ≤ m)
set_option maxHeartbeats 400000 in
theorem small_any (a b m : Int) (hm : 0 ≤ m) (hm2 : m ≤ 2000000000000) (w : World) :
    Calls Try.prog 8 #[.agg #[.int .i64 a, .int .i64 b], .int .i64 m] w (RetB w (smallB a b m)) := by
  go_enter Try.func8, Try.ntmps8
  go_wp2
  all_goals go_ret
  all_goals refine ⟨ret_bool ?_, below_a1 _ _⟩
  all_goals (unfold smallB; symm; first | (apply decide_eq_true; omega) | (apply decide_eq_false; omega) | (apply decide_eq_decide.2; omega))

/-- What An+B has, by the document. -/
def hasB (a b n : Int) : Bool := if n < 1 then false else if a = 0 then decide (n = b) else decide ((n - b).tmod a = 0) && decide (0 ≤ (n - b).tdiv a)
def Rets (w : World) (x : Bool) (e : Ending) (w' : World) : Prop := e = .returned (.bool x) ∧ w = w'
theorem tm_b (x a : Int) (B : Int) (hx : -B ≤ x ∧ x ≤ B) (hB : 0 ≤ B) : -B ≤ x.tmod a ∧ x.tmod a ≤ B := by
  have h1 := Int.natAbs_tmod x a
  have h2 : (x.tmod a).natAbs ≤ x.natAbs := by rw [h1]; exact Nat.mod_le _ _
  omega
theorem td_b (x a : Int) (B : Int) (hx : -B ≤ x ∧ x ≤ B) (hB : 0 ≤ B) : -B ≤ x.tdiv a ∧ x.tdiv a ≤ B := by
  have h1 := Int.natAbs_tdiv x a
  have h2 : (x.tdiv a).natAbs ≤ x.natAbs := by rw [h1]; exact Nat.div_le_self _ _
  omega
set_option maxHeartbeats 400000 in
theorem refHas_any (a b n : Int) (ha : -1099511627776 ≤ a ∧ a ≤ 1099511627776) (hb : -1099511627776 ≤ b ∧ b ≤ 1099511627776) (hn : -1099511627776 ≤ n ∧ n ≤ 1099511627776) (w : World) :
    Calls Try.prog 13 #[.int .i64 a, .int .i64 b, .int .i64 n] w (Rets w (hasB a b n)) := by
  obtain ⟨a1, a2⟩ := ha; obtain ⟨b1, b2⟩ := hb; obtain ⟨n1, n2⟩ := hn
  by_cases h1 : n < 1
  · go_enter Try.func13, Try.ntmps13
    go_wp2
    go_ret
    exact ⟨ret_bool (by simp [hasB, h1]), rfl⟩
  by_cases h0 : a = 0
  · subst h0
    go_enter Try.func13, Try.ntmps13
    go_wp2
    go_ret
    exact ⟨ret_bool (by have h2 : ¬ n < 1 := by omega
                        simp only [hasB, h2, if_false, if_true]; rfl), rfl⟩
  have h0' : (a == 0) = false := by simpa using h0
  have t1 := td_b (n - b) a 3000000000000 (by omega) (by omega)
  obtain ⟨t2, t3⟩ := t1
  by_cases hr : (n - b).tmod a = 0
  · have hr' : ((n - b).tmod a == 0) = true := by simpa using hr
    have fin : hasB a b n = decide (0 ≤ (n - b).tdiv a) := by simp [hasB, h1, h0, hr]
    have FIN := Lib.hid fin
    clear fin
    go_enter Try.func13, Try.ntmps13
    go_wp2
    go_ret
    exact ⟨ret_bool (FIN.out.symm ▸ rfl), rfl⟩
  · have hr' : ((n - b).tmod a == 0) = false := by simpa using hr
    have fin : hasB a b n = false := by simp [hasB, h1, h0, hr]
    have FIN := Lib.hid fin
    clear fin
    go_enter Try.func13, Try.ntmps13
    go_wp2
    go_ret
    exact ⟨ret_bool FIN.out.symm, rfl⟩

def dirU (a : Int) : Int := if a < 0 then 18446744073709551615 else 1
theorem direction_any (a : Int) (w : World) :
    Calls Try.prog 43 #[.int .i64 a] w fun e w' => e = .returned (.int .u64 (dirU a)) ∧ w = w' := by
  by_cases h : a < 0
  · have F := Lib.hid (show dirU a = 18446744073709551615 by simp [dirU, h])
    go_enter Try.func43, Try.ntmps43
    go_wp2
    go_ret
    exact ⟨ret_int F.out.symm, rfl⟩
  · have F := Lib.hid (show dirU a = 1 by simp [dirU, h])
    go_enter Try.func43, Try.ntmps43
    go_wp2
    go_ret
    exact ⟨ret_int F.out.symm, rfl⟩
theorem u64_eq (x : Int) : IntKind.u64.wrap x = x % 18446744073709551616 := by simp [IntKind.wrap, IntKind.bits, IntKind.signed]
theorem mag_eq (a : Int) (h1 : -1099511627776 ≤ a) (h2 : a ≤ 1099511627776) : IntKind.u64.wrap (IntKind.u64.wrap a * dirU a) = (a.natAbs : Int) := by
  unfold dirU; rw [u64_eq, u64_eq]
  split
  · omega
  · omega
theorem hasU_eq (a b n : Int) (ha : -1099511627776 ≤ a ∧ a ≤ 1099511627776) (hb : -1099511627776 ≤ b ∧ b ≤ 1099511627776) (hn : -1099511627776 ≤ n ∧ n ≤ 1099511627776) (h1 : 1 ≤ n)
    (h : b < n ∧ 0 < a ∨ n < b ∧ a < 0) : ((IntKind.u64.wrap (IntKind.u64.wrap (n - IntKind.u64.wrap b) * dirU a)).tmod (a.natAbs : Int) == 0) = hasB a b n := by
  have key : ∀ x : Int, (a ∣ x ↔ a ∣ n - b) → ((x.tmod (a.natAbs : Int) == 0) = decide ((n - b).tmod a = 0)) := by
    intro x hx
    rw [Bool.eq_iff_iff]
    simp only [beq_iff_eq, decide_eq_true_eq]
    constructor
    · intro e; exact Int.tmod_eq_zero_of_dvd (hx.1 (Int.natAbs_dvd.1 (Int.dvd_of_tmod_eq_zero e)))
    · intro e; exact Int.tmod_eq_zero_of_dvd (Int.natAbs_dvd.2 (hx.2 (Int.dvd_of_tmod_eq_zero e)))
  unfold hasB
  rw [if_neg (by omega), if_neg (by omega)]
  rcases h with ⟨h2, h3⟩ | ⟨h2, h3⟩
  · have e1 : IntKind.u64.wrap (IntKind.u64.wrap (n - IntKind.u64.wrap b) * dirU a) = n - b := by
      unfold dirU; rw [if_neg (by omega), u64_eq, u64_eq, u64_eq]; omega
    have e2 : (0 : Int) ≤ (n - b).tdiv a := Int.tdiv_nonneg (by omega) (by omega)
    rw [e1, key (n - b) Iff.rfl, decide_eq_true e2, Bool.and_true]
  · have e1 : IntKind.u64.wrap (IntKind.u64.wrap (n - IntKind.u64.wrap b) * dirU a) = b - n := by
      unfold dirU; rw [if_pos h3, u64_eq, u64_eq, u64_eq]; omega
    have e2 : (0 : Int) ≤ (n - b).tdiv a := Int.tdiv_nonneg_of_nonpos_of_nonpos (by omega) (by omega)
    have e3 : b - n = -(n - b) := by omega
    rw [e1, key (b - n) (by rw [e3]; exact Int.dvd_neg), decide_eq_true e2, Bool.and_true]
theorem magnitude_any (a : Int) (ha : -1099511627776 ≤ a ∧ a ≤ 1099511627776) (w : World) :
    Calls Try.prog 44 #[.int .i64 a] w fun e w' => e = .returned (.int .u64 (a.natAbs : Int)) ∧ w = w' := by
  obtain ⟨a1, a2⟩ := ha
  go_enter Try.func44, Try.ntmps44
  go_wp2_with (go_at_call 43; refine (direction_any _ _).mono ?_; rintro e w' ⟨rfl, rfl⟩)
  go_ret
  exact ⟨ret_int (mag_eq a a1 a2), rfl⟩
set_option maxHeartbeats 400000 in
theorem has_any (a b n : Int) (ha : -1099511627776 ≤ a ∧ a ≤ 1099511627776) (hb : -1099511627776 ≤ b ∧ b ≤ 1099511627776) (hn : -1099511627776 ≤ n ∧ n ≤ 1099511627776) (w : World) :
    Calls Try.prog 31 #[.int .i64 a, .int .i64 b, .int .i64 n] w (Rets w (hasB a b n)) := by
  by_cases h1 : n < 1
  · go_enter Try.func31, Try.ntmps31
    go_wp2
    go_ret
    exact ⟨ret_bool (by have : n < 1 := by omega
                        simp [hasB, this]), rfl⟩
  by_cases h3 : n = b
  · subst h3
    have hd : hasB a n n = true := by
      unfold hasB; rw [if_neg h1]; split <;> simp
    have HD := Lib.hid hd
    clear hd
    by_cases h0 : a = 0
    · subst h0
      go_enter Try.func31, Try.ntmps31
      go_wp2
      go_ret
      exact ⟨ret_bool (by rw [HD.out]), rfl⟩
    · have h0' : (a == 0) = false := by simpa using h0
      go_enter Try.func31, Try.ntmps31
      go_wp2
      go_ret
      exact ⟨ret_bool (by rw [HD.out]), rfl⟩
  by_cases h0 : a = 0
  · subst h0
    have h3' : (n == b) = false := by simpa using h3
    have hd : hasB 0 b n = false := by
      unfold hasB; rw [if_neg h1]; simp [h3]
    have HD := Lib.hid hd
    clear hd
    go_enter Try.func31, Try.ntmps31
    go_wp2
    go_ret
    exact ⟨ret_bool (by rw [HD.out]), rfl⟩
  have h0' : (a == 0) = false := by simpa using h0
  have h3' : (n == b) = false := by simpa using h3
  by_cases hd : b < n ∧ 0 < a ∨ n < b ∧ a < 0
  · have t0 := hasU_eq a b n ha hb hn (by omega) hd
    have T0 := Lib.hid t0
    clear t0
    obtain ⟨a1, a2⟩ := ha; obtain ⟨b1, b2⟩ := hb; obtain ⟨n1, n2⟩ := hn
    have e : (!decide (b < n) == decide (0 < a)) = false := by
      rcases hd with ⟨x, y⟩ | ⟨x, y⟩
      · simp [x, y]
      · have x' : ¬ b < n := by omega
        have y' : ¬ 0 < a := by omega
        simp [x', y']
    clear hd
    go_enter Try.func31, Try.ntmps31
    go_wp2_with (first | (go_at_call 43; refine (direction_any _ _).mono ?_; rintro e w' ⟨rfl, rfl⟩) | (go_at_call 44; refine (magnitude_any _ ⟨a1, a2⟩ _).mono ?_; rintro e w' ⟨rfl, rfl⟩))
    go_ret
    exact ⟨ret_bool T0.out, rfl⟩
  · have e : (!decide (b < n) == decide (0 < a)) = true := by
      by_cases x : b < n
      · have y' : ¬ 0 < a := by omega
        simp [x, y']
      · have y' : 0 < a := by omega
        simp [x, y']
    have hz : hasB a b n = false := by
      unfold hasB; rw [if_neg h1, if_neg h0]
      rw [Bool.and_eq_false_iff]
      by_cases hx : (n - b).tmod a = 0
      · right
        apply decide_eq_false
        intro hq
        have hm := Int.mul_tdiv_add_tmod (n - b) a
        rw [hx, Int.add_zero] at hm
        by_cases hp : 0 < a
        · have : 0 ≤ a * (n - b).tdiv a := Int.mul_nonneg (by omega) hq
          omega
        · have : a * (n - b).tdiv a ≤ 0 := Int.mul_nonpos_of_nonpos_of_nonneg (by omega) hq
          omega
      · left; exact decide_eq_false hx
    have HZ := Lib.hid hz
    clear hz hd
    go_enter Try.func31, Try.ntmps31
    go_wp2
    go_ret
    exact ⟨ret_bool HZ.out.symm, rfl⟩
end Go.Proofs.Ytlbffpojdfhefaa
