/- AnbHas, on the small language: the two answers are one. -/
import Derived.Test.YtehbeicmmnjpfaaGreatDoorAnbSpk
import Derived.Test.YtehbeicmmnjpfaaGreatDoorLib
import Derived.Laws.Bits64
set_option linter.unusedSimpArgs false
set_option linter.unusedVariables false
namespace Go.Proofs.YtehbeicmmnjpfaaGreatDoor
open Go.Ev
set_option maxRecDepth 100000

theorem wrap_in (x : Int) (h1 : -9223372036854775808 ≤ x) (h2 : x ≤ 9223372036854775807) : IntKind.i64.wrap x = x := w64_in x h1 h2

theorem hasR_pos (a d : Int) (ha : 0 < a) (hd : 0 < d) (h2 : d < 9223372036854775808) : (Int.tmod (IntKind.i64.wrap d) a == 0 && decide (IntKind.i64.wrap (Int.tdiv (IntKind.i64.wrap d) a) ≥ 0)) = (Int.tmod d a == 0) := by
  rw [wrap_in d (by omega) (by omega)]
  have h0 : 0 ≤ d.tdiv a := Int.tdiv_nonneg (by omega) (by omega)
  have h1 : d.tdiv a ≤ d := Int.tdiv_le_self a (by omega)
  rw [wrap_in _ (by omega) (by omega), decide_eq_true h0, Bool.and_true]

theorem hasR_neg (a d : Int) (ha : a < 0) (hd : d < 0) (h2 : -9223372036854775808 < d) : (Int.tmod (IntKind.i64.wrap d) a == 0 && decide (IntKind.i64.wrap (Int.tdiv (IntKind.i64.wrap d) a) ≥ 0)) = (Int.tmod (-d) (-a) == 0) := by
  rw [wrap_in d (by omega) (by omega)]
  have e : d.tdiv a = (-d).tdiv (-a) := by rw [Int.neg_tdiv, Int.tdiv_neg, Int.neg_neg]
  have h0 : 0 ≤ (-d).tdiv (-a) := Int.tdiv_nonneg (by omega) (by omega)
  have h1 : (-d).tdiv (-a) ≤ -d := Int.tdiv_le_self (-a) (by omega)
  rw [e, wrap_in _ (by omega) (by omega), decide_eq_true h0, Bool.and_true, Int.neg_tmod, Int.tmod_neg]
  cases h : d.tmod a == 0
  · have : ¬ d.tmod a = 0 := by simpa using h
    symm
    simp only [beq_eq_false_iff_ne, ne_eq]
    omega
  · have : d.tmod a = 0 := by simpa using h
    rw [this]; rfl

theorem hasR_mixed (a d : Int) (h : (0 < a ∧ d < 0) ∨ (a < 0 ∧ 0 < d)) (h1 : -9223372036854775808 < d) (h2 : d < 9223372036854775807) : (Int.tmod (IntKind.i64.wrap d) a == 0 && decide (IntKind.i64.wrap (Int.tdiv (IntKind.i64.wrap d) a) ≥ 0)) = false := by
  rw [wrap_in d (by omega) (by omega)]
  cases hm : d.tmod a == 0
  · rfl
  · have hm0 : d.tmod a = 0 := by simpa using hm
    have he := Int.mul_tdiv_add_tmod d a
    rw [hm0, Int.add_zero] at he
    have hq : d.tdiv a < 0 := by
      rcases Int.lt_or_le (d.tdiv a) 0 with q | q
      · exact q
      · exfalso
        rcases h with ⟨k1, k2⟩ | ⟨k1, k2⟩
        · have := Int.mul_nonneg (Int.le_of_lt k1) q; omega
        · have := Int.mul_nonneg (a := -a) (b := d.tdiv a) (by omega) q
          rw [Int.neg_mul] at this; omega
    have hb : -9223372036854775808 ≤ d.tdiv a := by
      have := Int.natAbs_tdiv_le_natAbs d a
      omega
    rw [wrap_in _ hb (by omega), decide_eq_false (by omega)]
    rfl

theorem has_law (a b m : Int) (ha : -1099511627776 ≤ a ∧ a ≤ 1099511627776) (hb : -1099511627776 ≤ b ∧ b ≤ 1099511627776) (hm : m ≤ 1099511627776) : hasA a b m = hasR a b m := by
  unfold hasA hasR
  by_cases h1 : m < 1
  · simp only [if_pos h1]
  · simp only [if_neg h1]
    cases h2 : a == 0
    · have a0 : ¬ a = 0 := by simpa using h2
      simp only [Bool.false_or, Bool.false_eq_true, if_false]
      cases h3 : m == b
      · have m0 : ¬ m = b := by simpa using h3
        simp only [Bool.false_eq_true, if_false]
        by_cases h4 : m > b <;> by_cases h5 : a > 0
        · have k1 : ¬ a < 0 := by omega
          simp only [decide_eq_true h4, decide_eq_true h5, bne_self_eq_false, Bool.false_eq_true, if_false, if_neg k1, IntKind.wrap_u64]
          rw [hasR_pos a (m - b) h5 (by omega) (by omega)]
          rw [show (m % 18446744073709551616 - b % 18446744073709551616) % 18446744073709551616 * 1 % 18446744073709551616 = m - b by omega, show a % 18446744073709551616 * 1 % 18446744073709551616 = a by omega]
        · simp only [decide_eq_true h4, decide_eq_false h5, Bool.true_bne, Bool.not_false, if_true]
          rw [hasR_mixed a (m - b) (.inr (by omega)) (by omega) (by omega)]
        · simp only [decide_eq_false h4, decide_eq_true h5, Bool.false_bne, if_true]
          rw [hasR_mixed a (m - b) (.inl (by omega)) (by omega) (by omega)]
        · have k1 : a < 0 := by omega
          simp only [decide_eq_false h4, decide_eq_false h5, bne_self_eq_false, Bool.false_eq_true, if_false, if_pos k1, IntKind.wrap_u64]
          rw [hasR_neg a (m - b) k1 (by omega) (by omega)]
          rw [show (m % 18446744073709551616 - b % 18446744073709551616) % 18446744073709551616 * 18446744073709551615 % 18446744073709551616 = -(m - b) by omega, show a % 18446744073709551616 * 18446744073709551615 % 18446744073709551616 = -a by omega]
      · have m0 : m = b := by simpa using h3
        subst m0
        simp only [if_true, Int.sub_self]
        rw [wrap_in 0 (by omega) (by omega), Int.zero_tmod, Int.zero_tdiv, wrap_in 0 (by omega) (by omega)]
        rfl
    · simp only [Bool.true_or, if_true]

theorem mag_ne (a : Int) (ha : -1099511627776 ≤ a ∧ a ≤ 1099511627776) : a = 0 ∨ IntKind.u64.wrap (IntKind.u64.wrap a * (if a < 0 then 18446744073709551615 else 1)) ≠ 0 := by
  by_cases h : a = 0
  · exact .inl h
  · right
    simp only [IntKind.wrap_u64]
    by_cases h2 : a < 0
    · rw [if_pos h2]; omega
    · rw [if_neg h2]; omega

theorem anbHas_ev (n : Nat) (a b m : Int) (anb_speaks : ev anbC (n + 3) 9 [] [] = some (.bool true, [])) : ev anbC (n + 4) 3 [.int .i64 a, .int .i64 b, .int .i64 m] [] = some (.bool true, []) := by
  rw [ev_run (F := c_wattle_wattlelaw04_AnbHas) rfl rfl rfl]
  by_cases h1 : a < -1099511627776
  · simp -implicitDefEqProofs only [c_wattle_wattlelaw04_AnbHas, anb_speaks, decide_eq_true h1, List.length_cons, List.length_nil, List.replicate, List.cons_append, List.nil_append, r_nil, r_cons, r_step, r_stepg, r_ev1, r_skip, r_ret, r_exit, r_ops, r_seq, r_cond, r_block, r_loop, n_int, n_bool, n_str, n_undef, n_any, n_nilp, n_ptr, n_eptr, n_nils, n_sl, n_hs, n_agg, n_tup, n_ifc, n_nili, n_fn, a_t, a_c, aT_t, aT_c, p_some, p_none, u_no, u_t, k_mv, k_store, k_app, k_mark, evIns, Ins.takes, Option.map_some, Option.map_none, Option.bind_some, Option.bind_none, Option.bind_eq_bind, Option.pure_def, List.set_cons_zero, List.set_cons_succ, List.getD_cons_zero, List.getD_cons_succ, if_true, evPure, evBin, evUn, evConv, Bool.false_eq_true, if_false, ↓reduceIte, fin, Ev.results, resV, reduceCtorEq, V.one, V.isLk, keepIf, Bool.or_true, Bool.true_or, Bool.or_false, Bool.false_or, Bool.and_true, Bool.true_and, Bool.and_false, Bool.false_and, Nat.zero_add, Nat.add_zero, Nat.reduceAdd, Nat.reduceSub, Nat.reduceMul, beq_self_eq_true, BEq.rfl, decide_true, decide_false, Bool.not_true, Bool.not_false, List.map_cons, List.map_nil, Nat.reduceLT, Nat.reduceLeDiff, Nat.reduceBEq, Nat.reduceEqDiff, eqV, bool_beq, fz_int, fz_bool, fz_str, fz_nilp, fz_nils, fz_nili, fz_nilf, fz_undef, fz_any, cut_nil, cut_nil0]
  by_cases h2 : a > 1099511627776
  · simp -implicitDefEqProofs only [c_wattle_wattlelaw04_AnbHas, anb_speaks, decide_eq_false h1, decide_eq_true h2, List.length_cons, List.length_nil, List.replicate, List.cons_append, List.nil_append, r_nil, r_cons, r_step, r_stepg, r_ev1, r_skip, r_ret, r_exit, r_ops, r_seq, r_cond, r_block, r_loop, n_int, n_bool, n_str, n_undef, n_any, n_nilp, n_ptr, n_eptr, n_nils, n_sl, n_hs, n_agg, n_tup, n_ifc, n_nili, n_fn, a_t, a_c, aT_t, aT_c, p_some, p_none, u_no, u_t, k_mv, k_store, k_app, k_mark, evIns, Ins.takes, Option.map_some, Option.map_none, Option.bind_some, Option.bind_none, Option.bind_eq_bind, Option.pure_def, List.set_cons_zero, List.set_cons_succ, List.getD_cons_zero, List.getD_cons_succ, if_true, evPure, evBin, evUn, evConv, Bool.false_eq_true, if_false, ↓reduceIte, fin, Ev.results, resV, reduceCtorEq, V.one, V.isLk, keepIf, Bool.or_true, Bool.true_or, Bool.or_false, Bool.false_or, Bool.and_true, Bool.true_and, Bool.and_false, Bool.false_and, Nat.zero_add, Nat.add_zero, Nat.reduceAdd, Nat.reduceSub, Nat.reduceMul, beq_self_eq_true, BEq.rfl, decide_true, decide_false, Bool.not_true, Bool.not_false, List.map_cons, List.map_nil, Nat.reduceLT, Nat.reduceLeDiff, Nat.reduceBEq, Nat.reduceEqDiff, eqV, bool_beq, fz_int, fz_bool, fz_str, fz_nilp, fz_nils, fz_nili, fz_nilf, fz_undef, fz_any, cut_nil, cut_nil0]
  by_cases h3 : b < -1099511627776
  · simp -implicitDefEqProofs only [c_wattle_wattlelaw04_AnbHas, anb_speaks, decide_eq_false h1, decide_eq_false h2, decide_eq_true h3, List.length_cons, List.length_nil, List.replicate, List.cons_append, List.nil_append, r_nil, r_cons, r_step, r_stepg, r_ev1, r_skip, r_ret, r_exit, r_ops, r_seq, r_cond, r_block, r_loop, n_int, n_bool, n_str, n_undef, n_any, n_nilp, n_ptr, n_eptr, n_nils, n_sl, n_hs, n_agg, n_tup, n_ifc, n_nili, n_fn, a_t, a_c, aT_t, aT_c, p_some, p_none, u_no, u_t, k_mv, k_store, k_app, k_mark, evIns, Ins.takes, Option.map_some, Option.map_none, Option.bind_some, Option.bind_none, Option.bind_eq_bind, Option.pure_def, List.set_cons_zero, List.set_cons_succ, List.getD_cons_zero, List.getD_cons_succ, if_true, evPure, evBin, evUn, evConv, Bool.false_eq_true, if_false, ↓reduceIte, fin, Ev.results, resV, reduceCtorEq, V.one, V.isLk, keepIf, Bool.or_true, Bool.true_or, Bool.or_false, Bool.false_or, Bool.and_true, Bool.true_and, Bool.and_false, Bool.false_and, Nat.zero_add, Nat.add_zero, Nat.reduceAdd, Nat.reduceSub, Nat.reduceMul, beq_self_eq_true, BEq.rfl, decide_true, decide_false, Bool.not_true, Bool.not_false, List.map_cons, List.map_nil, Nat.reduceLT, Nat.reduceLeDiff, Nat.reduceBEq, Nat.reduceEqDiff, eqV, bool_beq, fz_int, fz_bool, fz_str, fz_nilp, fz_nils, fz_nili, fz_nilf, fz_undef, fz_any, cut_nil, cut_nil0]
  by_cases h4 : b > 1099511627776
  · simp -implicitDefEqProofs only [c_wattle_wattlelaw04_AnbHas, anb_speaks, decide_eq_false h1, decide_eq_false h2, decide_eq_false h3, decide_eq_true h4, List.length_cons, List.length_nil, List.replicate, List.cons_append, List.nil_append, r_nil, r_cons, r_step, r_stepg, r_ev1, r_skip, r_ret, r_exit, r_ops, r_seq, r_cond, r_block, r_loop, n_int, n_bool, n_str, n_undef, n_any, n_nilp, n_ptr, n_eptr, n_nils, n_sl, n_hs, n_agg, n_tup, n_ifc, n_nili, n_fn, a_t, a_c, aT_t, aT_c, p_some, p_none, u_no, u_t, k_mv, k_store, k_app, k_mark, evIns, Ins.takes, Option.map_some, Option.map_none, Option.bind_some, Option.bind_none, Option.bind_eq_bind, Option.pure_def, List.set_cons_zero, List.set_cons_succ, List.getD_cons_zero, List.getD_cons_succ, if_true, evPure, evBin, evUn, evConv, Bool.false_eq_true, if_false, ↓reduceIte, fin, Ev.results, resV, reduceCtorEq, V.one, V.isLk, keepIf, Bool.or_true, Bool.true_or, Bool.or_false, Bool.false_or, Bool.and_true, Bool.true_and, Bool.and_false, Bool.false_and, Nat.zero_add, Nat.add_zero, Nat.reduceAdd, Nat.reduceSub, Nat.reduceMul, beq_self_eq_true, BEq.rfl, decide_true, decide_false, Bool.not_true, Bool.not_false, List.map_cons, List.map_nil, Nat.reduceLT, Nat.reduceLeDiff, Nat.reduceBEq, Nat.reduceEqDiff, eqV, bool_beq, fz_int, fz_bool, fz_str, fz_nilp, fz_nils, fz_nili, fz_nilf, fz_undef, fz_any, cut_nil, cut_nil0]
  by_cases h5 : m > 1099511627776
  · simp -implicitDefEqProofs only [c_wattle_wattlelaw04_AnbHas, anb_speaks, decide_eq_false h1, decide_eq_false h2, decide_eq_false h3, decide_eq_false h4, decide_eq_true h5, List.length_cons, List.length_nil, List.replicate, List.cons_append, List.nil_append, r_nil, r_cons, r_step, r_stepg, r_ev1, r_skip, r_ret, r_exit, r_ops, r_seq, r_cond, r_block, r_loop, n_int, n_bool, n_str, n_undef, n_any, n_nilp, n_ptr, n_eptr, n_nils, n_sl, n_hs, n_agg, n_tup, n_ifc, n_nili, n_fn, a_t, a_c, aT_t, aT_c, p_some, p_none, u_no, u_t, k_mv, k_store, k_app, k_mark, evIns, Ins.takes, Option.map_some, Option.map_none, Option.bind_some, Option.bind_none, Option.bind_eq_bind, Option.pure_def, List.set_cons_zero, List.set_cons_succ, List.getD_cons_zero, List.getD_cons_succ, if_true, evPure, evBin, evUn, evConv, Bool.false_eq_true, if_false, ↓reduceIte, fin, Ev.results, resV, reduceCtorEq, V.one, V.isLk, keepIf, Bool.or_true, Bool.true_or, Bool.or_false, Bool.false_or, Bool.and_true, Bool.true_and, Bool.and_false, Bool.false_and, Nat.zero_add, Nat.add_zero, Nat.reduceAdd, Nat.reduceSub, Nat.reduceMul, beq_self_eq_true, BEq.rfl, decide_true, decide_false, Bool.not_true, Bool.not_false, List.map_cons, List.map_nil, Nat.reduceLT, Nat.reduceLeDiff, Nat.reduceBEq, Nat.reduceEqDiff, eqV, bool_beq, fz_int, fz_bool, fz_str, fz_nilp, fz_nils, fz_nili, fz_nilf, fz_undef, fz_any, cut_nil, cut_nil0]
  have ha : -1099511627776 ≤ a ∧ a ≤ 1099511627776 := by omega
  have e1 := anb_has n a b m (mag_ne a ha)
  have e2 := ref_has (n + 2) a b m
  rw [← has_law a b m ha (by omega) (by omega)] at e2
  simp -implicitDefEqProofs only [c_wattle_wattlelaw04_AnbHas, anb_speaks, decide_eq_false h1, decide_eq_false h2, decide_eq_false h3, decide_eq_false h4, decide_eq_false h5, e1, e2, List.length_cons, List.length_nil, List.replicate, List.cons_append, List.nil_append, r_nil, r_cons, r_step, r_stepg, r_ev1, r_skip, r_ret, r_exit, r_ops, r_seq, r_cond, r_block, r_loop, n_int, n_bool, n_str, n_undef, n_any, n_nilp, n_ptr, n_eptr, n_nils, n_sl, n_hs, n_agg, n_tup, n_ifc, n_nili, n_fn, a_t, a_c, aT_t, aT_c, p_some, p_none, u_no, u_t, k_mv, k_store, k_app, k_mark, evIns, Ins.takes, Option.map_some, Option.map_none, Option.bind_some, Option.bind_none, Option.bind_eq_bind, Option.pure_def, List.set_cons_zero, List.set_cons_succ, List.getD_cons_zero, List.getD_cons_succ, if_true, evPure, evBin, evUn, evConv, Bool.false_eq_true, if_false, ↓reduceIte, fin, Ev.results, resV, reduceCtorEq, V.one, V.isLk, keepIf, Bool.or_true, Bool.true_or, Bool.or_false, Bool.false_or, Bool.and_true, Bool.true_and, Bool.and_false, Bool.false_and, Nat.zero_add, Nat.add_zero, Nat.reduceAdd, Nat.reduceSub, Nat.reduceMul, beq_self_eq_true, BEq.rfl, decide_true, decide_false, Bool.not_true, Bool.not_false, List.map_cons, List.map_nil, Nat.reduceLT, Nat.reduceLeDiff, Nat.reduceBEq, Nat.reduceEqDiff, eqV, bool_beq, fz_int, fz_bool, fz_str, fz_nilp, fz_nils, fz_nili, fz_nilf, fz_undef, fz_any, cut_nil, cut_nil0]
end Go.Proofs.YtehbeicmmnjpfaaGreatDoor
