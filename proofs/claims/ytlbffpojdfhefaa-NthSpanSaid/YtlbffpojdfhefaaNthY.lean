/- Walk of the law NthSpan. -/
import Derived.Test.YtlbffpojdfhefaaNthX
namespace Go.Proofs.Ytlbffpojdfhefaa
open Go.RowKit
attribute [local go_sem ↓] Go.wp_at_zero Go.wp_at_succ

theorem refHasQ (a b n : Int) (hx : Bd (a, b)) (hn : -1099511627776 ≤ n ∧ n ≤ 1099511627776) (x : Bool) (he : hasB a b n = x) (w : World) :
    Calls Try.prog 13 #[.int .i64 a, .int .i64 b, .int .i64 n] w fun e w' => e = .returned (.bool x) ∧ w' = w :=
  (refHas_any a b n hx.1 hx.2 hn w).mono fun e w' h => ⟨he ▸ h.1, h.2.symm⟩
set_option maxHeartbeats 1000000 in
theorem nthSpan_big (a : Option Addr) (m c : Nat) (n : Int) (w : World) (h : 3 < m ∨ n < 0 ∨ 1099511627776 < n) (hm : m ≤ 9223372036854775807) :
    Calls Try.prog 3 #[.slice a m c, .int .i64 n] w (RetB w true) := by
  rcases h with h | h | h
  · have h' : (3 : Int) < (m : Int) := by omega
    go_enter Try.func3, Try.ntmps3
    go_wp2_with (go_at_call 7; refine (speaks_any _).mono ?_; rintro e w1 ⟨rfl, hb1⟩)
    go_ret
    exact ⟨rfl, hb1⟩
  · by_cases h3 : 3 < m
    · have h' : (3 : Int) < (m : Int) := by omega
      clear h
      go_enter Try.func3, Try.ntmps3
      go_wp2_with (go_at_call 7; refine (speaks_any _).mono ?_; rintro e w1 ⟨rfl, hb1⟩)
      go_ret
      exact ⟨rfl, hb1⟩
    · have h' : (m : Int) ≤ 3 := by omega
      go_enter Try.func3, Try.ntmps3
      go_wp2_with (go_at_call 7; refine (speaks_any _).mono ?_; rintro e w1 ⟨rfl, hb1⟩)
      go_ret
      exact ⟨rfl, hb1⟩
  · by_cases h3 : 3 < m
    · have h' : (3 : Int) < (m : Int) := by omega
      clear h
      go_enter Try.func3, Try.ntmps3
      go_wp2_with (go_at_call 7; refine (speaks_any _).mono ?_; rintro e w1 ⟨rfl, hb1⟩)
      go_ret
      exact ⟨rfl, hb1⟩
    · have h' : (m : Int) ≤ 3 := by omega
      have h0 : 0 ≤ n := by omega
      go_enter Try.func3, Try.ntmps3
      go_wp2_with (go_at_call 7; refine (speaks_any _).mono ?_; rintro e w1 ⟨rfl, hb1⟩)
      go_ret
      exact ⟨rfl, hb1⟩

theorem getD_mem (xs : List (Int × Int)) (k : Nat) (h : k < xs.length) : xs.getD k (0, 0) ∈ xs := by
  have : xs.getD k (0, 0) = xs[k] := by simp [List.getD, h]
  rw [this]; exact List.getElem_mem h
theorem mem_getD (xs : List (Int × Int)) (x : Int × Int) (h : x ∈ xs) : ∃ k, k < xs.length ∧ xs.getD k (0, 0) = x := by
  obtain ⟨k, hk, e⟩ := List.getElem_of_mem h
  exact ⟨k, hk, by simp [List.getD, hk, e]⟩
set_option maxHeartbeats 2000000 in
theorem nthSpan_walk (a : Option Addr) (m c : Nat) (xs : List (Int × Int)) (n : Int) (w : World) (hr : RowAB w a m c xs) (hm : m ≤ 3) (n1 : 0 ≤ n) (n2 : n ≤ 1099511627776) :
    Calls Try.prog 3 #[.slice a m c, .int .i64 n] w (RetB w true) := by
  have HR := Lib.hid hr
  have HL := Lib.hid (RowG.len hr)
  clear hr
  have m3 : (m : Int) ≤ 3 := by omega
  go_enter Try.func3, Try.ntmps3
  go_wp2_with fail
  refine (speaks_any _).mono ?_
  rintro e w1 ⟨rfl, hb1⟩
  go_wp2_with fail
  go_loopw [29] (fun i w' => ∃ k : Nat, k ≤ m ∧ i = .int .i64 k ∧ Hid (∀ j, j < k → Bd (xs.getD j (0, 0))) ∧ Below w.heap.size w w') (fun i _ => m - (intOf i).toNat)
  case atStart => exact ⟨0, by omega, rfl, (fun j hj => by omega), hb1⟩
  case round =>
    obtain ⟨k, hk, rfl, hinv, hbl⟩ := hrel
    by_cases hlt : k < m
    · obtain ⟨b, off, rfl, hb, hcell⟩ := (HR.out).at (show 0 < m by omega)
      have c0 := hcell k hlt 0 _ rfl
      have c1 := hcell k hlt 1 _ rfl
      clear hcell
      rw [← hbl.cell (p := ⟨b, off + k * 2 + 0, none⟩) hb] at c0
      rw [← hbl.cell (p := ⟨b, off + k * 2 + 1, none⟩) hb] at c1
      simp only [Nat.add_zero] at c0
      have HX : Hid (∀ x : Int × Int, smallB x.1 x.2 1099511627776 = true → Bd x) := smallB_of
      have hb' : b < wr.heap.size := Nat.lt_of_lt_of_le hb hbl.size
      have hsz := hbl.size
      have kk0 : (0 : Int) ≤ (k : Int) := by omega
      have kk1 : (k : Int) < (m : Int) := by omega
      have HI : Hid (Bd (xs.getD k (0, 0)) → ∀ j, j < k + 1 → Bd (xs.getD j (0, 0))) := fun hx j hj => by
        by_cases e : j = k
        · subst e; exact hx
        · exact hinv.out j (by omega)
      generalize xs.getD k (0, 0) = x at c0 c1 HI
      obtain ⟨A, B⟩ := x
      simp only at c0 c1
      cases hs : smallB A B 1099511627776 with
      | true =>
        have HB := HX.out (A, B) hs
        have HN := Lib.hid (HI.out HB)
        have hsm : ∀ W, Calls Try.prog 8 #[.agg #[.int .i64 A, .int .i64 B], .int .i64 1099511627776] W (RetB W true) := fun W => by
          rw [← hs]; exact small_any A B 1099511627776 (by omega) (by omega) W
        have HSM := Lib.hid hsm
        clear hsm hs HI HB
        go_wp2_with fail
        refine (HSM.out _).mono ?_
        rintro e w2 ⟨rfl, hb2⟩
        go_wp2
        go_roundw
        case rel => exact ⟨k + 1, by omega, by go_num, HN, (hbl.alloc hsz _).trans (hb2.mono (by simp; omega))⟩
        case measure => simp [intOf]; omega
      | false =>
        have hsm : ∀ W, Calls Try.prog 8 #[.agg #[.int .i64 A, .int .i64 B], .int .i64 1099511627776] W (RetB W false) := fun W => by
          rw [← hs]; exact small_any A B 1099511627776 (by omega) (by omega) W
        have HSM := Lib.hid hsm
        clear hsm hs HI
        go_wp2_with fail
        refine (HSM.out _).mono ?_
        rintro e w2 ⟨rfl, hb2⟩
        go_wp2
        go_ret
        exact ⟨rfl, (hbl.alloc hsz _).trans (hb2.mono (by simp; omega))⟩
    · obtain rfl : k = m := by omega
      have HBD : Hid (∀ x ∈ xs, Bd x) := fun x hx => by
        obtain ⟨j, hj, e⟩ := mem_getD xs x hx
        rw [← e]; exact hinv.out j (by have := HL.out; omega)
      have sh := spanH_bd xs HBD.out
      have sp := spanP_bd xs
      obtain ⟨s1, s2⟩ := sh
      obtain ⟨s3, s4⟩ := sp
      obtain ⟨f1, f2, f3⟩ := foldI_bd (spanH xs) (spanP xs) n s1 s3 n1
      have HF : Hid (∀ x ∈ xs, 0 < n → hasB x.1 x.2 n = hasB x.1 x.2 (foldI (spanH xs) (spanP xs) n)) := fun x hx hn => fold_has xs HBD.out n hn n2 x hx
      go_wp2_with fail
      refine (span_any a k c xs _ (RowG.keep HR.out hbl) HBD.out).mono ?_
      rintro e w2 ⟨rfl, hb2⟩
      have hbl2 := hbl.trans (hb2.mono hbl.size)
      go_wp2_with fail
      refine (refSpan_any a k c xs _ (RowG.keep HR.out hbl2) HBD.out).mono ?_
      rintro e w3 ⟨rfl, hb3⟩
      have hbl3 := hbl2.trans (hb3.mono hbl2.size)
      clear hb2 hb3 hbl2 hbl hinv
      have HRF := Lib.hid (refFold_any (spanH xs) (spanP xs) n s1 s2 s3 s4 n1 n2)
      have HFF := Lib.hid (fold_any (spanH xs) (spanP xs) n s1 s2 s3 s4 n1 n2)
      generalize spanH xs = HH at *
      generalize spanP xs = PP at *
      go_wp2_with fail
      refine (HFF.out _).mono ?_
      rintro e w4 ⟨rfl, rfl⟩
      generalize foldI HH PP n = FF at *
      have e1 : (HH == HH) = true := by simp
      have e2 : (PP == PP) = true := by simp
      have e3 : (FF == FF) = true := by simp
      go_wp2_with fail
      refine (HRF.out _).mono ?_
      rintro e w5 ⟨rfl, rfl⟩
      go_wp2_with fail
      all_goals
        go_loopw [81] (fun i w' => ∃ j : Nat, j ≤ k ∧ i = .int .i64 j ∧ Below w.heap.size w w') (fun i _ => k - (intOf i).toNat)
        case atStart => exact ⟨0, by omega, rfl, hbl3⟩
        case round =>
          obtain ⟨j, hj, rfl, hbl⟩ := hrel
          by_cases hlt2 : j < k
          · obtain ⟨b, off, rfl, hb, hcell⟩ := (HR.out).at (show 0 < k by omega)
            have c0 := hcell j hlt2 0 _ rfl
            have c1 := hcell j hlt2 1 _ rfl
            clear hcell
            have hxm := getD_mem xs j (by have := HL.out; omega)
            have HXX : Hid (Bd (xs.getD j (0, 0)) ∧ (0 < n → hasB (xs.getD j (0, 0)).1 (xs.getD j (0, 0)).2 n = hasB (xs.getD j (0, 0)).1 (xs.getD j (0, 0)).2 FF)) := ⟨HBD.out _ hxm, HF.out _ hxm⟩
            clear hxm
            generalize xs.getD j (0, 0) = x at c0 c1 HXX
            obtain ⟨A, B⟩ := x
            simp only at c0 c1
            rw [← hbl.cell (p := ⟨b, off + j * 2 + 0, none⟩) hb] at c0
            rw [← hbl.cell (p := ⟨b, off + j * 2 + 1, none⟩) hb] at c1
            simp only [Nat.add_zero] at c0
            have hb' : b < wr.heap.size := Nat.lt_of_lt_of_le hb hbl.size
            have hsz := hbl.size
            have kk0 : (0 : Int) ≤ (j : Int) := by omega
            have kk1 : (j : Int) < (k : Int) := by omega
            by_cases hn : 0 < n
            · have H1 : Hid (∀ W, Calls Try.prog 13 #[.int .i64 A, .int .i64 B, .int .i64 n] W fun e w' => e = .returned (.bool (hasB A B FF)) ∧ w' = W) := refHasQ A B n HXX.out.1 (by omega) _ (HXX.out.2 hn)
              have H2 : Hid (∀ W, Calls Try.prog 13 #[.int .i64 A, .int .i64 B, .int .i64 FF] W fun e w' => e = .returned (.bool (hasB A B FF)) ∧ w' = W) := refHasQ A B FF HXX.out.1 (by omega) _ rfl
              have bb : ∀ x : Bool, (x != x) = false := fun x => by cases x <;> rfl
              generalize hasB A B FF = z at H1 H2
              have bz := bb z
              clear bb
              go_wp2_with fail
              go_quiet ((go_at_call 13; first | (with_reducible exact Calls.quiet_of_same (H1.out _)) | (with_reducible exact Calls.quiet_of_same (H2.out _))))
              go_wp2
              go_roundw
              case rel => exact ⟨j + 1, by omega, by go_num, below_drewN (hbl.alloc hsz _) _⟩
              case measure => simp [intOf]; omega
            · first
              | (exfalso; omega)
              | (obtain rfl : n = 0 := by omega
                 have hn' : decide ((0 : Int) < 0) = false := by simp
                 clear hn HXX
                 go_wp2_with fail
                 go_quiet (fail)
                 go_wp2
                 go_roundw
                 case rel => exact ⟨j + 1, by omega, by go_num, below_drewN (hbl.alloc hsz _) _⟩
                 case measure => simp [intOf]; omega)
          · go_wp2
            go_ret
            exact ⟨rfl, hbl⟩
theorem nthSpan_any (a : Option Addr) (m c : Nat) (xs : List (Int × Int)) (n : Int) (w : World) (hr : RowAB w a m c xs) :
    Calls Try.prog 3 #[.slice a m c, .int .i64 n] w (RetB w true) := by
  by_cases h : 3 < m ∨ n < 0 ∨ 1099511627776 < n
  · exact nthSpan_big a m c n w h (RowG.le hr)
  · exact nthSpan_walk a m c xs n w hr (by omega) (by omega) (by omega)
end Go.Proofs.Ytlbffpojdfhefaa
