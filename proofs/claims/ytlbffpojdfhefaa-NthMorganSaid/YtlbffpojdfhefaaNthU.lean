/- Walk of the law's 'is'. -/
import Derived.Test.YtlbffpojdfhefaaNthT
import Derived.Test.YtlbffpojdfhefaaNthS
import Derived.Test.YtlbffpojdfhefaaNthQ
namespace Go.Proofs.Ytlbffpojdfhefaa
open Go.RowKit
attribute [local go_sem ↓] Go.wp_at_zero Go.wp_at_succ

theorem leastI_succ (s : Nat → Bool) (k : Nat) : leastI s (k + 1) = if leastI s k = 0 ∧ s k = true then (k : Int) + 1 else leastI s k := by
  unfold leastI leastOf
  rw [List.range_succ, List.find?_append]
  cases h : (List.range k).find? s with
  | some j => simp; omega
  | none =>
    simp only [Option.none_or, List.find?_cons, List.find?_nil, true_and]
    cases hs : s k <;> simp
theorem leastI_nonneg (s : Nat → Bool) (k : Nat) : 0 ≤ leastI s k := by
  unfold leastI; split <;> omega
theorem leastI_le (s : Nat → Bool) (k : Nat) : leastI s k ≤ (k : Int) := by
  unfold leastI leastOf
  split
  · rename_i j hj
    have := List.mem_range.1 (List.mem_of_find?_eq_some hj)
    omega
  · omega
theorem leastBo_eq (s : Nat → Bool) (k : Nat) : leastBo s k = decide (0 < leastI s k) := by
  unfold leastBo leastI
  cases leastOf s k <;> simp <;> omega
theorem leastOf_far {h r : List Bool} (hr : 0 < r.length) {m : Nat} (hm : h.length + r.length ≤ m) : leastOf (sq h r) m = leastOf (sq h r) (h.length + r.length) := by
  cases e : leastOf (sq h r) (h.length + r.length) with
  | some k =>
    unfold leastOf at e
    rw [List.find?_range_eq_some] at e
    exact leastOf_some (by have := e.2.1; simp at this; omega) e.1 (fun j hj => by have := e.2.2 j hj; simpa using this)
  | none =>
    unfold leastOf at e
    rw [List.find?_eq_none] at e
    refine leastOf_none fun j hj => ?_
    have e' : ∀ x, x < h.length + r.length → sq h r x = false := fun x hx => by have := e x (by simpa using hx); simpa using this
    by_cases hjh : j < h.length
    · exact e' j (by omega)
    · have hq := Nat.mod_lt (j - h.length) hr
      have e2 := Nat.mod_add_div (j - h.length) r.length
      rw [Nat.mul_comm] at e2
      have := (sq_comes h r).mul ((j - h.length) / r.length) (h.length + (j - h.length) % r.length) (by omega)
      rw [show h.length + (j - h.length) % r.length + (j - h.length) / r.length * r.length = j by omega] at this
      rw [this]; exact e' _ (by omega)
theorem leastI_far {h r : List Bool} (hr : 0 < r.length) {m : Nat} (hm : h.length + r.length ≤ m) : leastI (sq h r) m = leastI (sq h r) (h.length + r.length) := by
  unfold leastI; rw [leastOf_far hr hm]

set_option maxHeartbeats 1000000 in
theorem is_any (v : Value) (base : Nat) (a : Option Addr) (m c : Nat) (row h r : List Bool) (w : World) (s : SetAt base w v h r) (hr : RowB w a m c row) (hc : Canon h r) (hrow : ∀ k, k < m → row.getD k false = sq h r k) (hm : 2 * (h.length + r.length) ≤ m) (hm2 : m ≤ 1000000) :
    Calls Try.prog 22 #[v, .slice a m c] w (RetB w true) := by
  have hl1 : 0 < r.length := List.length_pos_iff.2 hc.1
  obtain ⟨a0, m0, c0, a1, m1, c1, r0, rfl, -, -, -⟩ := s.open
  have S := Lib.hid s
  have HR := Lib.hid hr
  have HC := Lib.hid hc
  have HROW := Lib.hid hrow
  clear s hr hc hrow
  have KC : Hid (∀ W, Below (w.heap.size + 1) (w.alloc (.cells #[.slice a0 m0 c0, .slice a1 m1 c1] 34)) W → W.cell? ⟨w.heap.size, 0, none⟩ = some (.slice a0 m0 c0) ∧ W.cell? ⟨w.heap.size, 1, none⟩ = some (.slice a1 m1 c1) ∧ w.heap.size + 1 ≤ W.heap.size) := by
    intro W hb
    have hblk := res_block hb
    exact ⟨cell_of_block hblk 0, cell_of_block hblk 1, lt_of_block hblk⟩
  have HH : Hid (∀ (n : Int) W x, -1000000000 ≤ n → n ≤ 1000000000 → Below (w.heap.size + 1) (w.alloc (.cells #[.slice a0 m0 c0, .slice a1 m1 c1] 34)) W → (decide (1 ≤ n) && sq h r (n - 1).toNat) = x → Calls Try.prog 20 #[.agg #[.slice a0 m0 c0, .slice a1 m1 c1], .int .i64 n] W (RetB W x)) := by
    intro n W x h1 h2 hb he
    rw [← he]
    exact hasSet_any _ base h r n W (S.out.keep (res_below hb)) (by omega) (by omega) (by omega) (by omega)
  have LB := Lib.hid (leastBo_eq (sq h r) (h.length + r.length))
  have LF := Lib.hid (leastI_far (h := h) (r := r) hl1 (m := m) (by omega))
  have mm : (m : Int) ≤ 1000000 := by omega
  have mm0 : (0 : Int) ≤ (m : Int) := by omega
  have hle := leastI_le (sq h r) (h.length + r.length)
  have hnn := leastI_nonneg (sq h r) (h.length + r.length)
  go_enter Try.func22, Try.ntmps22
  go_wp2_with fail
  refine (HH.out 0 _ false (by omega) (by omega) (Below.refl _ _) rfl).mono ?_
  rintro e w1 ⟨rfl, hb1⟩
  have hB1 : Below (w.heap.size + 1) (w.alloc (.cells #[.slice a0 m0 c0, .slice a1 m1 c1] 34)) w1 := hb1.mono (by simp)
  obtain ⟨k0, k1, k2⟩ := KC.out _ hB1
  clear hb1
  go_wp2_with fail
  refine (HH.out (-5) _ false (by omega) (by omega) hB1 rfl).mono ?_
  rintro e w2 ⟨rfl, hb2⟩
  have hB2 := below_step hB1 (by simp) hb2
  clear hb2 k0 k1 k2 hB1
  obtain ⟨k0, k1, k2⟩ := KC.out _ hB2
  have HL := Lib.hid (least_any _ base h r w2 (S.out.keep (res_below hB2)) (by omega) (by omega))
  rw [LB.out] at HL
  generalize hLL : leastI (sq h r) (h.length + r.length) = LL at HL LF hle hnn
  have HLL := Lib.hid hLL
  clear hLL LB
  go_wp2_with fail
  refine HL.out.mono ?_
  rintro e w3 ⟨rfl, hb3⟩
  have hB3 := below_step hB2 (by simp) hb3
  clear hb3 k0 k1 k2 hB2 HL
  clear w1
  go_wp2_with fail
  go_loopw [7, 27] (fun u i w' => ∃ k : Nat, k ≤ m ∧ i = .int .i64 k ∧ u = .int .i64 (leastI (sq h r) k) ∧ Below (w.heap.size + 1) (w.alloc (.cells #[.slice a0 m0 c0, .slice a1 m1 c1] 34)) w') (fun _ i _ => m - (intOf i).toNat)
  case atStart => exact ⟨0, by omega, rfl, rfl, hB3⟩
  case round =>
    obtain ⟨k, hk, rfl, rfl, hbl⟩ := hrel
    obtain ⟨q0, q1, q2⟩ := KC.out _ hbl
    by_cases hlt : k < m
    · obtain ⟨b, off, rfl, hb0, hb, hcell⟩ := (HR.out).cellK (res_below hbl) (show 0 < m by omega)
      have c0 := hcell k hlt
      rw [HROW.out k hlt] at c0
      clear hcell
      have kk0 : (0 : Int) ≤ (k : Int) := by omega
      have kk1 : (k : Int) < (m : Int) := by omega
      have HS := Lib.hid (leastI_succ (sq h r) k)
      have hHas := HH.out ((k : Int) + 1) wr (sq h r k) (by omega) (by omega) hbl (by rw [decide_eq_true (by omega), Bool.true_and]; congr 1; omega)
      have n0 := leastI_nonneg (sq h r) k
      generalize leastI (sq h r) k = F at HS n0
      cases hx : sq h r k with
      | false =>
        rw [hx] at c0 HS hHas
        have HHAS := Lib.hid hHas
        clear hHas hx
        go_wp2_with fail
        refine HHAS.out.mono ?_
        rintro e w4 ⟨rfl, hb4⟩
        go_wp2
        go_roundw
        case rel => exact ⟨k + 1, by omega, by go_num, by rw [HS.out]; simp, below_step hbl (by simp) hb4⟩
        case measure => simp [intOf]; omega
      | true =>
        rw [hx] at c0 HS hHas
        have HHAS := Lib.hid hHas
        clear hHas hx
        by_cases hF : F = 0
        · subst hF
          go_wp2_with fail
          refine HHAS.out.mono ?_
          rintro e w4 ⟨rfl, hb4⟩
          go_wp2
          go_roundw
          case rel => exact ⟨k + 1, by omega, by go_num, by rw [HS.out]; simp, below_step hbl (by simp) hb4⟩
          case measure => simp [intOf]; omega
        · have hF' : (F == 0) = false := by simpa using hF
          go_wp2_with fail
          refine HHAS.out.mono ?_
          rintro e w4 ⟨rfl, hb4⟩
          go_wp2
          go_roundw
          case rel => exact ⟨k + 1, by omega, by go_num, by rw [HS.out]; simp [hF], below_step hbl (by simp) hb4⟩
          case measure => simp [intOf]; omega
    · obtain rfl : k = m := by omega
      rw [LF.out]
      go_wp2_with fail
      refine (parts_any _ base h r _ (S.out.keep (res_below hbl))).mono ?_
      rintro e w4 ⟨rfl, hb4⟩
      have hB4 := below_step hbl (by simp) hb4
      clear hb4 q0 q1 q2 hbl
      go_wp2_with fail
      refine (refParts_any a k c row h r _ (HR.out.keep (res_below hB4)) HC.out HROW.out hm hm2).mono ?_
      rintro e w5 ⟨rfl, hb5⟩
      have hB5 := below_step hB4 (by simp) hb5
      have z1 : (LL == LL) = true := by simp
      have z2 : (decide (0 < LL) == decide (0 < LL)) = true := by simp
      have z3 : ((h.length : Int) == (h.length : Int)) = true := by simp
      have z4 : ((r.length : Int) == (r.length : Int)) = true := by simp
      go_wp2
      go_ret
      exact ⟨rfl, res_below hB5⟩
end Go.Proofs.Ytlbffpojdfhefaa
