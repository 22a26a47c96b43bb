/- Walk of the reference's Parts. -/
import Derived.Test.YtlbffpojdfhefaaNthG
namespace Go.Proofs.Ytlbffpojdfhefaa
open Go.RowKit
attribute [local go_sem ↓] Go.wp_at_zero Go.wp_at_succ

theorem parts_at {h r : List Bool} (c : Canon h r) {n j : Nat} (hn : 2 * (h.length + r.length) ≤ n)
    (hw : ∀ i, j ≤ i → i < n - r.length → sq h r i = sq h r (i + r.length)) (hj : ∀ q, j = q + 1 → sq h r q ≠ sq h r (q + r.length)) : j = h.length := by
  rcases Nat.lt_trichotomy j h.length with hl | hl | hl
  · have cc : Comes (sq h r) j r.length := fun k hk => by
      by_cases hk2 : k < h.length
      · exact (hw k hk (by omega)).symm
      · exact sq_comes h r k (by omega)
    have := canon_head c cc
    omega
  · exact hl
  · exact absurd (sq_comes h r (j - 1) (by omega)).symm (hj (j - 1) (by omega))
theorem parts_less {h r : List Bool} (c : Canon h r) {n j p : Nat} (hn : 2 * (h.length + r.length) ≤ n) (hp : 1 ≤ p) (hp2 : p < r.length)
    (hw : ∀ i, j ≤ i → i < n - p → sq h r i = sq h r (i + p)) : ¬ j + p ≤ n / 2 := by
  intro hle
  have hl : 0 < r.length := by omega
  have cc : Comes (sq h r) (max j h.length) p := fun k hk => by
    have hq := Nat.mod_lt (k - max j h.length) hl
    have e := Nat.mod_add_div (k - max j h.length) r.length
    rw [Nat.mul_comm] at e
    have h1 := (sq_comes h r).mul ((k - max j h.length) / r.length) (max j h.length + (k - max j h.length) % r.length) (by omega)
    have h2 := (sq_comes h r).mul ((k - max j h.length) / r.length) (max j h.length + (k - max j h.length) % r.length + p) (by omega)
    have h3 := hw (max j h.length + (k - max j h.length) % r.length) (by omega) (by omega)
    have e1 : max j h.length + (k - max j h.length) % r.length + (k - max j h.length) / r.length * r.length = k := by omega
    have e2 : max j h.length + (k - max j h.length) % r.length + p + (k - max j h.length) / r.length * r.length = k + p := by omega
    rw [e1] at h1
    rw [e2] at h2
    rw [h1, h2, h3]
  have := canon_least c hp cc
  omega

set_option maxHeartbeats 1000000 in
theorem refParts_any (a : Option Addr) (m c : Nat) (row h r : List Bool) (w : World) (hr : RowB w a m c row) (hc : Canon h r) (hrow : ∀ k, k < m → row.getD k false = sq h r k) (hm : 2 * (h.length + r.length) ≤ m) (hm2 : m ≤ 1000000) :
    Calls Try.prog 39 #[.slice a m c] w (RetII w h.length r.length) := by
  have hl1 : 0 < r.length := List.length_pos_iff.2 hc.1
  have HR := Lib.hid hr
  have HC := Lib.hid hc
  have HROW := Lib.hid hrow
  clear hr hc hrow
  have mm : (m : Int) ≤ 1000000 := by omega
  have mm0 : (0 : Int) ≤ (m : Int) := by omega
  go_enter Try.func39, Try.ntmps39
  go_wp2
  go_loopw [5] (fun i w' => ∃ p : Nat, 1 ≤ p ∧ p ≤ r.length ∧ i = .int .i64 p ∧ Below w.heap.size w w') (fun i _ => r.length + 1 - (intOf i).toNat)
  case atStart => exact ⟨1, by omega, by omega, rfl, Below.refl _ _⟩
  case round =>
    obtain ⟨p, hp1, hp2, rfl, hbl⟩ := hrel
    obtain ⟨wo, rfl⟩ : ∃ wo : World, wo = wr := ⟨_, rfl⟩
    have p1 : (1 : Int) ≤ (p : Int) := by omega
    have p2 : 2 * (p : Int) ≤ (m : Int) := by omega
    go_wp2
    go_loopw [6] (fun i w' => ∃ j : Nat, j + p ≤ m ∧ i = .int .i64 j ∧ Hid (∀ i, j ≤ i → i < m - p → sq h r i = sq h r (i + p)) ∧ Below w.heap.size w w') (fun i _ => (intOf i).toNat)
    case atStart => exact ⟨m - p, by omega, by go_num, (fun i h1 h2 => by omega), hbl⟩
    case round =>
      obtain ⟨j, hj, rfl, hinv, hbl2⟩ := hrel
      by_cases hj0 : j = 0
      · subst hj0
        have nn0 : decide ((0 : Int) < 0) = false := by simp
        by_cases hpp : p = r.length
        · have e := parts_at (j := 0) HC.out hm (by rw [← hpp]; exact hinv.out) (fun q hq => by omega)
          have E := Lib.hid (show (h.length : Int) = 0 by omega)
          have E2 := Lib.hid (show (r.length : Int) = (p : Int) by omega)
          have pm : (p : Int) ≤ (m : Int) / 2 := by omega
          clear e hpp hinv
          go_wp2_with fail
          go_quiet (fail)
          go_wp2
          go_ret2
          exact ⟨ret_ii (by rw [E.out]; rfl) (by rw [E2.out]), below_drewN hbl2 _⟩
        · have hlt : p < r.length := by omega
          have hno := parts_less (j := 0) HC.out hm hp1 hlt hinv.out
          exact absurd (show 0 + p ≤ m / 2 by omega) hno
      · obtain ⟨q, rfl⟩ : ∃ q, j = q + 1 := ⟨j - 1, by omega⟩
        obtain ⟨b, off, rfl, hb0, hb, hcell⟩ := (HR.out).cellK hbl2 (show 0 < m by omega)
        have c0 := hcell q (by omega)
        have c1 := hcell (q + p) (by omega)
        rw [HROW.out q (by omega)] at c0
        rw [HROW.out (q + p) (by omega)] at c1
        clear hcell
        have q0 : (0 : Int) ≤ (q : Int) := by omega
        have q1 : (q : Int) < (m : Int) := by omega
        have q2 : (q : Int) + (p : Int) < (m : Int) := by omega
        have q3 : (0 : Int) ≤ (q : Int) + (p : Int) := by omega
        by_cases hxy : sq h r q = sq h r (q + p)
        · have HN : Hid (∀ i, q ≤ i → i < m - p → sq h r i = sq h r (i + p)) := fun i h1 h2 => by
            by_cases e : i = q
            · subst e; exact hxy
            · exact hinv.out i (by omega) h2
          rw [hxy] at c0
          clear hxy hinv
          generalize sq h r (q + p) = x at c0 c1
          go_wp2_with fail
          go_quiet (fail)
          go_wp2
          go_roundw
          case rel => exact ⟨q, by omega, rfl, HN, below_drewN hbl2 _⟩
          case measure => simp [intOf]
        · by_cases hpp : p = r.length
          · have e := parts_at (j := q + 1) HC.out hm (by rw [← hpp]; exact hinv.out) (fun x hx => by
              obtain rfl : x = q := by omega
              rw [← hpp]; exact hxy)
            have E := Lib.hid (show (h.length : Int) = (q : Int) + 1 by omega)
            have E2 := Lib.hid (show (r.length : Int) = (p : Int) by omega)
            have pm : (q : Int) + 1 + (p : Int) ≤ (m : Int) / 2 := by omega
            clear e hpp hinv
            generalize sq h r q = x at c0 hxy
            generalize sq h r (q + p) = y at c1 hxy
            obtain rfl : y = !x := by cases x <;> cases y <;> simp_all
            clear hxy
            go_wp2_with fail
            go_quiet (fail)
            go_wp2
            go_ret2
            exact ⟨ret_ii (by rw [E.out]; rfl) (by rw [E2.out]), below_drewN hbl2 _⟩
          · have hlt : p < r.length := by omega
            have hno := parts_less (j := q + 1) HC.out hm hp1 hlt hinv.out
            have pm : ¬ (q : Int) + 1 + (p : Int) ≤ (m : Int) / 2 := by omega
            clear hpp hinv hno
            generalize sq h r q = x at c0 hxy
            generalize sq h r (q + p) = y at c1 hxy
            obtain rfl : y = !x := by cases x <;> cases y <;> simp_all
            clear hxy
            go_wp2_with fail
            go_quiet (fail)
            go_wp2
            go_roundw
            case rel => exact ⟨p + 1, by omega, by omega, by go_num, below_drewN hbl2 _⟩
            case measure => simp [intOf]; omega
end Go.Proofs.Ytlbffpojdfhefaa
