/- Walks of repeats and slices.Clone. -/
import Derived.Test.YtlbffpojdfhefaaNthB
import Derived.Test.YtlbffpojdfhefaaNthM
namespace Go.Proofs.Ytlbffpojdfhefaa
open Go.RowKit

abbrev RowB := RowA VB false 0
set_option maxHeartbeats 400000 in
theorem repeats_any (a : Option Addr) (m c : Nat) (r : List Bool) (n : Nat) (w : World) (hr : RowB w a m c r) (hn : 1 ≤ n) (hnm : n ≤ m) :
    Calls Try.prog 46 #[.slice a m c, .int .i64 n] w (RetB w (repeatsB r n)) := by
  have hle := RowA.le hr
  have hl := RowA.len hr
  have HR := Lib.hid hr
  have HL := Lib.hid hl
  clear hr hl
  have hn1 : (1 : Int) ≤ (n : Int) := by omega
  have hn0 : ¬ (n : Int) = 0 := by omega
  go_enter Try.func46, Try.ntmps46
  go_wp2
  go_loopw [5] (fun i w' => ∃ k : Nat, n ≤ k ∧ k ≤ m ∧ i = .int .i64 k ∧ Hid (∀ j, n ≤ j → j < k → r.getD j false = r.getD (j - n) false) ∧ Below w.heap.size w w') (fun i _ => m - (intOf i).toNat)
  case atStart => exact ⟨n, Nat.le_refl _, hnm, rfl, (fun j h1 h2 => by omega), Below.refl _ _⟩
  case round =>
    obtain ⟨k, hk0, hk, rfl, hinv, hbl⟩ := hrel
    by_cases hlt : k < m
    · obtain ⟨b, off, rfl, hb0, hb, hcell⟩ := (HR.out).cellK hbl (show 0 < m by omega)
      have c0 := hcell k hlt
      have c1 := hcell (k - n) (by omega)
      clear hcell
      have hb3 := hbl.size
      have k1 : (0 : Int) ≤ (k : Int) := by omega
      have k2 : (k : Int) < (m : Int) := by omega
      have k3 : (n : Int) ≤ (k : Int) := by omega
      have k4 : (0 : Int) ≤ (k : Int) - (n : Int) := by omega
      have k5 : (k : Int) - (n : Int) < (m : Int) := by omega
      by_cases hxy : r.getD k false = r.getD (k - n) false
      · have HN : Hid (∀ j, n ≤ j → j < k + 1 → r.getD j false = r.getD (j - n) false) := fun j h1 h2 => by
          by_cases e : j = k
          · subst e; exact hxy
          · exact hinv.out j h1 (by omega)
        rw [hxy] at c0
        clear hxy hinv
        generalize r.getD (k - n) false = x at c0 c1
        go_wp2_with fail
        go_quiet (fail)
        go_wp2
        go_roundw
        case rel => exact ⟨k + 1, by omega, by omega, by go_num, HN, below_drewN hbl _⟩
        case measure => simp [intOf]; omega
      · have F : Hid (repeatsB r n = false) := by
          cases h : repeatsB r n with
          | false => rfl
          | true => exact absurd ((repeats_period (by intro e; subst e; simp at hxy) h).2 k hk0 (by rw [HL.out]; exact hlt)) hxy
        clear hinv
        generalize r.getD k false = x at c0 hxy
        generalize r.getD (k - n) false = y at c1 hxy
        obtain rfl : y = !x := by cases x <;> cases y <;> simp_all
        clear hxy
        go_wp2_with fail
        go_quiet (fail)
        go_wp2
        go_ret
        exact ⟨ret_bool F.out.symm, below_drewN hbl _⟩
    · obtain rfl : k = m := by omega
      have hm0 : (0 : Int) ≤ (k : Int) := by omega
      have F : Hid (repeatsB r n = ((k : Int) % (n : Int) == 0)) := by
        show repeatsB r n = _
        by_cases hd : k % n = 0
        · rw [repeats_of (by rw [HL.out]; exact hd) (by rw [HL.out]; exact hinv.out)]
          symm; rw [beq_iff_eq]; omega
        · have : repeatsB r n = false := by
            unfold repeatsB; rw [HL.out]; simp [hd]
          rw [this]; symm; rw [beq_eq_false_iff_ne]; omega
      clear hinv
      go_wp2
      go_ret
      exact ⟨ret_bool F.out.symm, hbl⟩

theorem Try.infoB : (Try.prog.info? 4).map (fun i => (i.zero, i.size, i.bytes)) = some (some (.bool false), 1, 1) := by kernel_rfl
/-- append to an own row of bools, as a rule at the list of operations. -/
theorem one_bools (r : List Bool) : ∀ u ∈ r.map VB, u.oneCell' = true := by
  intro u hu; obtain ⟨b, _, rfl⟩ := List.mem_map.1 hu; rfl
def RetRB (w : World) (r : List Bool) (e : Ending) (w' : World) : Prop := ∃ v, e = .returned v ∧ RowV VB false w.heap.size w' v r ∧ Below w.heap.size w w'
set_option maxHeartbeats 400000 in
theorem clone_any (a : Option Addr) (m c : Nat) (r : List Bool) (w : World) (hr : RowB w a m c r) (hm : m ≤ 140737488351232) :
    Calls Try.prog 47 #[.slice a m c] w (RetRB w r) := by
  have hl := RowA.len hr
  cases a with
  | none =>
    have h0 : m = 0 := by
      rcases Nat.eq_zero_or_pos m with h | h
      · exact h
      · obtain ⟨b, off, e, _⟩ := hr.at h; cases e
    subst h0
    obtain rfl : r = [] := List.eq_nil_of_length_eq_zero hl
    have hq := Lib.run_eql_slice_nil (P := Try.prog) w 32 4 none 0 c 0 0 Try.underlying32
    go_enter Try.func47, Try.ntmps47
    go_wp2
    go_ret
    exact ⟨_, rfl, ⟨none, 0, 0, rfl, RowA.nil _ _ _ _⟩, Below.refl _ _⟩
  | some ad =>
    have hq := Lib.run_eql_slice_nil (P := Try.prog) w 32 4 (some ad) m c 0 0 Try.underlying32
    obtain ⟨i0, hi, hz0, hz1, hz2⟩ := info_parts' Try.infoB
    have hr1 := (RowA.keep hr (below_a1 w (.cells #[] 4))).news
    have hx1 := one_bools r
    have hown := World.ownsRow_made w #[] 0 (base := w.heap.size) (e := 4) (size := 1) (Nat.le_refl _) (by simp [maxLen]) rfl
    have HL := Lib.hid hl
    have HI := Lib.hid hi
    have HZ := Lib.hid (And.intro hz0 (And.intro hz1 hz2))
    have H1 := Lib.hid hr1
    have H2 := Lib.hid hx1
    have H3 := Lib.hid hown
    clear hr hl hi hz0 hz1 hz2 hr1 hx1 hown
    go_enter Try.func47, Try.ntmps47
    go_wp2_with (at_builtin; refine wpList_append_own _ rfl _ _ 32 rfl w.heap.size 4 i0 (.bool false) 1 1 Try.underlying32 HI.out HZ.out.1 HZ.out.2.1 HZ.out.2.2 rfl (by decide) _ 0 [] rfl H3.out ad m c (r.map VB) rfl (by rw [List.length_map, HL.out, Nat.mul_one]) H1.out H2.out (by unfold maxLen; omega) (by omega) (by simp) ?_; intro v' w1 hown1 hgrow _)
    go_ret
    exact ⟨_, rfl, rowV_of_owns hown1, (below_a1 w _).grown hgrow (by simp) (by intro k hk; cases hk; exact Nat.le_refl _)⟩

end Go.Proofs.Ytlbffpojdfhefaa
