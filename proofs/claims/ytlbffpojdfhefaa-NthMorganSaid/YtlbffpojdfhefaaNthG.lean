/- Walks of round, Parts, Has. -/
import Derived.Test.YtlbffpojdfhefaaNthF
namespace Go.Proofs.Ytlbffpojdfhefaa
open Go.RowKit

theorem SetAt.open {base w v h r} (s : SetAt base w v h r) : ∃ a0 m0 c0 a1 m1 c1 r0, v = .agg #[.slice a0 m0 c0, .slice a1 m1 c1] ∧ RowA VB false base w a0 m0 c0 h ∧ RowA VB false base w a1 m1 c1 r0 ∧ r = ringOf r0 := by
  obtain ⟨v0, v1, r0, rfl, ⟨a0, m0, c0, rfl, h0⟩, ⟨a1, m1, c1, rfl, h1⟩, e⟩ := s
  exact ⟨a0, m0, c0, a1, m1, c1, r0, rfl, h0, h1, e⟩
theorem SetAt.mono {base base' w v h r} (s : SetAt base w v h r) (hb : base' ≤ base) : SetAt base' w v h r :=
  let ⟨v0, v1, r0, e, h0, h1, h2⟩ := s; ⟨v0, v1, r0, e, h0.mono hb, h1.mono hb, h2⟩
theorem ringOf_ne (r0 : List Bool) : ringOf r0 ≠ [] := by unfold ringOf; split <;> simp_all
def RetR0 (w : World) (r : List Bool) (e : Ending) (w' : World) : Prop := ∃ a n c, e = .returned (.slice a n c) ∧ RowA VB false 0 w' a n c r ∧ Below w.heap.size w w'

set_option maxHeartbeats 400000 in
theorem round_any (v : Value) (base : Nat) (h r : List Bool) (w : World) (s : SetAt base w v h r) :
    Calls Try.prog 37 #[v] w (RetR0 w r) := by
  obtain ⟨a0, m0, c0, a1, m1, c1, r0, rfl, h0, h1, rfl⟩ := s.open
  by_cases hm : m1 = 0
  · subst hm
    have e : ringOf r0 = [false] := by unfold ringOf; rw [if_pos (List.eq_nil_of_length_eq_zero h1.len)]
    rw [e]
    clear e h0 h1 s
    go_enter Try.func37, Try.ntmps37
    go_wp2
    go_ret
    refine ⟨_, _, _, rfl, (rowA_of_owns (f := VB) (d := false) (xs := [false]) (owns_built (w := w.alloc (.cells #[.slice a0 m0 c0, .slice a1 0 c1] 34)) (base := 0) (e := 4) (n := 1) [.bool false] (Nat.zero_le _) rfl (by simp [maxLen]))).elim fun a hh => hh.elim fun c hh => ?_, (below_a1 _ _).trans ((below_a1 _ _).mono (by simp))⟩
    obtain ⟨e, hr⟩ := hh
    simp only [Value.slice.injEq, true_and] at e
    obtain ⟨rfl, rfl⟩ := e
    rw [show (w.alloc (.cells #[.slice a0 m0 c0, .slice a1 0 c1] 34)).heap.size = w.heap.size + 1 by simp] at hr
    exact hr
  · have e : ringOf r0 = r0 := by unfold ringOf; rw [if_neg]; intro e; subst e; exact hm h1.len.symm
    rw [e]
    have H1 := Lib.hid h1
    have hm' : ((m1 : Int) == 0) = false := by simp; omega
    clear e h0 h1 s
    go_enter Try.func37, Try.ntmps37
    go_wp2
    go_ret
    exact ⟨_, _, _, rfl, (H1.out.keep (below_a1 _ _)).mono (Nat.zero_le _), below_a1 _ _⟩

def RetII (w : World) (x y : Int) (e : Ending) (w' : World) : Prop := e = .returned (.tuple #[.int .i64 x, .int .i64 y]) ∧ Below w.heap.size w w'
set_option maxHeartbeats 400000 in
theorem parts_any (v : Value) (base : Nat) (h r : List Bool) (w : World) (s : SetAt base w v h r) :
    Calls Try.prog 23 #[v] w (RetII w h.length r.length) := by
  obtain ⟨a0, m0, c0, a1, m1, c1, r0, rfl, h0, h1, rfl⟩ := s.open
  have L0 := Lib.hid h0.len
  have S := Lib.hid s
  clear h0 h1 s
  go_enter Try.func23, Try.ntmps23
  go_wp2_with fail
  go_region_held3 (fun w' => w'.cell? ⟨w.heap.size, 0, none⟩ = some (.slice a0 m0 c0) ∧ w'.cell? ⟨w.heap.size, 1, none⟩ = some (.slice a1 m1 c1)) (first | (go_keep; done) | (refine ⟨?_, ?_⟩ <;> (rw [hb.cell (by simp)]; simp [go_sem])))
     (first | (go_at_call 37; refine (round_any _ base h (ringOf r0) _ ((S.out.keep (below_a1 _ _)).keep (Below.refl _ _).drew)).mono ?_; rintro e w1 ⟨a, n, c, rfl, hr, hb⟩))
  have HL := Lib.hid hr.len
  have hbb := (below_a1 w (.cells #[.slice a0 m0 c0, .slice a1 m1 c1] 34)).drew.trans (hb.mono (by simp))
  clear hr hb
  go_wp2
  go_ret2
  exact ⟨ret_ii (by rw [L0.out]) (by rw [HL.out]), hbb⟩

set_option maxHeartbeats 400000 in
theorem hasSet_any (v : Value) (base : Nat) (h r : List Bool) (n : Int) (w : World) (s : SetAt base w v h r) (hn1 : -9223372036854775808 ≤ n) (hn2 : n ≤ 1099511627776) (hh : h.length ≤ 1000000) (hrr : r.length ≤ 1000000) :
    Calls Try.prog 20 #[v, .int .i64 n] w (RetB w (decide (1 ≤ n) && sq h r (n - 1).toNat)) := by
  obtain ⟨a0, m0, c0, a1, m1, c1, r0, rfl, h0, h1, rfl⟩ := s.open
  have L0 := Lib.hid h0.len
  have hm0 : m0 ≤ 1000000 := by rw [← h0.len]; exact hh
  have H0 := Lib.hid h0
  have hne := ringOf_ne r0
  have S := Lib.hid (s.keep (below_a1 w (.cells #[.slice a0 m0 c0, .slice a1 m1 c1] 34)))
  clear h0 h1 s hh
  generalize ringOf r0 = r at *
  have hc : 1 < n ∨ 1 = n ∨ n < 1 := by omega
  clear hn1
  by_cases hlt : n < 1
  · have F := Lib.hid (show (decide (1 ≤ n) && sq h r (n - 1).toNat) = false by rw [decide_eq_false (by omega)]; rfl)
    clear hc
    go_enter Try.func20, Try.ntmps20
    go_wp2_with (go_at_call 37; refine (round_any _ base h r _ S.out).mono ?_; rintro e w1 ⟨a, m, c, rfl, hr, hb⟩)
    go_ret
    exact ⟨ret_bool F.out.symm, (below_a1 _ _).trans (hb.mono (by simp))⟩
  have n1 : 1 ≤ n := by omega
  obtain ⟨k, rfl⟩ : ∃ k : Nat, n = (k : Int) + 1 := ⟨(n - 1).toNat, by omega⟩
  have e1 : (decide (1 ≤ (k : Int) + 1) && sq h r ((k : Int) + 1 - 1).toNat) = sq h r k := by
    rw [decide_eq_true (by omega), Bool.true_and]; congr 1; omega
  rw [e1]
  have kz0 : (0 : Int) ≤ (k : Int) := by omega
  have kz1 : (k : Int) ≤ 2000000000000 := by omega
  clear e1 hc hn2 n1 hlt
  by_cases hk : k < m0
  · obtain ⟨b, off, rfl, _, hlt0, hcell⟩ := H0.out.at (by omega)
    have F := Lib.hid (show sq h r k = h.getD k false by unfold sq; rw [if_pos (by rw [L0.out]; exact hk)])
    have ck := hcell k hk
    clear hcell
    generalize h.getD k false = x at ck F
    go_enter Try.func20, Try.ntmps20
    go_wp2_with fail
    refine (round_any _ base h r _ S.out).mono ?_
    rintro e w1 ⟨a, m, c, rfl, hr, hb⟩
    have q0 : w1.cell? ⟨w.heap.size, 0, none⟩ = some (.slice (some ⟨b, off, none⟩) m0 c0) := by rw [hb.cell (by simp)]; simp [go_sem]
    have q1 : w1.cell? ⟨b, off + k, none⟩ = some (.bool x) := by rw [hb.cell (by simp; omega), World.cell?_alloc_past _ _ _ hlt0]; exact ck
    have k0 : (0 : Int) ≤ (k : Int) := by omega
    have k1 : (k : Int) < (m0 : Int) := by omega
    clear hr ck
    go_wp2
    go_ret
    exact ⟨ret_bool F.out.symm, (below_a1 _ _).trans (hb.mono (by simp))⟩
  · obtain ⟨q, rfl⟩ : ∃ q, k = m0 + q := ⟨k - m0, by omega⟩
    have F := Lib.hid (show sq h r (m0 + q) = per r q by unfold sq; rw [if_neg (by rw [L0.out]; exact hk), L0.out]; congr 1; omega)
    clear hk
    go_enter Try.func20, Try.ntmps20
    go_wp2_with fail
    refine (round_any _ base h r _ S.out).mono ?_
    rintro e w1 ⟨a, m, c, rfl, hr, hb⟩
    have q0 : w1.cell? ⟨w.heap.size, 0, none⟩ = some (.slice a0 m0 c0) := by rw [hb.cell (by simp)]; simp [go_sem]
    have hl := hr.len
    have hm : 0 < m := by rw [← hl]; exact List.length_pos_iff.2 hne
    have hmod : q % m < m := Nat.mod_lt _ hm
    obtain ⟨b, off, rfl, _, _, hcell⟩ := hr.at hm
    have ck := hcell (q % m) hmod
    have G := Lib.hid (show per r q = r.getD (q % m) false by unfold per; rw [hl])
    have hml : m ≤ 1000000 := by omega
    clear hcell hr hl
    generalize r.getD (q % m) false = x at ck G
    have m1' : (0 : Int) ≤ (q : Int) % (m : Int) := by omega
    have m2' : (q : Int) % (m : Int) < (m : Int) := by omega
    have m3' : ¬ (m : Int) = 0 := by omega
    have m4' : (0 : Int) ≤ (q : Int) := by omega
    have m5' : (m0 : Int) + (q : Int) - (m0 : Int) = (q : Int) := by omega
    go_wp2
    go_ret
    exact ⟨ret_bool (by rw [F.out, G.out]), (below_a1 _ _).trans (hb.mono (by simp))⟩
end Go.Proofs.Ytlbffpojdfhefaa
