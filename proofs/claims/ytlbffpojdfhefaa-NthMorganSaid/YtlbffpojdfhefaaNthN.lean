/- Walks of Not, Least, both, Union, Inter. -/
import Derived.Test.YtlbffpojdfhefaaNthK
import Derived.Test.YtlbffpojdfhefaaNthL
namespace Go.Proofs.Ytlbffpojdfhefaa
open Go.RowKit
attribute [local go_sem ↓] Go.wp_at_zero Go.wp_at_succ

/-- The block b holds the set (its two slices). -/
theorem Try.callNot1 : ∀ args W, (callFunc 35 args).run Try.prog W = .ok (.enter 35 args) W := fun _ _ => by kernel_rfl
theorem notF_any (b : Nat) (v0 v1 : Value) (base : Nat) (h r : List Bool) (k : Nat) (W : World) (s : SetAt base W (.agg #[v0, v1]) h r) (hk : k ≤ 1000000000)
    (hh : h.length ≤ 1000000) (hr : r.length ≤ 1000000) (c0 : W.cell? ⟨b, 0, none⟩ = some v0) (c1 : W.cell? ⟨b, 1, none⟩ = some v1) :
    Calls Try.prog 35 #[.int .i64 ((k : Int) + 1), .pointer (some ⟨b, 0, none⟩)] W (RetB W (!sq h r k)) := by
  obtain ⟨a0, m0, d0, a1, m1, d1, r0, e, -, -, -⟩ := s.open
  simp only [Value.agg.injEq, Array.mk.injEq, List.cons.injEq, and_true] at e
  obtain ⟨rfl, rfl⟩ := e
  have hk' : (k : Int) ≤ 1000000000 := by omega
  have HC := Lib.hid (hasSet_any _ base h r ((k : Int) + 1) W s (by omega) (by omega) hh hr)
  have e2 : (decide (1 ≤ (k : Int) + 1) && sq h r ((k : Int) + 1 - 1).toNat) = sq h r k := by
    rw [decide_eq_true (by omega), Bool.true_and]; congr 1; omega
  rw [e2] at HC
  clear s e2
  go_enter Try.func35, Try.ntmps35
  go_wp2_with fail
  refine HC.out.mono ?_
  rintro e w1 ⟨rfl, hb⟩
  go_wp2
  go_ret
  exact ⟨rfl, hb⟩

set_option maxHeartbeats 1000000 in
theorem not_any (v : Value) (base : Nat) (h r : List Bool) (w : World) (s : SetAt base w v h r) (hne : 0 < r.length) (hh : h.length ≤ 400000) (hr : r.length ≤ 400000) :
    Calls Try.prog 17 #[v] w (RetSet w fun h' r' => Canon h' r' ∧ (∀ k, sq h' r' k = !sq h r k) ∧ h'.length ≤ h.length ∧ r'.length ≤ r.length) := by
  have hmf : ∀ (fn : Fn) (first cap : Array Value) (w : World), (Instr.makeFunc fn first cap).run Try.prog w = .ok (.func fn first cap) w := fun _ _ _ _ => rfl
  obtain ⟨a0, m0, c0, a1, m1, c1, r0, rfl, h0, h1, e1⟩ := s.open
  have S := Lib.hid s
  clear h0 h1 e1 s
  have hW : Hid (Below w.heap.size w ((w.alloc (.cells #[.slice a0 m0 c0, .slice a1 m1 c1] 34)).alloc (.cells #[.slice none 0 0, .slice none 0 0] 34))) :=
    (below_a1 _ _).trans ((below_a1 _ _).mono (by simp))
  have x0 : (0 : Int) ≤ (h.length : Int) := by omega
  have x1 : (0 : Int) ≤ (r.length : Int) := by omega
  go_enter Try.func17, Try.ntmps17
  go_wp2_with fail
  refine (parts_any _ base h r _ (S.out.keep hW.out)).mono ?_
  rintro e w1 ⟨rfl, hb1⟩
  have hb4 : Below (w.heap.size + 2) ((w.alloc (.cells #[.slice a0 m0 c0, .slice a1 m1 c1] 34)).alloc (.cells #[.slice none 0 0, .slice none 0 0] 34)) w1 := hb1.mono (by simp)
  have q0 : w1.cell? ⟨w.heap.size, 0, none⟩ = some (.slice a0 m0 c0) := by rw [hb4.cell (by simp)]; simp [go_sem]
  have q1 : w1.cell? ⟨w.heap.size, 1, none⟩ = some (.slice a1 m1 c1) := by rw [hb4.cell (by simp)]; simp [go_sem]
  have hsz := hb4.size
  simp only [World.size_alloc] at hsz
  have hb5 : Below w.heap.size w w1 := hW.out.trans (hb4.mono (by omega))
  have HLIST := Lib.hid (listed_any h.length r.length 35 #[.pointer (some ⟨w.heap.size, 0, none⟩)] (fun k => !sq h r k) w1 Try.callNot1 hne hh hr (fun i W hi hW2 => notF_any w.heap.size _ _ base h r i W (S.out.keep (hb5.trans (hW2.mono (by omega)))) (by omega) (by omega) (by omega)
    (by rw [hW2.cell (show w.heap.size < w1.heap.size by omega)]; exact q0) (by rw [hW2.cell (show w.heap.size < w1.heap.size by omega)]; exact q1)))
  go_wp2_with fail
  refine HLIST.out.mono ?_
  rintro e w2 ⟨v2, h2, r2, rfl, hset, hp, hb6⟩
  obtain ⟨p1, p2, p3, p4⟩ := hp
  have p5 : ∀ k : Nat, sq h2 r2 k = !sq h r k := fun k => by
    rw [p2]; exact sq_row (fun k => !sq h r k) _ _ hne (fun k hk => by show (!sq h r (k + r.length)) = !sq h r k; rw [sq_comes h r k hk]) k
  have HP := Lib.hid (And.intro p1 (And.intro p5 (And.intro p3 p4)))
  clear p1 p2 p3 p4 p5
  obtain ⟨a5, n5, c5, a6, n6, c6, q5, rfl, hv5, hv6, hq5⟩ := hset.open
  have hb7 : Below (w.heap.size + 2) ((w.alloc (.cells #[.slice a0 m0 c0, .slice a1 m1 c1] 34)).alloc (.cells #[.slice none 0 0, .slice none 0 0] 34)) w2 := hb4.trans (hb6.mono (by omega))
  have hblk : w2.heap[w.heap.size + 1]? = some (.cells #[.slice none 0 0, .slice none 0 0] 34 (0, 0)) := by
    refine block_below ?_ hb7 (by omega)
    have := heap_alloc_new (w.alloc (.cells #[.slice a0 m0 c0, .slice a1 m1 c1] 34)) (.cells #[.slice none 0 0, .slice none 0 0] 34)
    rwa [World.size_alloc] at this
  have r0' : w2.cell? ⟨w.heap.size + 1, 0, none⟩ = some (.slice none 0 0) := cell_of_block hblk 0
  have r1' : w2.cell? ⟨w.heap.size + 1, 1, none⟩ = some (.slice none 0 0) := cell_of_block hblk 1
  have f0 := free_of_block hblk 0
  have f1 := free_of_block hblk 1
  have HLT := lt_of_block hblk
  have HB := Lib.hid hb7
  have G := Lib.hid (And.intro hv5 (And.intro hv6 hq5))
  clear hblk hb7 hb6 hb5 hb4 hb1 hv5 hv6 hq5 hset
  go_wp2
  refine bodyPost_ret (v := .agg #[.slice a5 n5 c5, .slice a6 n6 c6]) (by simp [results, Try.results17, go_sem, r0', r1', f0, f1]) rfl ?_
  have hq : w.heap.size + 1 < w1.heap.size := by omega
  refine ⟨_, h2, r2, rfl, ⟨_, _, q5, rfl, ⟨_, _, _, rfl, ((G.out.1.setCell (by exact hq) _).setCell (by exact hq) _).mono (by omega)⟩, ⟨_, _, _, rfl, ((G.out.2.1.setCell (by exact hq) _).setCell (by exact hq) _).mono (by omega)⟩, G.out.2.2⟩, HP.out, ?_⟩
  exact ((hW.out.trans (HB.out.mono (by omega))).setCell (Nat.le_succ _) _).setCell (Nat.le_succ _) _

/-- The first place where the set has something, among so many. -/
def leastOf (s : Nat → Bool) (n : Nat) : Option Nat := (List.range n).find? s
def RetIB (w : World) (x : Int) (y : Bool) (e : Ending) (w' : World) : Prop := e = .returned (.tuple #[.int .i64 x, .bool y]) ∧ Below w.heap.size w w'
def leastI (s : Nat → Bool) (n : Nat) : Int := match leastOf s n with | some k => (k : Int) + 1 | none => 0
def leastBo (s : Nat → Bool) (n : Nat) : Bool := (leastOf s n).isSome
theorem leastOf_some {s : Nat → Bool} {n k : Nat} (hk : k < n) (h : s k = true) (hl : ∀ j, j < k → s j = false) : leastOf s n = some k := by
  unfold leastOf
  rw [List.find?_range_eq_some]
  exact ⟨h, by simpa using hk, fun j hj => by rw [hl j hj]; rfl⟩
theorem leastOf_none {s : Nat → Bool} {n : Nat} (hl : ∀ j, j < n → s j = false) : leastOf s n = none := by
  unfold leastOf
  rw [List.find?_eq_none]
  intro j hj; rw [hl j (by simpa using hj)]; simp

set_option maxHeartbeats 400000 in
theorem least_any (v : Value) (base : Nat) (h r : List Bool) (w : World) (s : SetAt base w v h r) (hh : h.length ≤ 1000000) (hr : r.length ≤ 1000000) :
    Calls Try.prog 38 #[v] w (RetIB w (leastI (sq h r) (h.length + r.length)) (leastBo (sq h r) (h.length + r.length))) := by
  obtain ⟨a0, m0, c0, a1, m1, c1, r0, rfl, h0, h1, e1⟩ := s.open
  have S := Lib.hid s
  clear h0 h1 e1 s
  have x0 : (0 : Int) ≤ (h.length : Int) := by omega
  have x1 : (0 : Int) ≤ (r.length : Int) := by omega
  have x2 : (h.length : Int) + (r.length : Int) ≤ 2000000 := by omega
  go_enter Try.func38, Try.ntmps38
  go_wp2_with fail
  refine (parts_any _ base h r _ (S.out.keep (below_a1 _ _))).mono ?_
  rintro e w1 ⟨rfl, hb1⟩
  have hb4 : Below (w.heap.size + 1) (w.alloc (.cells #[.slice a0 m0 c0, .slice a1 m1 c1] 34)) w1 := hb1.mono (by simp)
  clear hb1
  go_wp2_with fail
  go_loopw [15] (fun i w' => ∃ k : Nat, k ≤ h.length + r.length ∧ i = .int .i64 k ∧ Hid (∀ j, j < k → sq h r j = false) ∧ Below (w.heap.size + 1) (w.alloc (.cells #[.slice a0 m0 c0, .slice a1 m1 c1] 34)) w') (fun i _ => h.length + r.length - (intOf i).toNat)
  case atStart => exact ⟨0, by omega, rfl, (fun j hj => by omega), hb4⟩
  case round =>
    obtain ⟨k, hk, rfl, hinv, hbl⟩ := hrel
    have hblk := res_block hbl
    have q0 : wr.cell? ⟨w.heap.size, 0, none⟩ = some (.slice a0 m0 c0) := cell_of_block hblk 0
    have q1 : wr.cell? ⟨w.heap.size, 1, none⟩ = some (.slice a1 m1 c1) := cell_of_block hblk 1
    have hlt0 := lt_of_block hblk
    clear hblk
    by_cases hlt : k < h.length + r.length
    · have k1 : (k : Int) < (h.length : Int) + (r.length : Int) := by omega
      have k2 : (k : Int) ≤ 2000000 := by omega
      have HC := hasSet_any _ base h r ((k : Int) + 1) wr (S.out.keep (res_below hbl)) (by omega) (by omega) hh hr
      have e2 : (decide (1 ≤ (k : Int) + 1) && sq h r ((k : Int) + 1 - 1).toNat) = sq h r k := by
        rw [decide_eq_true (by omega), Bool.true_and]; congr 1; omega
      rw [e2] at HC
      clear e2
      by_cases hx : sq h r k = true
      · have F : Hid (leastOf (sq h r) (h.length + r.length) = some k) := leastOf_some hlt hx hinv.out
        rw [hx] at HC
        have HCC := Lib.hid HC
        clear HC hx hinv
        go_wp2_with fail
        refine HCC.out.mono ?_
        rintro e w2 ⟨rfl, hb2⟩
        go_wp2
        go_ret2
        exact ⟨ret_ib (by unfold leastI; rw [F.out]) (by unfold leastBo; rw [F.out]; rfl), (res_below hbl).trans (hb2.mono (by omega))⟩
      · have hx' : sq h r k = false := by simpa using hx
        have HN : Hid (∀ j, j < k + 1 → sq h r j = false) := fun j h1 => by
          by_cases e : j = k
          · subst e; exact hx'
          · exact hinv.out j (by omega)
        rw [hx'] at HC
        have HCC := Lib.hid HC
        clear HC hx hx' hinv
        go_wp2_with fail
        refine HCC.out.mono ?_
        rintro e w2 ⟨rfl, hb2⟩
        go_wp2
        go_roundw
        case rel => exact ⟨k + 1, by omega, by go_num, HN, hbl.trans (hb2.mono (by omega))⟩
        case measure => simp [intOf]; omega
    · obtain rfl : k = h.length + r.length := by omega
      have F : Hid (leastOf (sq h r) (h.length + r.length) = none) := leastOf_none hinv.out
      clear hinv
      go_wp2
      go_ret2
      exact ⟨ret_ib (by unfold leastI; rw [F.out]) (by unfold leastBo; rw [F.out]; rfl), res_below hbl⟩
end Go.Proofs.Ytlbffpojdfhefaa
