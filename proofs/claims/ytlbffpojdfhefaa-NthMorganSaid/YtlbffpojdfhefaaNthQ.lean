/- Walks of Union and Inter. -/
import Derived.Test.YtlbffpojdfhefaaNthP
namespace Go.Proofs.Ytlbffpojdfhefaa
open Go.RowKit
attribute [local go_sem ↓] Go.wp_at_zero Go.wp_at_succ

set_option maxHeartbeats 1000000 in
theorem union_any (v u : Value) (base base' : Nat) (h r h' r' : List Bool) (w : World) (s : SetAt base w v h r) (s' : SetAt base' w u h' r')
    (hh : h.length ≤ 400000) (hr : 1 ≤ r.length) (hh' : h'.length ≤ 400000) (hr' : 1 ≤ r'.length) (hr2 : r.length ≤ 400000) (hr2' : r'.length ≤ 400000) (hl : lcmN r.length r'.length ≤ 400000) :
    Calls Try.prog 15 #[v, u] w (RetBoth w (fun k => (fun x y => x || y) (sq h r k) (sq h' r' k)) (max h.length h'.length) (lcmN r.length r'.length)) := by
  obtain ⟨a0, m0, c0, a1, m1, c1, r0, rfl, h0, h1, e1⟩ := s.open
  obtain ⟨a2, m2, c2, a3, m3, c3, r2, rfl, h2, h3, e3⟩ := s'.open
  have S := Lib.hid s
  have S' := Lib.hid s'
  clear h0 h1 e1 s h2 h3 e3 s'
  have hW : Hid (Below w.heap.size w (((w.alloc (.cells #[.slice a0 m0 c0, .slice a1 m1 c1] 34)).alloc (.cells #[.slice a2 m2 c2, .slice a3 m3 c3] 34)).alloc (.cells #[.slice none 0 0, .slice none 0 0] 34))) :=
    ((below_a1 _ _).trans ((below_a1 _ _).mono (by simp))).trans ((below_a1 _ _).mono (by simp; omega))
  have HB := Lib.hid (both_any 33 Try.callUnion1 (fun x y => x || y) union1_any _ _ base base' h r h' r' _ (S.out.keep hW.out) (S'.out.keep hW.out) hh hr hh' hr' hr2 hr2' hl)
  go_enter Try.func15, Try.ntmps15
  go_wp2_with fail
  refine HB.out.mono ?_
  rintro e w5 ⟨v5, er, h4, r4, rfl, hse, p1, p5, p3, p4, hb5⟩
  have HP := Lib.hid (And.intro p1 (And.intro p5 (And.intro p3 p4)))
  clear p1 p3 p4 p5
  have hb6 : Below (w.heap.size + 3) (((w.alloc (.cells #[.slice a0 m0 c0, .slice a1 m1 c1] 34)).alloc (.cells #[.slice a2 m2 c2, .slice a3 m3 c3] 34)).alloc (.cells #[.slice none 0 0, .slice none 0 0] 34)) w5 := hb5.mono (by simp)
  have hblk : w5.heap[w.heap.size + 2]? = some (.cells #[.slice none 0 0, .slice none 0 0] 34 (0, 0)) := by
    refine block_below ?_ hb6 (by omega)
    have := heap_alloc_new ((w.alloc (.cells #[.slice a0 m0 c0, .slice a1 m1 c1] 34)).alloc (.cells #[.slice a2 m2 c2, .slice a3 m3 c3] 34)) (.cells #[.slice none 0 0, .slice none 0 0] 34)
    rwa [World.size_alloc, World.size_alloc] at this
  have r0' : w5.cell? ⟨w.heap.size + 2, 0, none⟩ = some (.slice none 0 0) := cell_of_block hblk 0
  have r1' : w5.cell? ⟨w.heap.size + 2, 1, none⟩ = some (.slice none 0 0) := cell_of_block hblk 1
  have f0 := free_of_block hblk 0
  have f1 := free_of_block hblk 1
  have HLT := lt_of_block hblk
  have HBB := Lib.hid hb6
  have HSZ : Hid ((((w.alloc (.cells #[.slice a0 m0 c0, .slice a1 m1 c1] 34)).alloc (.cells #[.slice a2 m2 c2, .slice a3 m3 c3] 34)).alloc (.cells #[.slice none 0 0, .slice none 0 0] 34)).heap.size = w.heap.size + 3) := by show _ = _; simp
  rw [HSZ.out] at hse
  clear hblk hb6 hb5
  rcases hse with ⟨g1, g2, rfl⟩ | ⟨g1, rfl, g3⟩
  · obtain ⟨a7, n7, c7, a8, n8, c8, q7, rfl, hv7, hv8, hq7⟩ := g2.open
    have G := Lib.hid (And.intro hv7 (And.intro hv8 hq7))
    clear hv7 hv8 hq7 g2
    go_wp2
    refine bodyPost_ret (v := .tuple #[.agg #[.slice a7 n7 c7, .slice a8 n8 c8], .nilIface]) (by simp [results, Try.results15, go_sem, r0', r1', f0, f1]) rfl ?_
    have hq : w.heap.size + 2 < w.heap.size + 3 := by omega
    obtain ⟨p1, p5, p3, p4⟩ := HP.out
    refine ⟨_, _, h4, r4, rfl, .inl ⟨g1, ⟨_, _, q7, rfl, ⟨_, _, _, rfl, ((G.out.1.setCell (by exact hq) _).setCell (by exact hq) _).mono (by omega)⟩, ⟨_, _, _, rfl, ((G.out.2.1.setCell (by exact hq) _).setCell (by exact hq) _).mono (by omega)⟩, G.out.2.2⟩, rfl⟩, p1, p5, p3, p4, ?_⟩
    exact ((hW.out.trans (HBB.out.mono (by omega))).setCell (by show _ ≤ w.heap.size + 2; omega) _).setCell (by show _ ≤ w.heap.size + 2; omega) _
  · obtain ⟨b, rfl, g4, g5⟩ := g3
    have G := Lib.hid (show ErrAt (w.heap.size + 3) w5 (.iface 65 (.pointer (some ⟨b, 0, none⟩))) 3 0 from ⟨b, rfl, g4, g5⟩)
    clear g5
    go_wp2
    refine bodyPost_ret (v := .tuple #[.agg #[.slice none 0 0, .slice none 0 0], .iface 65 (.pointer (some ⟨b, 0, none⟩))]) (by simp [results, Try.results15, go_sem, r0', r1', f0, f1]) rfl ?_
    obtain ⟨p1, p5, p3, p4⟩ := HP.out
    refine ⟨_, _, h4, r4, rfl, .inr ⟨g1, rfl, ((G.out.setCell (by show w.heap.size + 2 < _; omega) _).setCell (by show w.heap.size + 2 < _; omega) _).mono (by omega)⟩, p1, p5, p3, p4, ?_⟩
    exact ((hW.out.trans (HBB.out.mono (by omega))).setCell (by show _ ≤ w.heap.size + 2; omega) _).setCell (by show _ ≤ w.heap.size + 2; omega) _

set_option maxHeartbeats 1000000 in
theorem inter_any (v u : Value) (base base' : Nat) (h r h' r' : List Bool) (w : World) (s : SetAt base w v h r) (s' : SetAt base' w u h' r')
    (hh : h.length ≤ 400000) (hr : 1 ≤ r.length) (hh' : h'.length ≤ 400000) (hr' : 1 ≤ r'.length) (hr2 : r.length ≤ 400000) (hr2' : r'.length ≤ 400000) (hl : lcmN r.length r'.length ≤ 400000) :
    Calls Try.prog 16 #[v, u] w (RetBoth w (fun k => (fun x y => x && y) (sq h r k) (sq h' r' k)) (max h.length h'.length) (lcmN r.length r'.length)) := by
  obtain ⟨a0, m0, c0, a1, m1, c1, r0, rfl, h0, h1, e1⟩ := s.open
  obtain ⟨a2, m2, c2, a3, m3, c3, r2, rfl, h2, h3, e3⟩ := s'.open
  have S := Lib.hid s
  have S' := Lib.hid s'
  clear h0 h1 e1 s h2 h3 e3 s'
  have hW : Hid (Below w.heap.size w (((w.alloc (.cells #[.slice a0 m0 c0, .slice a1 m1 c1] 34)).alloc (.cells #[.slice a2 m2 c2, .slice a3 m3 c3] 34)).alloc (.cells #[.slice none 0 0, .slice none 0 0] 34))) :=
    ((below_a1 _ _).trans ((below_a1 _ _).mono (by simp))).trans ((below_a1 _ _).mono (by simp; omega))
  have HB := Lib.hid (both_any 34 Try.callInter1 (fun x y => x && y) inter1_any _ _ base base' h r h' r' _ (S.out.keep hW.out) (S'.out.keep hW.out) hh hr hh' hr' hr2 hr2' hl)
  go_enter Try.func16, Try.ntmps16
  go_wp2_with fail
  refine HB.out.mono ?_
  rintro e w5 ⟨v5, er, h4, r4, rfl, hse, p1, p5, p3, p4, hb5⟩
  have HP := Lib.hid (And.intro p1 (And.intro p5 (And.intro p3 p4)))
  clear p1 p3 p4 p5
  have hb6 : Below (w.heap.size + 3) (((w.alloc (.cells #[.slice a0 m0 c0, .slice a1 m1 c1] 34)).alloc (.cells #[.slice a2 m2 c2, .slice a3 m3 c3] 34)).alloc (.cells #[.slice none 0 0, .slice none 0 0] 34)) w5 := hb5.mono (by simp)
  have hblk : w5.heap[w.heap.size + 2]? = some (.cells #[.slice none 0 0, .slice none 0 0] 34 (0, 0)) := by
    refine block_below ?_ hb6 (by omega)
    have := heap_alloc_new ((w.alloc (.cells #[.slice a0 m0 c0, .slice a1 m1 c1] 34)).alloc (.cells #[.slice a2 m2 c2, .slice a3 m3 c3] 34)) (.cells #[.slice none 0 0, .slice none 0 0] 34)
    rwa [World.size_alloc, World.size_alloc] at this
  have r0' : w5.cell? ⟨w.heap.size + 2, 0, none⟩ = some (.slice none 0 0) := cell_of_block hblk 0
  have r1' : w5.cell? ⟨w.heap.size + 2, 1, none⟩ = some (.slice none 0 0) := cell_of_block hblk 1
  have f0 := free_of_block hblk 0
  have f1 := free_of_block hblk 1
  have HLT := lt_of_block hblk
  have HBB := Lib.hid hb6
  have HSZ : Hid ((((w.alloc (.cells #[.slice a0 m0 c0, .slice a1 m1 c1] 34)).alloc (.cells #[.slice a2 m2 c2, .slice a3 m3 c3] 34)).alloc (.cells #[.slice none 0 0, .slice none 0 0] 34)).heap.size = w.heap.size + 3) := by show _ = _; simp
  rw [HSZ.out] at hse
  clear hblk hb6 hb5
  rcases hse with ⟨g1, g2, rfl⟩ | ⟨g1, rfl, g3⟩
  · obtain ⟨a7, n7, c7, a8, n8, c8, q7, rfl, hv7, hv8, hq7⟩ := g2.open
    have G := Lib.hid (And.intro hv7 (And.intro hv8 hq7))
    clear hv7 hv8 hq7 g2
    go_wp2
    refine bodyPost_ret (v := .tuple #[.agg #[.slice a7 n7 c7, .slice a8 n8 c8], .nilIface]) (by simp [results, Try.results16, go_sem, r0', r1', f0, f1]) rfl ?_
    have hq : w.heap.size + 2 < w.heap.size + 3 := by omega
    obtain ⟨p1, p5, p3, p4⟩ := HP.out
    refine ⟨_, _, h4, r4, rfl, .inl ⟨g1, ⟨_, _, q7, rfl, ⟨_, _, _, rfl, ((G.out.1.setCell (by exact hq) _).setCell (by exact hq) _).mono (by omega)⟩, ⟨_, _, _, rfl, ((G.out.2.1.setCell (by exact hq) _).setCell (by exact hq) _).mono (by omega)⟩, G.out.2.2⟩, rfl⟩, p1, p5, p3, p4, ?_⟩
    exact ((hW.out.trans (HBB.out.mono (by omega))).setCell (by show _ ≤ w.heap.size + 2; omega) _).setCell (by show _ ≤ w.heap.size + 2; omega) _
  · obtain ⟨b, rfl, g4, g5⟩ := g3
    have G := Lib.hid (show ErrAt (w.heap.size + 3) w5 (.iface 65 (.pointer (some ⟨b, 0, none⟩))) 3 0 from ⟨b, rfl, g4, g5⟩)
    clear g5
    go_wp2
    refine bodyPost_ret (v := .tuple #[.agg #[.slice none 0 0, .slice none 0 0], .iface 65 (.pointer (some ⟨b, 0, none⟩))]) (by simp [results, Try.results16, go_sem, r0', r1', f0, f1]) rfl ?_
    obtain ⟨p1, p5, p3, p4⟩ := HP.out
    refine ⟨_, _, h4, r4, rfl, .inr ⟨g1, rfl, ((G.out.setCell (by show w.heap.size + 2 < _; omega) _).setCell (by show w.heap.size + 2 < _; omega) _).mono (by omega)⟩, p1, p5, p3, p4, ?_⟩
    exact ((hW.out.trans (HBB.out.mono (by omega))).setCell (by show _ ≤ w.heap.size + 2; omega) _).setCell (by show _ ≤ w.heap.size + 2; omega) _
end Go.Proofs.Ytlbffpojdfhefaa
