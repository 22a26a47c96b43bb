/- Walks of Fail, over, kept, Of. -/
import Derived.Test.YtlbffpojdfhefaaNthH
import Derived.Test.YtlbffpojdfhefaaNthC
namespace Go.Proofs.Ytlbffpojdfhefaa
open Go.RowKit
attribute [local go_sem ↓] Go.wp_at_zero Go.wp_at_succ

/-- A value of type error that is a fault with that kind and place. -/
def ErrAt (base : Nat) (w : World) (v : Value) (k a : Int) : Prop := ∃ b, v = .iface 65 (.pointer (some ⟨b, 0, none⟩)) ∧ base ≤ b ∧ w.heap[b]? = some (.cells #[.int .i64 k, .int .i64 a, .nilIface] 67 (0, 0))
theorem ErrAt.keepB {base w w' v k a B} (h : ErrAt base w v k a) (hb : Below B w w') (hB : w.heap.size ≤ B) : ErrAt base w' v k a := by
  obtain ⟨b, rfl, hbb, hblk⟩ := h
  exact ⟨b, rfl, hbb, block_below hblk hb (by have := lt_of_block hblk; omega)⟩
theorem ErrAt.keep {base w w' v k a} (h : ErrAt base w v k a) (hb : Below w.heap.size w w') : ErrAt base w' v k a := h.keepB hb (Nat.le_refl _)
theorem ErrAt.setCell {base w v k a} (h : ErrAt base w v k a) {p : Addr} (hp : p.block < base) (u : Value) : ErrAt base (w.setCell p u) v k a := by
  obtain ⟨b, rfl, hbb, hblk⟩ := h
  exact ⟨b, rfl, hbb, by rw [Below.heap_setCell _ _ _ _ (by omega)]; exact hblk⟩
theorem ErrAt.mono {base base' w v k a} (h : ErrAt base w v k a) (hb : base' ≤ base) : ErrAt base' w v k a := by
  obtain ⟨b, rfl, hbb, hblk⟩ := h; exact ⟨b, rfl, by omega, hblk⟩
def RetErr (w : World) (k a : Int) (e : Ending) (w' : World) : Prop := ∃ b, e = .returned (.iface 65 (.pointer (some ⟨b, 0, none⟩))) ∧ ErrAt w.heap.size w' (.iface 65 (.pointer (some ⟨b, 0, none⟩))) k a ∧ Below w.heap.size w w'

theorem fail_any (k a : Int) (w : World) : Calls Try.prog 41 #[.int .i64 k, .int .i64 a] w (RetErr w k a) := by
  go_enter Try.func41, Try.ntmps41
  go_wp2
  go_ret
  exact ⟨_, rfl, ⟨_, rfl, Nat.le_refl _, heap_alloc_new w _⟩, below_a1 _ _⟩
theorem over_any (w : World) : Calls Try.prog 27 #[] w (RetErr w 3 0) := by
  go_enter Try.func27, Try.ntmps27
  go_wp2_with (go_at_call 41; refine (fail_any _ _ _).mono ?_; rintro e w' ⟨b, rfl, he, hb⟩)
  go_ret
  exact ⟨_, rfl, he, hb⟩

/-- A set and no error, or an error, for what tells too much. -/
def SetE (base : Nat) (w : World) (h r : List Bool) (v er : Value) : Prop :=
  (h.length + r.length ≤ 4096 ∧ SetAt base w v h r ∧ er = .nilIface) ∨ (4096 < h.length + r.length ∧ v = .agg #[.slice none 0 0, .slice none 0 0] ∧ ErrAt base w er 3 0)
def RetSE (base : Nat) (w : World) (h r : List Bool) (e : Ending) (w' : World) : Prop := ∃ v er, e = .returned (.tuple #[v, er]) ∧ SetE base w' h r v er ∧ Below w.heap.size w w'

set_option maxHeartbeats 400000 in
theorem kept_any (v : Value) (base : Nat) (h r : List Bool) (w : World) (s : SetAt base w v h r) (hbase : base ≤ w.heap.size) (hh : h.length ≤ 1000000) (hr : r.length ≤ 1000000) :
    Calls Try.prog 28 #[v] w (RetSE base w h r) := by
  obtain ⟨a0, m0, c0, a1, m1, c1, r0, rfl, h0, h1, e⟩ := s.open
  have S := Lib.hid s
  have E := Lib.hid e
  have H0 := Lib.hid h0
  have H1 := Lib.hid h1
  clear h0 h1 s e
  have hW : Hid (Below w.heap.size w ((w.alloc (.cells #[.slice a0 m0 c0, .slice a1 m1 c1] 34)).alloc (.cells #[.slice none 0 0, .slice none 0 0] 34))) :=
    (below_a1 _ _).trans ((below_a1 _ _).mono (by simp))
  have x0 : (0 : Int) ≤ (h.length : Int) := by omega
  have x1 : (0 : Int) ≤ (r.length : Int) := by omega
  have x2 : (h.length : Int) ≤ 1000000 := by omega
  have x3 : (r.length : Int) ≤ 1000000 := by omega
  by_cases hc : 4096 < h.length + r.length
  · have hc' : (4096 : Int) < (h.length : Int) + (r.length : Int) := by omega
    go_enter Try.func28, Try.ntmps28
    go_wp2_with fail
    refine (parts_any _ base h r _ (S.out.keep hW.out)).mono ?_
    rintro e w1 ⟨rfl, hb1⟩
    go_wp2_with fail
    refine (over_any _).mono ?_
    rintro e w2 ⟨b, rfl, he, hb2⟩
    have hs1 : w.heap.size + 2 ≤ w1.heap.size := by have := hb1.size; simpa using this
    have hb12 : Below (w.heap.size + 2) ((w.alloc (.cells #[.slice a0 m0 c0, .slice a1 m1 c1] 34)).alloc (.cells #[.slice none 0 0, .slice none 0 0] 34)) w2 := (hb1.mono (by simp)).trans (hb2.mono hs1)
    have hblk : w2.heap[w.heap.size + 1]? = some (.cells #[.slice none 0 0, .slice none 0 0] 34 (0, 0)) := by
      refine block_below ?_ hb12 (by omega)
      have := heap_alloc_new (w.alloc (.cells #[.slice a0 m0 c0, .slice a1 m1 c1] 34)) (.cells #[.slice none 0 0, .slice none 0 0] 34)
      rwa [World.size_alloc] at this
    have r0 : w2.cell? ⟨w.heap.size + 1, 0, none⟩ = some (.slice none 0 0) := cell_of_block hblk 0
    have r1 : w2.cell? ⟨w.heap.size + 1, 1, none⟩ = some (.slice none 0 0) := cell_of_block hblk 1
    have f0 := free_of_block hblk 0
    have f1 := free_of_block hblk 1
    have HLT := lt_of_block hblk
    have HB := Lib.hid hb12
    clear hblk hb12
    go_wp2
    refine bodyPost_ret (v := .tuple #[.agg #[.slice none 0 0, .slice none 0 0], .iface 65 (.pointer (some ⟨b, 0, none⟩))]) (by simp [results, Try.results28, go_sem, r0, r1, f0, f1]) rfl ?_
    refine ⟨_, _, rfl, .inr ⟨hc, rfl, ((he.setCell (by show w.heap.size + 1 < _; omega) _).setCell (by show w.heap.size + 1 < _; omega) _).mono (by omega)⟩, ?_⟩
    exact ((hW.out.trans (HB.out.mono (by omega))).setCell (Nat.le_succ _) _).setCell (Nat.le_succ _) _
  · have hc' : (h.length : Int) + (r.length : Int) ≤ 4096 := by omega
    go_enter Try.func28, Try.ntmps28
    go_wp2_with fail
    refine (parts_any _ base h r _ (S.out.keep hW.out)).mono ?_
    rintro e w1 ⟨rfl, hb1⟩
    have hs1 : w.heap.size + 2 ≤ w1.heap.size := by have := hb1.size; simpa using this
    have hb12 : Below (w.heap.size + 2) ((w.alloc (.cells #[.slice a0 m0 c0, .slice a1 m1 c1] 34)).alloc (.cells #[.slice none 0 0, .slice none 0 0] 34)) w1 := (hb1.mono (by simp))
    have hblk : w1.heap[w.heap.size + 1]? = some (.cells #[.slice none 0 0, .slice none 0 0] 34 (0, 0)) := by
      refine block_below ?_ hb12 (by omega)
      have := heap_alloc_new (w.alloc (.cells #[.slice a0 m0 c0, .slice a1 m1 c1] 34)) (.cells #[.slice none 0 0, .slice none 0 0] 34)
      rwa [World.size_alloc] at this
    have q0 : w1.cell? ⟨w.heap.size, 0, none⟩ = some (.slice a0 m0 c0) := by rw [hb12.cell (by simp)]; simp [go_sem]
    have q1 : w1.cell? ⟨w.heap.size, 1, none⟩ = some (.slice a1 m1 c1) := by rw [hb12.cell (by simp)]; simp [go_sem]
    have r0 : w1.cell? ⟨w.heap.size + 1, 0, none⟩ = some (.slice none 0 0) := cell_of_block hblk 0
    have r1 : w1.cell? ⟨w.heap.size + 1, 1, none⟩ = some (.slice none 0 0) := cell_of_block hblk 1
    have f0 := free_of_block hblk 0
    have f1 := free_of_block hblk 1
    have HLT := lt_of_block hblk
    have HB := Lib.hid hb12
    clear hblk hb12
    go_wp2
    refine bodyPost_ret (v := .tuple #[.agg #[.slice a0 m0 c0, .slice a1 m1 c1], .nilIface]) (by simp [results, Try.results28, go_sem, r0, r1, f0, f1]) rfl ?_
    have hfin : Below w.heap.size w ((w1.setCell ⟨w.heap.size + 1, 0, none⟩ (.slice a0 m0 c0)).setCell ⟨w.heap.size + 1, 1, none⟩ (.slice a1 m1 c1)) := ((hW.out.trans (HB.out.mono (by omega))).setCell (Nat.le_succ _) _).setCell (Nat.le_succ _) _
    refine ⟨_, _, rfl, .inl ⟨by omega, ?_, rfl⟩, hfin⟩
    exact S.out.keep hfin
end Go.Proofs.Ytlbffpojdfhefaa
