/- Walks of the laws' Kind and At: the number and the place of an error's fault. Condition: the variable errors.errorType holds the handle of type error. -/
import Derived.Test.YtlbffpojdfhefaaDoorAs
namespace Go.Proofs.YtlbffpojdfhefaaDoor
open Go.RowKit

/-- The package-level variable errors.errorType as start-up lays it. -/
def ErrVar (w : World) : Prop := w.cell? ⟨0, 0, none⟩ = some (.iface 71 (.agg #[.pointer (some ⟨1, 30, none⟩)]))
theorem ErrVar.keep {w w' : World} (h : ErrVar w) (hb : Below w.heap.size w w') : ErrVar w' := by
  unfold ErrVar at *
  rw [hb.cell (p := ⟨0, 0, none⟩) (World.block_lt_of_cell? w _ h)]; exact h
theorem kind_nil (w : World) : Calls Tryd.prog 9 #[.nilIface] w fun e w' => e = .returned (.int .i64 0) ∧ w = w' := by
  go_enter Tryd.func9, Tryd.ntmps9
  go_wp2
  go_ret
  exact ⟨rfl, rfl⟩
/-- What errors.As makes of the world, at a target that is the caller's newest block. -/
theorem as_new (b : Nat) (w : World) (hg : ErrVar w) :
    Calls Tryd.prog 19 #[.iface 44 (.pointer (some ⟨b, 0, none⟩)), .iface 46 (.pointer (some ⟨w.heap.size, 0, none⟩))] (w.alloc (.cells #[.pointer none] 44)) fun e w' =>
      e = .returned (.bool true) ∧ w'.cell? ⟨w.heap.size, 0, none⟩ = some (.pointer (some ⟨b, 0, none⟩)) ∧ Below w.heap.size w w' := by
  refine (as_hit ⟨b, 0, none⟩ ⟨w.heap.size, 0, none⟩ (.pointer none) _ ?_ ?_ ?_).mono ?_
  · exact ErrVar.keep hg (below_a1 _ _)
  · rw [cell_of_block (heap_alloc_new w _)]; rfl
  · exact free_of_block (heap_alloc_new w _) 0
  · rintro e w' ⟨rfl, rfl⟩
    have hb : Below w.heap.size w (((((w.alloc (.cells #[.pointer none] 44)).alloc (.cells #[.pointer (some ⟨w.heap.size, 0, none⟩)] 46)).alloc (.cells #[.pointer (some ⟨1, 46, none⟩), .pointer (some ⟨(w.alloc (.cells #[.pointer none] 44)).heap.size, 0, none⟩), .int .u64 150] 59)).alloc (.cells #[.pointer (some ⟨1, 46, none⟩), .pointer (some ⟨(w.alloc (.cells #[.pointer none] 44)).heap.size, 0, none⟩), .int .u64 150] 59)).alloc (.cells #[.pointer (some ⟨b, 0, none⟩)] 44)) := by
      refine ((((below_a1 _ _).trans ((below_a1 _ _).mono ?_)).trans ((below_a1 _ _).mono ?_)).trans ((below_a1 _ _).mono ?_)).trans ((below_a1 _ _).mono ?_) <;> simp <;> omega
    refine ⟨rfl, ?_, hb.setCell (Nat.le_refl _) _⟩
    generalize hW : (((((w.alloc (.cells #[.pointer none] 44)).alloc (.cells #[.pointer (some ⟨w.heap.size, 0, none⟩)] 46)).alloc (.cells #[.pointer (some ⟨1, 46, none⟩), .pointer (some ⟨(w.alloc (.cells #[.pointer none] 44)).heap.size, 0, none⟩), .int .u64 150] 59)).alloc (.cells #[.pointer (some ⟨1, 46, none⟩), .pointer (some ⟨(w.alloc (.cells #[.pointer none] 44)).heap.size, 0, none⟩), .int .u64 150] 59)).alloc (.cells #[.pointer (some ⟨b, 0, none⟩)] 44)) = W
    have hblk : W.heap[w.heap.size]? = some (.cells #[.pointer none] 44 (0, 0)) := by
      rw [← hW]
      refine blk_keep (blk_keep (blk_keep (blk_keep (heap_alloc_new _ _) (below_a1 _ _)) (below_a1 _ _)) (below_a1 _ _)) (below_a1 _ _)
    rw [cell_of_block (setCell_block hblk 0 _)]; rfl
set_option maxHeartbeats 400000 in
theorem kind_any (b : Nat) (k a : Int) (inner : Value) (w : World) (hg : ErrVar w) (hb : w.heap[b]? = some (.cells #[.int .i64 k, .int .i64 a, inner] 49 (0, 0))) :
    Calls Tryd.prog 9 #[.iface 44 (.pointer (some ⟨b, 0, none⟩))] w fun e w' => e = .returned (.int .i64 k) ∧ Below w.heap.size w w' := by
  have HA := Lib.hid (as_new b w hg)
  have HB := Lib.hid hb
  clear hg hb
  go_enter Tryd.func9, Tryd.ntmps9
  go_wp2_with fail
  refine HA.out.mono ?_
  rintro e w1 ⟨rfl, hc, hb1⟩
  have c0 : w1.cell? ⟨b, 0, none⟩ = some (.int .i64 k) := cell_of_block (blk_keep HB.out hb1) 0
  go_wp2
  go_ret
  exact ⟨rfl, hb1⟩
set_option maxHeartbeats 400000 in
theorem at_any (b : Nat) (k a : Int) (inner : Value) (w : World) (hg : ErrVar w) (hb : w.heap[b]? = some (.cells #[.int .i64 k, .int .i64 a, inner] 49 (0, 0))) :
    Calls Tryd.prog 10 #[.iface 44 (.pointer (some ⟨b, 0, none⟩))] w fun e w' => e = .returned (.int .i64 a) ∧ Below w.heap.size w w' := by
  have HA := Lib.hid (as_new b w hg)
  have HB := Lib.hid hb
  clear hg hb
  go_enter Tryd.func10, Tryd.ntmps10
  go_wp2_with fail
  refine HA.out.mono ?_
  rintro e w1 ⟨rfl, hc, hb1⟩
  have c0 : w1.cell? ⟨b, 1, none⟩ = some (.int .i64 a) := cell_of_block (blk_keep HB.out hb1) 1
  go_wp2
  go_ret
  exact ⟨rfl, hb1⟩
end Go.Proofs.YtlbffpojdfhefaaDoor
