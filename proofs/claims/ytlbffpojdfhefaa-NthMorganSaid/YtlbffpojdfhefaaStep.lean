/- Words for a walk whose worlds are letters: what is kept from one to the next. No condition. -/
import Derived.Test.YtlbffpojdfhefaaLib
namespace Go.Proofs.Ytlbffpojdfhefaa
open Go.RowKit
theorem blk_keep {w w' : World} {b : Nat} {o : Obj} (h : w.heap[b]? = some o) (hb : Below w.heap.size w w') : w'.heap[b]? = some o := block_below h hb (lt_of_block h)
theorem tot_keep {w0 w w' : World} (h : Below w0.heap.size w0 w) (hb : Below w.heap.size w w') : Below w0.heap.size w0 w' := h.trans (hb.mono h.size)
theorem alloc_facts {w w' : World} {o : Obj} (h : w.alloc o = w') : Below w.heap.size w w' ∧ w'.heap[w.heap.size]? = some o ∧ w'.heap.size = w.heap.size + 1 := by
  subst h; exact ⟨below_a1 _ _, heap_alloc_new _ _, by simp⟩
theorem alloc2_facts {w w' : World} {o o' : Obj} (h : (w.alloc o).alloc o' = w') : Below w.heap.size w w' ∧ w'.heap[w.heap.size]? = some o ∧ w'.heap[w.heap.size + 1]? = some o' := by
  subst h
  refine ⟨(below_a1 _ _).trans ((below_a1 _ _).mono (by simp)), blk_keep (heap_alloc_new _ _) (below_a1 _ _), ?_⟩
  have := heap_alloc_new (w.alloc o) o'
  rwa [World.size_alloc] at this
theorem draw_facts {w w' : World} {n : Nat} (h : w.drewN n = w') : Below w.heap.size w w' := by
  subst h; exact below_drewN (Below.refl _ _) n
theorem draw1_facts {w w' : World} (h : w.drew = w') : Below w.heap.size w w' := by
  subst h; exact (Below.refl _ _).drew
theorem below_drew' {a b : World} (h : Below a.heap.size a b) : Below a.heap.size a b.drew := h.drew
theorem below_alloc' {a b : World} (o : Obj) (h : Below a.heap.size a b) : Below a.heap.size a (b.alloc o) := h.alloc h.size o
theorem below_setCell' {a b v : World} (i : Nat) (u : Value) (h : Below a.heap.size a b) (h2 : Below a.heap.size a v) : Below a.heap.size a (b.setCell ⟨v.heap.size, i, none⟩ u) := h.setCell h2.size u
theorem below_step' {a b c : World} (h : Below a.heap.size a b) (h2 : Below b.heap.size b c) : Below a.heap.size a c := tot_keep h h2
/-- The block of a variable that was made somewhere on the way. -/
theorem var_facts {v w : World} {o : Obj} (h : Below (v.alloc o).heap.size (v.alloc o) w) : w.heap[v.heap.size]? = some o := blk_keep (heap_alloc_new _ _) h
theorem var_facts2 {v c w : World} {o : Obj} (hbc : Below c.heap.size c w) (h : Below (v.alloc o).heap.size (v.alloc o) c) : w.heap[v.heap.size]? = some o ∧ v.heap.size < c.heap.size := by
  refine ⟨blk_keep (var_facts h) hbc, ?_⟩
  have := h.size
  rw [World.size_alloc] at this
  omega
theorem arr_get0 {α} (a : α) (l : List α) : (a :: l).toArray[0]? = some a := by simp
theorem arr_get1 {α} (a b : α) (l : List α) : (a :: b :: l).toArray[1]? = some b := by simp
theorem arr_get2 {α} (a b c : α) (l : List α) : (a :: b :: c :: l).toArray[2]? = some c := by simp
theorem arr_get3 {α} (a b c d : α) (l : List α) : (a :: b :: c :: d :: l).toArray[3]? = some d := by simp
theorem arr_get4 {α} (a b c d e : α) (l : List α) : (a :: b :: c :: d :: e :: l).toArray[4]? = some e := by simp
theorem arr_get5 {α} (a b c d e f : α) (l : List α) : (a :: b :: c :: d :: e :: f :: l).toArray[5]? = some f := by simp
theorem arr_get6 {α} (a b c d e f g : α) (l : List α) : (a :: b :: c :: d :: e :: f :: g :: l).toArray[6]? = some g := by simp
theorem arr_get7 {α} (a b c d e f g h : α) (l : List α) : (a :: b :: c :: d :: e :: f :: g :: h :: l).toArray[7]? = some h := by simp
end Go.Proofs.Ytlbffpojdfhefaa
