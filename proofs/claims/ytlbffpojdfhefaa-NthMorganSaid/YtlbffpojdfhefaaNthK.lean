/- Walk of Of: the set of an An+B. -/
import Derived.Test.YtlbffpojdfhefaaNthJ
namespace Go.Proofs.Ytlbffpojdfhefaa
open Go.RowKit
attribute [local go_sem ↓] Go.wp_at_zero Go.wp_at_succ

def zeroSet : Value := .agg #[.slice none 0 0, .slice none 0 0]
theorem zeroSet_at (base : Nat) (w : World) : SetAt base w zeroSet [] [false] := ⟨_, _, [], rfl, ⟨none, 0, 0, rfl, RowA.nil _ _ _ _⟩, ⟨none, 0, 0, rfl, RowA.nil _ _ _ _⟩, rfl⟩
theorem canon_zero : Canon [] [false] := ⟨by simp, fun m h1 h2 => by simp at h2; omega, fun n hn => by simp at hn⟩
theorem sq_zero (k : Nat) : sq [] [false] k = false := by simp [sq, per, Nat.mod_one]
def OfOk (A B : Int) (w : World) (e : Ending) (w' : World) : Prop := ∃ v h r, e = .returned (.tuple #[v, .nilIface]) ∧ SetAt w.heap.size w' v h r ∧ Canon h r ∧ (∀ k : Nat, sq h r k = hasB A B ((k : Int) + 1)) ∧ h.length ≤ hdOf A B ∧ r.length ≤ rdOf A ∧ h.length + r.length ≤ 4096 ∧ Below w.heap.size w w'
def OfErr (A B : Int) (w : World) (e : Ending) (w' : World) : Prop := ∃ v er, e = .returned (.tuple #[v, er]) ∧ v = zeroSet ∧ ErrAt w.heap.size w' er 3 0 ∧ 4096 < hdOf A B + rdOf A ∧ Below w.heap.size w w'
def OfPost (A B : Int) (w : World) (e : Ending) (w' : World) : Prop := OfOk A B w e w' ∨ OfErr A B w e w'

set_option maxHeartbeats 1000000 in
theorem of_errNeg (A B : Int) (w : World) (hA0 : Hid (-1099511627776 ≤ A ∧ A ≤ 1099511627776)) (hB0 : Hid (-1099511627776 ≤ B ∧ B ≤ 1099511627776)) (hneg : A < 0) (hB1 : 1 ≤ B) (hbig : (4096 : Int) < (hdOf A B : Int)) (hbig4 : 4096 < hdOf A B + rdOf A) (P : Int) (HSPAN : Hid (Calls Try.prog 9 #[.slice (some ⟨w.heap.size + 2, 0, none⟩) 1 1] (((w.alloc (.cells #[.int .i64 A, .int .i64 B] 25)).alloc (.cells #[.slice none 0 0, .slice none 0 0] 34)).alloc (.cells #[.int .i64 A, .int .i64 B] 25)) fun e w' => e = .returned (.tuple #[.int .i64 (hdOf A B : Int), .int .i64 P]) ∧ Below (((w.alloc (.cells #[.int .i64 A, .int .i64 B] 25)).alloc (.cells #[.slice none 0 0, .slice none 0 0] 34)).alloc (.cells #[.int .i64 A, .int .i64 B] 25)).heap.size (((w.alloc (.cells #[.int .i64 A, .int .i64 B] 25)).alloc (.cells #[.slice none 0 0, .slice none 0 0] 34)).alloc (.cells #[.int .i64 A, .int .i64 B] 25)) w')) :
    Calls Try.prog 14 #[.agg #[.int .i64 A, .int .i64 B]] w (OfPost A B w) := by
  have hmf : ∀ (fn : Fn) (first cap : Array Value) (w : World), (Instr.makeFunc fn first cap).run Try.prog w = .ok (.func fn first cap) w := fun _ _ _ _ => rfl
  have hW : Hid (Below w.heap.size w ((w.alloc (.cells #[.int .i64 A, .int .i64 B] 25)).alloc (.cells #[.slice none 0 0, .slice none 0 0] 34))) :=
    (below_a1 _ _).trans ((below_a1 _ _).mono (by simp))
  have hbr : Hid (Below (w.heap.size + 2) ((w.alloc (.cells #[.int .i64 A, .int .i64 B] 25)).alloc (.cells #[.slice none 0 0, .slice none 0 0] 34)) (((w.alloc (.cells #[.int .i64 A, .int .i64 B] 25)).alloc (.cells #[.slice none 0 0, .slice none 0 0] 34)).alloc (.cells #[.int .i64 A, .int .i64 B] 25))) := (below_a1 _ _).mono (by simp)
  have a1 := hA0.out.1
  have a2 := hA0.out.2
  have b1 := hB0.out.1
  have b2 := hB0.out.2
  go_enter Try.func14, Try.ntmps14
  go_wp2_with fail
  refine HSPAN.out.mono ?_
  rintro e w1 ⟨rfl, hb3⟩
  have hb4 : Below (w.heap.size + 2) ((w.alloc (.cells #[.int .i64 A, .int .i64 B] 25)).alloc (.cells #[.slice none 0 0, .slice none 0 0] 34)) w1 := hbr.out.trans (hb3.mono (by simp))
  have q0 : w1.cell? ⟨w.heap.size, 0, none⟩ = some (.int .i64 A) := by rw [hb4.cell (by simp)]; simp [go_sem]
  have hs1 := hb4.size
  simp only [World.size_alloc] at hs1
  go_wp2_with fail
  refine (over_any _).mono ?_
  rintro e w2 ⟨b, rfl, he, hb5⟩
  have hb6 : Below (w.heap.size + 2) ((w.alloc (.cells #[.int .i64 A, .int .i64 B] 25)).alloc (.cells #[.slice none 0 0, .slice none 0 0] 34)) w2 := hb4.trans (hb5.mono (by omega))
  have hblk : w2.heap[w.heap.size + 1]? = some (.cells #[.slice none 0 0, .slice none 0 0] 34 (0, 0)) := by
    refine block_below ?_ hb6 (by omega)
    have := heap_alloc_new (w.alloc (.cells #[.int .i64 A, .int .i64 B] 25)) (.cells #[.slice none 0 0, .slice none 0 0] 34)
    rwa [World.size_alloc] at this
  have r0 : w2.cell? ⟨w.heap.size + 1, 0, none⟩ = some (.slice none 0 0) := cell_of_block hblk 0
  have r1 : w2.cell? ⟨w.heap.size + 1, 1, none⟩ = some (.slice none 0 0) := cell_of_block hblk 1
  have f0 := free_of_block hblk 0
  have f1 := free_of_block hblk 1
  have HLT := lt_of_block hblk
  have HB := Lib.hid hb6
  clear hblk hb6 hb5 hb4 hb3
  go_wp2
  refine bodyPost_ret (v := .tuple #[.agg #[.slice none 0 0, .slice none 0 0], .iface 65 (.pointer (some ⟨b, 0, none⟩))]) (by simp [results, Try.results14, go_sem, r0, r1, f0, f1]) rfl ?_
  refine .inr ⟨_, _, rfl, rfl, ((he.setCell (by show w.heap.size + 1 < _; omega) _).setCell (by show w.heap.size + 1 < _; omega) _).mono (by omega), hbig4, ?_⟩
  exact ((hW.out.trans (HB.out.mono (by omega))).setCell (Nat.le_succ _) _).setCell (Nat.le_succ _) _
set_option maxHeartbeats 1000000 in
theorem of_errPosH (A B : Int) (w : World) (hA0 : Hid (-1099511627776 ≤ A ∧ A ≤ 1099511627776)) (hB0 : Hid (-1099511627776 ≤ B ∧ B ≤ 1099511627776)) (hpos : 0 ≤ A) (hB1 : A = 0 → 1 ≤ B) (hbig : (4096 : Int) < (hdOf A B : Int)) (hbig4 : 4096 < hdOf A B + rdOf A) (P : Int) (HSPAN : Hid (Calls Try.prog 9 #[.slice (some ⟨w.heap.size + 2, 0, none⟩) 1 1] (((w.alloc (.cells #[.int .i64 A, .int .i64 B] 25)).alloc (.cells #[.slice none 0 0, .slice none 0 0] 34)).alloc (.cells #[.int .i64 A, .int .i64 B] 25)) fun e w' => e = .returned (.tuple #[.int .i64 (hdOf A B : Int), .int .i64 P]) ∧ Below (((w.alloc (.cells #[.int .i64 A, .int .i64 B] 25)).alloc (.cells #[.slice none 0 0, .slice none 0 0] 34)).alloc (.cells #[.int .i64 A, .int .i64 B] 25)).heap.size (((w.alloc (.cells #[.int .i64 A, .int .i64 B] 25)).alloc (.cells #[.slice none 0 0, .slice none 0 0] 34)).alloc (.cells #[.int .i64 A, .int .i64 B] 25)) w')) :
    Calls Try.prog 14 #[.agg #[.int .i64 A, .int .i64 B]] w (OfPost A B w) := by
  have hmf : ∀ (fn : Fn) (first cap : Array Value) (w : World), (Instr.makeFunc fn first cap).run Try.prog w = .ok (.func fn first cap) w := fun _ _ _ _ => rfl
  have hW : Hid (Below w.heap.size w ((w.alloc (.cells #[.int .i64 A, .int .i64 B] 25)).alloc (.cells #[.slice none 0 0, .slice none 0 0] 34))) :=
    (below_a1 _ _).trans ((below_a1 _ _).mono (by simp))
  have hbr : Hid (Below (w.heap.size + 2) ((w.alloc (.cells #[.int .i64 A, .int .i64 B] 25)).alloc (.cells #[.slice none 0 0, .slice none 0 0] 34)) (((w.alloc (.cells #[.int .i64 A, .int .i64 B] 25)).alloc (.cells #[.slice none 0 0, .slice none 0 0] 34)).alloc (.cells #[.int .i64 A, .int .i64 B] 25))) := (below_a1 _ _).mono (by simp)
  have a1 := hA0.out.1
  have a2 := hA0.out.2
  have b1 := hB0.out.1
  have b2 := hB0.out.2
  rcases (show 0 < A ∨ A ≤ 0 by omega) with hs | hs
  · clear hB1 hpos
    go_enter Try.func14, Try.ntmps14
    go_wp2_with fail
    refine HSPAN.out.mono ?_
    rintro e w1 ⟨rfl, hb3⟩
    have hb4 : Below (w.heap.size + 2) ((w.alloc (.cells #[.int .i64 A, .int .i64 B] 25)).alloc (.cells #[.slice none 0 0, .slice none 0 0] 34)) w1 := hbr.out.trans (hb3.mono (by simp))
    have q0 : w1.cell? ⟨w.heap.size, 0, none⟩ = some (.int .i64 A) := by rw [hb4.cell (by simp)]; simp [go_sem]
    have hs1 := hb4.size
    simp only [World.size_alloc] at hs1
    go_wp2_with fail
    refine (over_any _).mono ?_
    rintro e w2 ⟨b, rfl, he, hb5⟩
    have hb6 : Below (w.heap.size + 2) ((w.alloc (.cells #[.int .i64 A, .int .i64 B] 25)).alloc (.cells #[.slice none 0 0, .slice none 0 0] 34)) w2 := hb4.trans (hb5.mono (by omega))
    have hblk : w2.heap[w.heap.size + 1]? = some (.cells #[.slice none 0 0, .slice none 0 0] 34 (0, 0)) := by
      refine block_below ?_ hb6 (by omega)
      have := heap_alloc_new (w.alloc (.cells #[.int .i64 A, .int .i64 B] 25)) (.cells #[.slice none 0 0, .slice none 0 0] 34)
      rwa [World.size_alloc] at this
    have r0 : w2.cell? ⟨w.heap.size + 1, 0, none⟩ = some (.slice none 0 0) := cell_of_block hblk 0
    have r1 : w2.cell? ⟨w.heap.size + 1, 1, none⟩ = some (.slice none 0 0) := cell_of_block hblk 1
    have f0 := free_of_block hblk 0
    have f1 := free_of_block hblk 1
    have HLT := lt_of_block hblk
    have HB := Lib.hid hb6
    clear hblk hb6 hb5 hb4 hb3
    go_wp2
    refine bodyPost_ret (v := .tuple #[.agg #[.slice none 0 0, .slice none 0 0], .iface 65 (.pointer (some ⟨b, 0, none⟩))]) (by simp [results, Try.results14, go_sem, r0, r1, f0, f1]) rfl ?_
    refine .inr ⟨_, _, rfl, rfl, ((he.setCell (by show w.heap.size + 1 < _; omega) _).setCell (by show w.heap.size + 1 < _; omega) _).mono (by omega), hbig4, ?_⟩
    exact ((hW.out.trans (HB.out.mono (by omega))).setCell (Nat.le_succ _) _).setCell (Nat.le_succ _) _
  · have hB2 : 1 ≤ B := hB1 (by omega)
    clear hB1
    go_enter Try.func14, Try.ntmps14
    go_wp2_with fail
    refine HSPAN.out.mono ?_
    rintro e w1 ⟨rfl, hb3⟩
    have hb4 : Below (w.heap.size + 2) ((w.alloc (.cells #[.int .i64 A, .int .i64 B] 25)).alloc (.cells #[.slice none 0 0, .slice none 0 0] 34)) w1 := hbr.out.trans (hb3.mono (by simp))
    have q0 : w1.cell? ⟨w.heap.size, 0, none⟩ = some (.int .i64 A) := by rw [hb4.cell (by simp)]; simp [go_sem]
    have hs1 := hb4.size
    simp only [World.size_alloc] at hs1
    go_wp2_with fail
    refine (over_any _).mono ?_
    rintro e w2 ⟨b, rfl, he, hb5⟩
    have hb6 : Below (w.heap.size + 2) ((w.alloc (.cells #[.int .i64 A, .int .i64 B] 25)).alloc (.cells #[.slice none 0 0, .slice none 0 0] 34)) w2 := hb4.trans (hb5.mono (by omega))
    have hblk : w2.heap[w.heap.size + 1]? = some (.cells #[.slice none 0 0, .slice none 0 0] 34 (0, 0)) := by
      refine block_below ?_ hb6 (by omega)
      have := heap_alloc_new (w.alloc (.cells #[.int .i64 A, .int .i64 B] 25)) (.cells #[.slice none 0 0, .slice none 0 0] 34)
      rwa [World.size_alloc] at this
    have r0 : w2.cell? ⟨w.heap.size + 1, 0, none⟩ = some (.slice none 0 0) := cell_of_block hblk 0
    have r1 : w2.cell? ⟨w.heap.size + 1, 1, none⟩ = some (.slice none 0 0) := cell_of_block hblk 1
    have f0 := free_of_block hblk 0
    have f1 := free_of_block hblk 1
    have HLT := lt_of_block hblk
    have HB := Lib.hid hb6
    clear hblk hb6 hb5 hb4 hb3
    go_wp2
    refine bodyPost_ret (v := .tuple #[.agg #[.slice none 0 0, .slice none 0 0], .iface 65 (.pointer (some ⟨b, 0, none⟩))]) (by simp [results, Try.results14, go_sem, r0, r1, f0, f1]) rfl ?_
    refine .inr ⟨_, _, rfl, rfl, ((he.setCell (by show w.heap.size + 1 < _; omega) _).setCell (by show w.heap.size + 1 < _; omega) _).mono (by omega), hbig4, ?_⟩
    exact ((hW.out.trans (HB.out.mono (by omega))).setCell (Nat.le_succ _) _).setCell (Nat.le_succ _) _
set_option maxHeartbeats 1000000 in
theorem of_errPosR (A B : Int) (w : World) (hA0 : Hid (-1099511627776 ≤ A ∧ A ≤ 1099511627776)) (hB0 : Hid (-1099511627776 ≤ B ∧ B ≤ 1099511627776)) (hpos : 0 < A) (hbig0 : (hdOf A B : Int) ≤ 4096) (hbig : (4096 : Int) < (rdOf A : Int)) (hbig4 : 4096 < hdOf A B + rdOf A) (HSPAN : Hid (Calls Try.prog 9 #[.slice (some ⟨w.heap.size + 2, 0, none⟩) 1 1] (((w.alloc (.cells #[.int .i64 A, .int .i64 B] 25)).alloc (.cells #[.slice none 0 0, .slice none 0 0] 34)).alloc (.cells #[.int .i64 A, .int .i64 B] 25)) fun e w' => e = .returned (.tuple #[.int .i64 (hdOf A B : Int), .int .i64 (rdOf A : Int)]) ∧ Below (((w.alloc (.cells #[.int .i64 A, .int .i64 B] 25)).alloc (.cells #[.slice none 0 0, .slice none 0 0] 34)).alloc (.cells #[.int .i64 A, .int .i64 B] 25)).heap.size (((w.alloc (.cells #[.int .i64 A, .int .i64 B] 25)).alloc (.cells #[.slice none 0 0, .slice none 0 0] 34)).alloc (.cells #[.int .i64 A, .int .i64 B] 25)) w')) :
    Calls Try.prog 14 #[.agg #[.int .i64 A, .int .i64 B]] w (OfPost A B w) := by
  have hmf : ∀ (fn : Fn) (first cap : Array Value) (w : World), (Instr.makeFunc fn first cap).run Try.prog w = .ok (.func fn first cap) w := fun _ _ _ _ => rfl
  have hW : Hid (Below w.heap.size w ((w.alloc (.cells #[.int .i64 A, .int .i64 B] 25)).alloc (.cells #[.slice none 0 0, .slice none 0 0] 34))) :=
    (below_a1 _ _).trans ((below_a1 _ _).mono (by simp))
  have hbr : Hid (Below (w.heap.size + 2) ((w.alloc (.cells #[.int .i64 A, .int .i64 B] 25)).alloc (.cells #[.slice none 0 0, .slice none 0 0] 34)) (((w.alloc (.cells #[.int .i64 A, .int .i64 B] 25)).alloc (.cells #[.slice none 0 0, .slice none 0 0] 34)).alloc (.cells #[.int .i64 A, .int .i64 B] 25))) := (below_a1 _ _).mono (by simp)
  have a1 := hA0.out.1
  have a2 := hA0.out.2
  have b1 := hB0.out.1
  have b2 := hB0.out.2
  go_enter Try.func14, Try.ntmps14
  go_wp2_with fail
  refine HSPAN.out.mono ?_
  rintro e w1 ⟨rfl, hb3⟩
  have hb4 : Below (w.heap.size + 2) ((w.alloc (.cells #[.int .i64 A, .int .i64 B] 25)).alloc (.cells #[.slice none 0 0, .slice none 0 0] 34)) w1 := hbr.out.trans (hb3.mono (by simp))
  have q0 : w1.cell? ⟨w.heap.size, 0, none⟩ = some (.int .i64 A) := by rw [hb4.cell (by simp)]; simp [go_sem]
  have hs1 := hb4.size
  simp only [World.size_alloc] at hs1
  go_wp2_with fail
  refine (over_any _).mono ?_
  rintro e w2 ⟨b, rfl, he, hb5⟩
  have hb6 : Below (w.heap.size + 2) ((w.alloc (.cells #[.int .i64 A, .int .i64 B] 25)).alloc (.cells #[.slice none 0 0, .slice none 0 0] 34)) w2 := hb4.trans (hb5.mono (by omega))
  have hblk : w2.heap[w.heap.size + 1]? = some (.cells #[.slice none 0 0, .slice none 0 0] 34 (0, 0)) := by
    refine block_below ?_ hb6 (by omega)
    have := heap_alloc_new (w.alloc (.cells #[.int .i64 A, .int .i64 B] 25)) (.cells #[.slice none 0 0, .slice none 0 0] 34)
    rwa [World.size_alloc] at this
  have r0 : w2.cell? ⟨w.heap.size + 1, 0, none⟩ = some (.slice none 0 0) := cell_of_block hblk 0
  have r1 : w2.cell? ⟨w.heap.size + 1, 1, none⟩ = some (.slice none 0 0) := cell_of_block hblk 1
  have f0 := free_of_block hblk 0
  have f1 := free_of_block hblk 1
  have HLT := lt_of_block hblk
  have HB := Lib.hid hb6
  clear hblk hb6 hb5 hb4 hb3
  go_wp2
  refine bodyPost_ret (v := .tuple #[.agg #[.slice none 0 0, .slice none 0 0], .iface 65 (.pointer (some ⟨b, 0, none⟩))]) (by simp [results, Try.results14, go_sem, r0, r1, f0, f1]) rfl ?_
  refine .inr ⟨_, _, rfl, rfl, ((he.setCell (by show w.heap.size + 1 < _; omega) _).setCell (by show w.heap.size + 1 < _; omega) _).mono (by omega), hbig4, ?_⟩
  exact ((hW.out.trans (HB.out.mono (by omega))).setCell (Nat.le_succ _) _).setCell (Nat.le_succ _) _
set_option maxHeartbeats 1000000 in
theorem of_okNeg (A B : Int) (w : World) (hA0 : Hid (-1099511627776 ≤ A ∧ A ≤ 1099511627776)) (hB0 : Hid (-1099511627776 ≤ B ∧ B ≤ 1099511627776)) (hneg : A < 0) (hB1 : 1 ≤ B) (hs3 : (hdOf A B : Int) ≤ 4096) (hs1 : hdOf A B ≤ 4096) (hrd1 : Hid (rdOf A = 1)) (P : Int) (HSPAN : Hid (Calls Try.prog 9 #[.slice (some ⟨w.heap.size + 2, 0, none⟩) 1 1] (((w.alloc (.cells #[.int .i64 A, .int .i64 B] 25)).alloc (.cells #[.slice none 0 0, .slice none 0 0] 34)).alloc (.cells #[.int .i64 A, .int .i64 B] 25)) fun e w' => e = .returned (.tuple #[.int .i64 (hdOf A B : Int), .int .i64 P]) ∧ Below (((w.alloc (.cells #[.int .i64 A, .int .i64 B] 25)).alloc (.cells #[.slice none 0 0, .slice none 0 0] 34)).alloc (.cells #[.int .i64 A, .int .i64 B] 25)).heap.size (((w.alloc (.cells #[.int .i64 A, .int .i64 B] 25)).alloc (.cells #[.slice none 0 0, .slice none 0 0] 34)).alloc (.cells #[.int .i64 A, .int .i64 B] 25)) w')) :
    Calls Try.prog 14 #[.agg #[.int .i64 A, .int .i64 B]] w (OfPost A B w) := by
  have hmf : ∀ (fn : Fn) (first cap : Array Value) (w : World), (Instr.makeFunc fn first cap).run Try.prog w = .ok (.func fn first cap) w := fun _ _ _ _ => rfl
  have hW : Hid (Below w.heap.size w ((w.alloc (.cells #[.int .i64 A, .int .i64 B] 25)).alloc (.cells #[.slice none 0 0, .slice none 0 0] 34))) :=
    (below_a1 _ _).trans ((below_a1 _ _).mono (by simp))
  have hbr : Hid (Below (w.heap.size + 2) ((w.alloc (.cells #[.int .i64 A, .int .i64 B] 25)).alloc (.cells #[.slice none 0 0, .slice none 0 0] 34)) (((w.alloc (.cells #[.int .i64 A, .int .i64 B] 25)).alloc (.cells #[.slice none 0 0, .slice none 0 0] 34)).alloc (.cells #[.int .i64 A, .int .i64 B] 25))) := (below_a1 _ _).mono (by simp)
  have a1 := hA0.out.1
  have a2 := hA0.out.2
  have b1 := hB0.out.1
  have b2 := hB0.out.2
  have hs2 : rdOf A ≤ 4096 := by rw [hrd1.out]; omega
  have hr0 : 1 ≤ rdOf A := by rw [hrd1.out]; exact Nat.le_refl _
  go_enter Try.func14, Try.ntmps14
  go_wp2_with fail
  refine HSPAN.out.mono ?_
  rintro e w1 ⟨rfl, hb3⟩
  have hb4 : Below (w.heap.size + 2) ((w.alloc (.cells #[.int .i64 A, .int .i64 B] 25)).alloc (.cells #[.slice none 0 0, .slice none 0 0] 34)) w1 := hbr.out.trans (hb3.mono (by simp))
  have q0 : w1.cell? ⟨w.heap.size, 0, none⟩ = some (.int .i64 A) := by rw [hb4.cell (by simp)]; simp [go_sem]
  have q1 : w1.cell? ⟨w.heap.size, 1, none⟩ = some (.int .i64 B) := by rw [hb4.cell (by simp)]; simp [go_sem]
  have hsz := hb4.size
  simp only [World.size_alloc] at hsz
  have HLIST := Lib.hid (listed_any (hdOf A B) 1 30 #[.pointer (some ⟨w.heap.size, 0, none⟩)] (fun k => hasB A B ((k : Int) + 1)) w1 Try.callOf1 (by omega) (by omega) (by omega) (fun i W hi hW => ofF_any w.heap.size A B _ W hA0.out hB0.out (by omega)
    (by rw [hW.cell (show w.heap.size < w1.heap.size by omega)]; exact q0) (by rw [hW.cell (show w.heap.size < w1.heap.size by omega)]; exact q1)))
  go_wp2_with fail
  refine HLIST.out.mono ?_
  rintro e w2 ⟨v2, h2, r2, rfl, hset, hp, hb5⟩
  rw [← hrd1.out] at hp
  obtain ⟨p1, p2, p3, p4⟩ := hp
  have p5 : ∀ k : Nat, sq h2 r2 k = hasB A B ((k : Int) + 1) := fun k => by rw [p2]; exact sq_row _ _ _ (by omega) (hasB_comes A B) k
  have hsz2 := hb5.size
  have HP := Lib.hid (And.intro p1 (And.intro p5 (And.intro p3 p4)))
  clear p1 p2 p3 p4 p5
  obtain ⟨a5, n5, c5, a6, n6, c6, q5, rfl, hv5, hv6, hq5⟩ := hset.open
  have HK := Lib.hid (kept_any _ w1.heap.size h2 r2 w2 hset (by omega) (by have := HP.out.2.2.1; omega) (by have := HP.out.2.2.2; omega))
  clear hv5 hv6 hq5 hset
  go_wp2_with fail
  refine HK.out.mono ?_
  rintro e w3 ⟨v3, er, rfl, hse, hb7⟩
  have hb6 : Below (w.heap.size + 2) ((w.alloc (.cells #[.int .i64 A, .int .i64 B] 25)).alloc (.cells #[.slice none 0 0, .slice none 0 0] 34)) w3 := (hb4.trans (hb5.mono (by omega))).trans (hb7.mono (by omega))
  have hblk : w3.heap[w.heap.size + 1]? = some (.cells #[.slice none 0 0, .slice none 0 0] 34 (0, 0)) := by
    refine block_below ?_ hb6 (by omega)
    have := heap_alloc_new (w.alloc (.cells #[.int .i64 A, .int .i64 B] 25)) (.cells #[.slice none 0 0, .slice none 0 0] 34)
    rwa [World.size_alloc] at this
  have r0 : w3.cell? ⟨w.heap.size + 1, 0, none⟩ = some (.slice none 0 0) := cell_of_block hblk 0
  have r1 : w3.cell? ⟨w.heap.size + 1, 1, none⟩ = some (.slice none 0 0) := cell_of_block hblk 1
  have f0 := free_of_block hblk 0
  have f1 := free_of_block hblk 1
  have HLT := lt_of_block hblk
  have HB := Lib.hid hb6
  clear hblk hb6 hb5 hb4 hb3 hb7
  rcases hse with ⟨g1, g2, rfl⟩ | ⟨g1, rfl, g3⟩
  · obtain ⟨a7, n7, c7, a8, n8, c8, q7, rfl, hv7, hv8, hq7⟩ := g2.open
    have G := Lib.hid (And.intro hv7 (And.intro hv8 hq7))
    clear hv7 hv8 hq7 g2
    go_wp2
    refine bodyPost_ret (v := .tuple #[.agg #[.slice a7 n7 c7, .slice a8 n8 c8], .nilIface]) (by simp [results, Try.results14, go_sem, r0, r1, f0, f1]) rfl ?_
    have hq : w.heap.size + 1 < w1.heap.size := by omega
    obtain ⟨p1, p5, p3, p4⟩ := HP.out
    refine .inl ⟨_, h2, r2, rfl, ⟨_, _, q7, rfl, ⟨_, _, _, rfl, ((G.out.1.setCell (by exact hq) _).setCell (by exact hq) _).mono (by omega)⟩, ⟨_, _, _, rfl, ((G.out.2.1.setCell (by exact hq) _).setCell (by exact hq) _).mono (by omega)⟩, G.out.2.2⟩, p1, p5, p3, p4, g1, ?_⟩
    exact ((hW.out.trans (HB.out.mono (by omega))).setCell (Nat.le_succ _) _).setCell (Nat.le_succ _) _
  · obtain ⟨b, rfl, g4, g5⟩ := g3
    have G := Lib.hid (show ErrAt w1.heap.size w3 (.iface 65 (.pointer (some ⟨b, 0, none⟩))) 3 0 from ⟨b, rfl, g4, g5⟩)
    clear g5
    go_wp2
    refine bodyPost_ret (v := .tuple #[.agg #[.slice none 0 0, .slice none 0 0], .iface 65 (.pointer (some ⟨b, 0, none⟩))]) (by simp [results, Try.results14, go_sem, r0, r1, f0, f1]) rfl ?_
    obtain ⟨p1, p5, p3, p4⟩ := HP.out
    refine .inr ⟨_, _, rfl, rfl, ((G.out.setCell (by show w.heap.size + 1 < _; omega) _).setCell (by show w.heap.size + 1 < _; omega) _).mono (by omega), by omega, ?_⟩
    exact ((hW.out.trans (HB.out.mono (by omega))).setCell (Nat.le_succ _) _).setCell (Nat.le_succ _) _
set_option maxHeartbeats 1000000 in
theorem of_okPos (A B : Int) (w : World) (hA0 : Hid (-1099511627776 ≤ A ∧ A ≤ 1099511627776)) (hB0 : Hid (-1099511627776 ≤ B ∧ B ≤ 1099511627776)) (hpos : 0 < A) (hs3 : (hdOf A B : Int) ≤ 4096) (hs1 : hdOf A B ≤ 4096) (hs4 : (rdOf A : Int) ≤ 4096) (hs2 : rdOf A ≤ 4096) (hr0 : 1 ≤ rdOf A) (HSPAN : Hid (Calls Try.prog 9 #[.slice (some ⟨w.heap.size + 2, 0, none⟩) 1 1] (((w.alloc (.cells #[.int .i64 A, .int .i64 B] 25)).alloc (.cells #[.slice none 0 0, .slice none 0 0] 34)).alloc (.cells #[.int .i64 A, .int .i64 B] 25)) fun e w' => e = .returned (.tuple #[.int .i64 (hdOf A B : Int), .int .i64 (rdOf A : Int)]) ∧ Below (((w.alloc (.cells #[.int .i64 A, .int .i64 B] 25)).alloc (.cells #[.slice none 0 0, .slice none 0 0] 34)).alloc (.cells #[.int .i64 A, .int .i64 B] 25)).heap.size (((w.alloc (.cells #[.int .i64 A, .int .i64 B] 25)).alloc (.cells #[.slice none 0 0, .slice none 0 0] 34)).alloc (.cells #[.int .i64 A, .int .i64 B] 25)) w')) :
    Calls Try.prog 14 #[.agg #[.int .i64 A, .int .i64 B]] w (OfPost A B w) := by
  have hmf : ∀ (fn : Fn) (first cap : Array Value) (w : World), (Instr.makeFunc fn first cap).run Try.prog w = .ok (.func fn first cap) w := fun _ _ _ _ => rfl
  have hW : Hid (Below w.heap.size w ((w.alloc (.cells #[.int .i64 A, .int .i64 B] 25)).alloc (.cells #[.slice none 0 0, .slice none 0 0] 34))) :=
    (below_a1 _ _).trans ((below_a1 _ _).mono (by simp))
  have hbr : Hid (Below (w.heap.size + 2) ((w.alloc (.cells #[.int .i64 A, .int .i64 B] 25)).alloc (.cells #[.slice none 0 0, .slice none 0 0] 34)) (((w.alloc (.cells #[.int .i64 A, .int .i64 B] 25)).alloc (.cells #[.slice none 0 0, .slice none 0 0] 34)).alloc (.cells #[.int .i64 A, .int .i64 B] 25))) := (below_a1 _ _).mono (by simp)
  have a1 := hA0.out.1
  have a2 := hA0.out.2
  have b1 := hB0.out.1
  have b2 := hB0.out.2
  go_enter Try.func14, Try.ntmps14
  go_wp2_with fail
  refine HSPAN.out.mono ?_
  rintro e w1 ⟨rfl, hb3⟩
  have hb4 : Below (w.heap.size + 2) ((w.alloc (.cells #[.int .i64 A, .int .i64 B] 25)).alloc (.cells #[.slice none 0 0, .slice none 0 0] 34)) w1 := hbr.out.trans (hb3.mono (by simp))
  have q0 : w1.cell? ⟨w.heap.size, 0, none⟩ = some (.int .i64 A) := by rw [hb4.cell (by simp)]; simp [go_sem]
  have q1 : w1.cell? ⟨w.heap.size, 1, none⟩ = some (.int .i64 B) := by rw [hb4.cell (by simp)]; simp [go_sem]
  have hsz := hb4.size
  simp only [World.size_alloc] at hsz
  have HLIST := Lib.hid (listed_any (hdOf A B) (rdOf A) 30 #[.pointer (some ⟨w.heap.size, 0, none⟩)] (fun k => hasB A B ((k : Int) + 1)) w1 Try.callOf1 (by omega) (by omega) (by omega) (fun i W hi hW => ofF_any w.heap.size A B _ W hA0.out hB0.out (by omega)
    (by rw [hW.cell (show w.heap.size < w1.heap.size by omega)]; exact q0) (by rw [hW.cell (show w.heap.size < w1.heap.size by omega)]; exact q1)))
  go_wp2_with fail
  refine HLIST.out.mono ?_
  rintro e w2 ⟨v2, h2, r2, rfl, hset, hp, hb5⟩
  obtain ⟨p1, p2, p3, p4⟩ := hp
  have p5 : ∀ k : Nat, sq h2 r2 k = hasB A B ((k : Int) + 1) := fun k => by rw [p2]; exact sq_row _ _ _ (by omega) (hasB_comes A B) k
  have hsz2 := hb5.size
  have HP := Lib.hid (And.intro p1 (And.intro p5 (And.intro p3 p4)))
  clear p1 p2 p3 p4 p5
  obtain ⟨a5, n5, c5, a6, n6, c6, q5, rfl, hv5, hv6, hq5⟩ := hset.open
  have HK := Lib.hid (kept_any _ w1.heap.size h2 r2 w2 hset (by omega) (by have := HP.out.2.2.1; omega) (by have := HP.out.2.2.2; omega))
  clear hv5 hv6 hq5 hset
  go_wp2_with fail
  refine HK.out.mono ?_
  rintro e w3 ⟨v3, er, rfl, hse, hb7⟩
  have hb6 : Below (w.heap.size + 2) ((w.alloc (.cells #[.int .i64 A, .int .i64 B] 25)).alloc (.cells #[.slice none 0 0, .slice none 0 0] 34)) w3 := (hb4.trans (hb5.mono (by omega))).trans (hb7.mono (by omega))
  have hblk : w3.heap[w.heap.size + 1]? = some (.cells #[.slice none 0 0, .slice none 0 0] 34 (0, 0)) := by
    refine block_below ?_ hb6 (by omega)
    have := heap_alloc_new (w.alloc (.cells #[.int .i64 A, .int .i64 B] 25)) (.cells #[.slice none 0 0, .slice none 0 0] 34)
    rwa [World.size_alloc] at this
  have r0 : w3.cell? ⟨w.heap.size + 1, 0, none⟩ = some (.slice none 0 0) := cell_of_block hblk 0
  have r1 : w3.cell? ⟨w.heap.size + 1, 1, none⟩ = some (.slice none 0 0) := cell_of_block hblk 1
  have f0 := free_of_block hblk 0
  have f1 := free_of_block hblk 1
  have HLT := lt_of_block hblk
  have HB := Lib.hid hb6
  clear hblk hb6 hb5 hb4 hb3 hb7
  rcases hse with ⟨g1, g2, rfl⟩ | ⟨g1, rfl, g3⟩
  · obtain ⟨a7, n7, c7, a8, n8, c8, q7, rfl, hv7, hv8, hq7⟩ := g2.open
    have G := Lib.hid (And.intro hv7 (And.intro hv8 hq7))
    clear hv7 hv8 hq7 g2
    go_wp2
    refine bodyPost_ret (v := .tuple #[.agg #[.slice a7 n7 c7, .slice a8 n8 c8], .nilIface]) (by simp [results, Try.results14, go_sem, r0, r1, f0, f1]) rfl ?_
    have hq : w.heap.size + 1 < w1.heap.size := by omega
    obtain ⟨p1, p5, p3, p4⟩ := HP.out
    refine .inl ⟨_, h2, r2, rfl, ⟨_, _, q7, rfl, ⟨_, _, _, rfl, ((G.out.1.setCell (by exact hq) _).setCell (by exact hq) _).mono (by omega)⟩, ⟨_, _, _, rfl, ((G.out.2.1.setCell (by exact hq) _).setCell (by exact hq) _).mono (by omega)⟩, G.out.2.2⟩, p1, p5, p3, p4, g1, ?_⟩
    exact ((hW.out.trans (HB.out.mono (by omega))).setCell (Nat.le_succ _) _).setCell (Nat.le_succ _) _
  · obtain ⟨b, rfl, g4, g5⟩ := g3
    have G := Lib.hid (show ErrAt w1.heap.size w3 (.iface 65 (.pointer (some ⟨b, 0, none⟩))) 3 0 from ⟨b, rfl, g4, g5⟩)
    clear g5
    go_wp2
    refine bodyPost_ret (v := .tuple #[.agg #[.slice none 0 0, .slice none 0 0], .iface 65 (.pointer (some ⟨b, 0, none⟩))]) (by simp [results, Try.results14, go_sem, r0, r1, f0, f1]) rfl ?_
    obtain ⟨p1, p5, p3, p4⟩ := HP.out
    refine .inr ⟨_, _, rfl, rfl, ((G.out.setCell (by show w.heap.size + 1 < _; omega) _).setCell (by show w.heap.size + 1 < _; omega) _).mono (by omega), by omega, ?_⟩
    exact ((hW.out.trans (HB.out.mono (by omega))).setCell (Nat.le_succ _) _).setCell (Nat.le_succ _) _
set_option maxHeartbeats 1000000 in
theorem of_okZero (B : Int) (w : World) (hA0 : Hid (-1099511627776 ≤ (0 : Int) ∧ (0 : Int) ≤ 1099511627776)) (hB0 : Hid (-1099511627776 ≤ B ∧ B ≤ 1099511627776)) (hB1 : 1 ≤ B) (hs3 : (hdOf 0 B : Int) ≤ 4096) (hs1 : hdOf 0 B ≤ 4096) (HSPAN : Hid (Calls Try.prog 9 #[.slice (some ⟨w.heap.size + 2, 0, none⟩) 1 1] (((w.alloc (.cells #[.int .i64 0, .int .i64 B] 25)).alloc (.cells #[.slice none 0 0, .slice none 0 0] 34)).alloc (.cells #[.int .i64 0, .int .i64 B] 25)) fun e w' => e = .returned (.tuple #[.int .i64 (hdOf 0 B : Int), .int .i64 (rdOf 0 : Int)]) ∧ Below (((w.alloc (.cells #[.int .i64 0, .int .i64 B] 25)).alloc (.cells #[.slice none 0 0, .slice none 0 0] 34)).alloc (.cells #[.int .i64 0, .int .i64 B] 25)).heap.size (((w.alloc (.cells #[.int .i64 0, .int .i64 B] 25)).alloc (.cells #[.slice none 0 0, .slice none 0 0] 34)).alloc (.cells #[.int .i64 0, .int .i64 B] 25)) w')) :
    Calls Try.prog 14 #[.agg #[.int .i64 0, .int .i64 B]] w (OfPost 0 B w) := by
  have hr1 : rdOf 0 = 1 := by unfold rdOf; rw [if_neg (by omega)]
  have hs4 : (rdOf 0 : Int) ≤ 4096 := by rw [hr1]; omega
  have hs2 : rdOf 0 ≤ 4096 := by omega
  have hr0 : 1 ≤ rdOf 0 := by omega
  clear hr1
  have hmf : ∀ (fn : Fn) (first cap : Array Value) (w : World), (Instr.makeFunc fn first cap).run Try.prog w = .ok (.func fn first cap) w := fun _ _ _ _ => rfl
  have hW : Hid (Below w.heap.size w ((w.alloc (.cells #[.int .i64 0, .int .i64 B] 25)).alloc (.cells #[.slice none 0 0, .slice none 0 0] 34))) :=
    (below_a1 _ _).trans ((below_a1 _ _).mono (by simp))
  have hbr : Hid (Below (w.heap.size + 2) ((w.alloc (.cells #[.int .i64 0, .int .i64 B] 25)).alloc (.cells #[.slice none 0 0, .slice none 0 0] 34)) (((w.alloc (.cells #[.int .i64 0, .int .i64 B] 25)).alloc (.cells #[.slice none 0 0, .slice none 0 0] 34)).alloc (.cells #[.int .i64 0, .int .i64 B] 25))) := (below_a1 _ _).mono (by simp)
  have a1 := hA0.out.1
  have a2 := hA0.out.2
  have b1 := hB0.out.1
  have b2 := hB0.out.2
  go_enter Try.func14, Try.ntmps14
  go_wp2_with fail
  refine HSPAN.out.mono ?_
  rintro e w1 ⟨rfl, hb3⟩
  have hb4 : Below (w.heap.size + 2) ((w.alloc (.cells #[.int .i64 0, .int .i64 B] 25)).alloc (.cells #[.slice none 0 0, .slice none 0 0] 34)) w1 := hbr.out.trans (hb3.mono (by simp))
  have q0 : w1.cell? ⟨w.heap.size, 0, none⟩ = some (.int .i64 0) := by rw [hb4.cell (by simp)]; simp [go_sem]
  have q1 : w1.cell? ⟨w.heap.size, 1, none⟩ = some (.int .i64 B) := by rw [hb4.cell (by simp)]; simp [go_sem]
  have hsz := hb4.size
  simp only [World.size_alloc] at hsz
  have HLIST := Lib.hid (listed_any (hdOf 0 B) (rdOf 0) 30 #[.pointer (some ⟨w.heap.size, 0, none⟩)] (fun k => hasB 0 B ((k : Int) + 1)) w1 Try.callOf1 (by omega) (by omega) (by omega) (fun i W hi hW => ofF_any w.heap.size 0 B _ W hA0.out hB0.out (by omega)
    (by rw [hW.cell (show w.heap.size < w1.heap.size by omega)]; exact q0) (by rw [hW.cell (show w.heap.size < w1.heap.size by omega)]; exact q1)))
  go_wp2_with fail
  refine HLIST.out.mono ?_
  rintro e w2 ⟨v2, h2, r2, rfl, hset, hp, hb5⟩
  obtain ⟨p1, p2, p3, p4⟩ := hp
  have p5 : ∀ k : Nat, sq h2 r2 k = hasB 0 B ((k : Int) + 1) := fun k => by rw [p2]; exact sq_row _ _ _ (by omega) (hasB_comes 0 B) k
  have hsz2 := hb5.size
  have HP := Lib.hid (And.intro p1 (And.intro p5 (And.intro p3 p4)))
  clear p1 p2 p3 p4 p5
  obtain ⟨a5, n5, c5, a6, n6, c6, q5, rfl, hv5, hv6, hq5⟩ := hset.open
  have HK := Lib.hid (kept_any _ w1.heap.size h2 r2 w2 hset (by omega) (by have := HP.out.2.2.1; omega) (by have := HP.out.2.2.2; omega))
  clear hv5 hv6 hq5 hset
  go_wp2_with fail
  refine HK.out.mono ?_
  rintro e w3 ⟨v3, er, rfl, hse, hb7⟩
  have hb6 : Below (w.heap.size + 2) ((w.alloc (.cells #[.int .i64 0, .int .i64 B] 25)).alloc (.cells #[.slice none 0 0, .slice none 0 0] 34)) w3 := (hb4.trans (hb5.mono (by omega))).trans (hb7.mono (by omega))
  have hblk : w3.heap[w.heap.size + 1]? = some (.cells #[.slice none 0 0, .slice none 0 0] 34 (0, 0)) := by
    refine block_below ?_ hb6 (by omega)
    have := heap_alloc_new (w.alloc (.cells #[.int .i64 0, .int .i64 B] 25)) (.cells #[.slice none 0 0, .slice none 0 0] 34)
    rwa [World.size_alloc] at this
  have r0 : w3.cell? ⟨w.heap.size + 1, 0, none⟩ = some (.slice none 0 0) := cell_of_block hblk 0
  have r1 : w3.cell? ⟨w.heap.size + 1, 1, none⟩ = some (.slice none 0 0) := cell_of_block hblk 1
  have f0 := free_of_block hblk 0
  have f1 := free_of_block hblk 1
  have HLT := lt_of_block hblk
  have HB := Lib.hid hb6
  clear hblk hb6 hb5 hb4 hb3 hb7
  rcases hse with ⟨g1, g2, rfl⟩ | ⟨g1, rfl, g3⟩
  · obtain ⟨a7, n7, c7, a8, n8, c8, q7, rfl, hv7, hv8, hq7⟩ := g2.open
    have G := Lib.hid (And.intro hv7 (And.intro hv8 hq7))
    clear hv7 hv8 hq7 g2
    go_wp2
    refine bodyPost_ret (v := .tuple #[.agg #[.slice a7 n7 c7, .slice a8 n8 c8], .nilIface]) (by simp [results, Try.results14, go_sem, r0, r1, f0, f1]) rfl ?_
    have hq : w.heap.size + 1 < w1.heap.size := by omega
    obtain ⟨p1, p5, p3, p4⟩ := HP.out
    refine .inl ⟨_, h2, r2, rfl, ⟨_, _, q7, rfl, ⟨_, _, _, rfl, ((G.out.1.setCell (by exact hq) _).setCell (by exact hq) _).mono (by omega)⟩, ⟨_, _, _, rfl, ((G.out.2.1.setCell (by exact hq) _).setCell (by exact hq) _).mono (by omega)⟩, G.out.2.2⟩, p1, p5, p3, p4, g1, ?_⟩
    exact ((hW.out.trans (HB.out.mono (by omega))).setCell (Nat.le_succ _) _).setCell (Nat.le_succ _) _
  · obtain ⟨b, rfl, g4, g5⟩ := g3
    have G := Lib.hid (show ErrAt w1.heap.size w3 (.iface 65 (.pointer (some ⟨b, 0, none⟩))) 3 0 from ⟨b, rfl, g4, g5⟩)
    clear g5
    go_wp2
    refine bodyPost_ret (v := .tuple #[.agg #[.slice none 0 0, .slice none 0 0], .iface 65 (.pointer (some ⟨b, 0, none⟩))]) (by simp [results, Try.results14, go_sem, r0, r1, f0, f1]) rfl ?_
    obtain ⟨p1, p5, p3, p4⟩ := HP.out
    refine .inr ⟨_, _, rfl, rfl, ((G.out.setCell (by show w.heap.size + 1 < _; omega) _).setCell (by show w.heap.size + 1 < _; omega) _).mono (by omega), by omega, ?_⟩
    exact ((hW.out.trans (HB.out.mono (by omega))).setCell (Nat.le_succ _) _).setCell (Nat.le_succ _) _
set_option maxHeartbeats 1000000 in
theorem of_any (A B : Int) (w : World) (hA : -1099511627776 ≤ A ∧ A ≤ 1099511627776) (hB : -1099511627776 ≤ B ∧ B ≤ 1099511627776) :
    Calls Try.prog 14 #[.agg #[.int .i64 A, .int .i64 B]] w (OfPost A B w) := by
  have hA0 := Lib.hid hA
  have hB0 := Lib.hid hB
  obtain ⟨a1, a2⟩ := hA
  obtain ⟨b1, b2⟩ := hB
  have hmf : ∀ (fn : Fn) (first cap : Array Value) (w : World), (Instr.makeFunc fn first cap).run Try.prog w = .ok (.func fn first cap) w := fun _ _ _ _ => rfl
  have hW : Hid (Below w.heap.size w ((w.alloc (.cells #[.int .i64 A, .int .i64 B] 25)).alloc (.cells #[.slice none 0 0, .slice none 0 0] 34))) :=
    (below_a1 _ _).trans ((below_a1 _ _).mono (by simp))
  by_cases hz : A ≤ 0 ∧ B < 1
  · obtain ⟨z1, z2⟩ := hz
    go_enter Try.func14, Try.ntmps14
    go_wp2
    refine bodyPost_ret (v := .tuple #[zeroSet, .nilIface]) (by simp [results, Try.results14, go_sem, zeroSet]) rfl ?_
    refine .inl ⟨_, [], [false], rfl, zeroSet_at _ _, canon_zero, fun k => ?_, by simp, ?_, by simp, hW.out⟩
    · rw [sq_zero, hasB_none A B _ (by omega) (by omega) (by omega)]
    · unfold rdOf; split <;> simp; omega
  · have hsp := spanP_one A B (by omega) (by omega)
    have hsh : spanH [(A, B)] = (hdOf A B : Int) := by
      unfold hdOf spanH; simp only [List.foldl_cons, List.foldl_nil, stepH]; omega
    have hrd : (if 0 < A then spanP [(A, B)] else 1) = (rdOf A : Int) := by
      rw [hsp]; unfold rdOf; split
      · rw [if_neg (by omega)]; omega
      · rfl
    have hd1 : hdOf A B ≤ 1099511627776 := by unfold hdOf headI; split <;> omega
    have hr1 : rdOf A ≤ 1099511627776 := by unfold rdOf; split <;> omega
    have hr0 : 1 ≤ rdOf A := by unfold rdOf; split <;> omega
    have HR : Hid (RowAB (((w.alloc (.cells #[.int .i64 A, .int .i64 B] 25)).alloc (.cells #[.slice none 0 0, .slice none 0 0] 34)).alloc (.cells #[.int .i64 A, .int .i64 B] 25)) (some ⟨w.heap.size + 2, 0, none⟩) 1 1 [(A, B)]) := by
      refine ⟨rfl, Nat.le_refl _, by simp [maxLen], fun _ => ⟨_, _, rfl, by simp, fun j hj i v hv => ?_⟩⟩
      obtain rfl : j = 0 := by omega
      have := heap_alloc_new ((w.alloc (.cells #[.int .i64 A, .int .i64 B] 25)).alloc (.cells #[.slice none 0 0, .slice none 0 0] 34)) (.cells #[.int .i64 A, .int .i64 B] 25)
      rw [World.size_alloc, World.size_alloc] at this
      rw [cell_of_block this]
      simp only [Nat.zero_mul, Nat.zero_add]
      rw [← hv]; simp [gAB, List.getD]
    have HBD : Hid (∀ x ∈ [(A, B)], Bd x) := by intro x hx; simp only [List.mem_singleton] at hx; subst hx; exact ⟨⟨a1, a2⟩, ⟨b1, b2⟩⟩
    have hz' : A ≤ 0 → 1 ≤ B := fun h => by omega
    have tz : ¬ (A ≤ 0 ∧ B < 1) := hz
    clear hz
    have hspan := span_any (some ⟨w.heap.size + 2, 0, none⟩) 1 1 [(A, B)] _ HR.out HBD.out
    rw [hsh] at hspan
    by_cases hneg : A < 0
    · have hrd1 : rdOf A = 1 := by unfold rdOf; rw [if_neg (by omega)]
      have hB1 : 1 ≤ B := hz' (by omega)
      by_cases hbig : 4096 < hdOf A B
      · exact of_errNeg A B w hA0 hB0 hneg hB1 (by omega) (by omega) _ hspan
      · exact of_okNeg A B w hA0 hB0 hneg hB1 (by omega) (by omega) hrd1 _ hspan
    · have e : spanP [(A, B)] = (rdOf A : Int) := by
        rw [← hrd]; split
        · rfl
        · rw [hsp, if_pos (by omega)]
      rw [e] at hspan
      by_cases hbig : 4096 < hdOf A B
      · exact of_errPosH A B w hA0 hB0 (by omega) (fun h => hz' (by omega)) (by omega) (by omega) _ hspan
      · by_cases hbig2 : 4096 < rdOf A
        · have : 0 < A := by unfold rdOf at hbig2; split at hbig2 <;> omega
          exact of_errPosR A B w hA0 hB0 this (by omega) (by omega) (by omega) hspan
        · by_cases hp : 0 < A
          · exact of_okPos A B w hA0 hB0 hp (by omega) (by omega) (by omega) (by omega) hr0 hspan
          · have hA00 : A = 0 := by omega
            subst hA00
            exact of_okZero B w hA0 hB0 (hz' (by omega)) (by omega) (by omega) hspan
end Go.Proofs.Ytlbffpojdfhefaa
