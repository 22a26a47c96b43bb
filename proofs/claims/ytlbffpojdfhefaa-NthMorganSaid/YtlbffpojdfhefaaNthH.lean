/- Walk of listed: the set of the numbers that a test is true of. -/
import Derived.Test.YtlbffpojdfhefaaNthG
namespace Go.Proofs.Ytlbffpojdfhefaa
open Go.RowKit
attribute [local go_sem ↓] Go.wp_at_zero Go.wp_at_succ

/-- The truths of a test, for the numbers from 1 on, as many as asked. -/
def rowOf (f : Nat → Bool) (n : Nat) : List Bool := (List.range n).map f
theorem rowOf_getD (f : Nat → Bool) (n j : Nat) (h : j < n) : (rowOf f n).getD j false = f j := by simp [rowOf, List.getD, h]
theorem rowOf_length (f : Nat → Bool) (n : Nat) : (rowOf f n).length = n := by simp [rowOf]

set_option maxHeartbeats 1000000 in
theorem listed_any (hd rd : Nat) (fid : FuncId) (caps : Array Value) (f : Nat → Bool) (w : World) (hcf : ∀ args W, (callFunc fid args).run Try.prog W = .ok (.enter fid args) W) (h1 : 1 ≤ rd) (h2 : hd ≤ 400000) (h3 : rd ≤ 400000)
    (ht : ∀ i W, i < hd + rd → Below w.heap.size w W → Calls Try.prog fid (#[.int .i64 ((i : Int) + 1)] ++ caps) W (RetB W (f i))) :
    Calls Try.prog 29 #[.int .i64 hd, .int .i64 rd, .func (.func fid) #[] caps] w
      (RetSet w fun h' r' => Canon h' r' ∧ (∀ k, sq h' r' k = sq ((rowOf f (hd + rd)).take hd) ((rowOf f (hd + rd)).drop hd) k) ∧ h'.length ≤ hd ∧ r'.length ≤ rd) := by
  obtain ⟨i0, hi, hz0, hz1, hz2⟩ := info_parts' Try.infoB
  have hmk : ∀ W, (Instr.makeSlice 32 (.int .i64 ((hd : Int) + (rd : Int))) (.int .i64 ((hd : Int) + (rd : Int)))).run Try.prog W = .ok (.slice (some ⟨W.heap.size, 0, none⟩) (hd + rd) (hd + rd)) (W.alloc (.cells (madeCells #[.bool false] (hd + rd)) 4)) := by
    intro W
    have := run_make (P := Try.prog) W 32 4 i0 (.bool false) Try.underlying32 hi hz0 .i64 .i64 ((hd : Int) + (rd : Int)) ((hd : Int) + (rd : Int)) (by omega) (Int.le_refl _) (by rw [hz2]; omega) (by omega)
    rw [this, hz1]
    have e : ((hd : Int) + (rd : Int)).toNat = hd + rd := by omega
    rw [e, Nat.mul_one]; rfl
  have HT := Lib.hid ht
  clear ht hi hz0 hz1 hz2
  go_enter Try.func29, Try.ntmps29
  go_wp2_with fail
  have nz : ((hd : Int) + (rd : Int)) ≤ 800000 := by omega
  go_loopw [15] (fun i w' => ∃ (k : Nat) (cur : Array Value), k ≤ hd + rd ∧ i = .int .i64 k ∧ w'.heap[w.heap.size + 1]? = some (.cells cur 4 (0, 0)) ∧ cur.size = hd + rd ∧ Hid (∀ j, j < k → cur[j]? = some (.bool (f j))) ∧ Below (w.heap.size + 1) (w.alloc (.cells #[.slice none 0 0, .slice none 0 0] 34)) w') (fun i _ => hd + rd - (intOf i).toNat)
  case atStart =>
    refine ⟨0, madeCells #[.bool false] (hd + rd), by omega, rfl, ?_, size_madeCells _ _, (fun j hj => by omega), (by have q := below_a1 (w.alloc (.cells #[.slice none 0 0, .slice none 0 0] 34)) (.cells (madeCells #[.bool false] (hd + rd)) 4); rw [World.size_alloc] at q; exact q)⟩
    have := heap_alloc_new (w.alloc (.cells #[.slice none 0 0, .slice none 0 0] 34)) (.cells (madeCells #[.bool false] (hd + rd)) 4)
    rw [show (w.alloc (.cells #[.slice none 0 0, .slice none 0 0] 34)).heap.size = w.heap.size + 1 by simp] at this
    exact this
  case round =>
    obtain ⟨k, cur, hk, rfl, hblk, hcs, hcur, hbl⟩ := hrel
    have hbl0 := res_below hbl
    have hlt1 := lt_of_block hblk
    by_cases hlt : k < hd + rd
    · have HB := Lib.hid hblk
      have HCS := Lib.hid hcs
      have k0 : (0 : Int) ≤ (k : Int) := by omega
      have k1 : (k : Int) < (hd : Int) + (rd : Int) := by omega
      clear hblk hcs
      go_wp2_with fail
      refine (HT.out k wr hlt hbl0).mono ?_
      rintro e w2 ⟨rfl, hb2⟩
      have hblk2 := block_below HB.out hb2 hlt1
      have hcell := cell_of_block hblk2 k
      have hfree := free_of_block hblk2 k
      rw [Array.getElem?_eq_getElem (by rw [HCS.out]; exact hlt)] at hcell
      have hbl2 : Below (w.heap.size + 1) (w.alloc (.cells #[.slice none 0 0, .slice none 0 0] 34)) w2 := hbl.trans (hb2.mono (by omega))
      have HB2 := Lib.hid hblk2
      clear hblk2
      generalize cur[k]'_ = cv at hcell
      go_wp2
      go_roundw
      case rel =>
        refine ⟨k + 1, cur.setIfInBounds k (.bool (f k)), by omega, by go_num, setCell_block HB2.out k _, by rw [Array.size_setIfInBounds]; exact HCS.out, (fun j hj => ?_), hbl2.setCell (by simp) _⟩
        by_cases e : j = k
        · subst e; rw [Array.getElem?_setIfInBounds_self_of_lt (by rw [HCS.out]; exact hlt)]
        · rw [Array.getElem?_setIfInBounds_ne (by omega)]; exact hcur.out j (by omega)
      case measure => simp [intOf]; omega
    · obtain rfl : k = hd + rd := by omega
      have hl := rowOf_length f (hd + rd)
      have A0 : RowA VB false 0 wr (some ⟨w.heap.size + 1, 0, none⟩) hd hd ((rowOf f (hd + rd)).take hd) :=
        rowA_of_block hblk (by rw [List.length_take, hl]; omega) (Nat.le_refl _) (by unfold maxLen; omega) (Nat.zero_le _) (fun j hj => by
          rw [Nat.zero_add, hcur.out j (by omega)]
          have : ((rowOf f (hd + rd)).take hd).getD j false = f j := by
            rw [← rowOf_getD f (hd + rd) j (by omega)]; simp [List.getD_eq_getElem?_getD, List.getElem?_take, hj]
          rw [this])
      have A1 : RowA VB false 0 wr (some ⟨w.heap.size + 1, hd, none⟩) rd rd ((rowOf f (hd + rd)).drop hd) :=
        rowA_of_block hblk (by rw [List.length_drop, hl]; omega) (Nat.le_refl _) (by unfold maxLen; omega) (Nat.zero_le _) (fun j hj => by
          rw [hcur.out (hd + j) (by omega)]
          have : ((rowOf f (hd + rd)).drop hd).getD j false = f (hd + j) := by
            rw [← rowOf_getD f (hd + rd) (hd + j) (by omega)]; simp [List.getD_eq_getElem?_getD, List.getElem?_drop]
          rw [this])
      have AA0 := Lib.hid A0
      have AA1 := Lib.hid A1
      have HSZ : Hid (w.heap.size + 1 ≤ wr.heap.size) := Nat.le_of_lt hlt1
      clear A0 A1 hl hblk hcs hcur
      have x1 : (0 : Int) ≤ (hd : Int) := by omega
      have x2 : (hd : Int) ≤ (hd : Int) + (rd : Int) := by omega
      have x3 : hd ≤ hd + rd := by omega
      have x4 : ¬ rd = 0 := by omega
      go_wp2_with fail
      have HM := Lib.hid (made_any (some ⟨w.heap.size + 1, 0, none⟩) (some ⟨w.heap.size + 1, hd, none⟩) hd hd rd rd _ _ wr.drew AA0.out.drew AA1.out.drew (by omega) (by omega) (by omega))
      go_region_with (go_at_call 42; refine HM.out.mono ?_; rintro e w2 ⟨v, h', r', rfl, hs, hp, hb⟩; (have hbl2 := (hbl.drew).trans (hb.mono HSZ.out)); (have hblk := res_block hbl2); (have r0 : w2.cell? ⟨w.heap.size, 0, none⟩ = some (.slice none 0 0) := cell_of_block hblk 0); (have r1 : w2.cell? ⟨w.heap.size, 1, none⟩ = some (.slice none 0 0) := cell_of_block hblk 1); (have f0 := free_of_block hblk 0); (have f1 := free_of_block hblk 1); (have HLT := lt_of_block hblk); obtain ⟨b0, n0, d0, b1, n1, d1, q0, rfl, hv0, hv1, hq⟩ := hs.open; clear hblk)
      go_wp2
      refine bodyPost_ret (v := .agg #[.slice b0 n0 d0, .slice b1 n1 d1]) (by simp [results, Try.results29, go_sem, r0, r1, f0, f1]) rfl ?_
      have hbb : w.heap.size < wr.drew.heap.size := by have := HSZ.out; simp; omega
      refine ⟨_, h', r', rfl, ⟨_, _, q0, rfl, ⟨_, _, _, rfl, ((hv0.setCell (by exact hbb) _).setCell (by exact hbb) _).mono (Nat.le_of_lt hbb)⟩, ⟨_, _, _, rfl, ((hv1.setCell (by exact hbb) _).setCell (by exact hbb) _).mono (Nat.le_of_lt hbb)⟩, hq⟩, hp, ((res_below hbl2).setCell (Nat.le_refl _) _).setCell (Nat.le_refl _) _⟩
end Go.Proofs.Ytlbffpojdfhefaa
