/- Walks of slices.Equal, Same, Least, All. -/
import Derived.Test.YtlbffpojdfhefaaNthG
namespace Go.Proofs.Ytlbffpojdfhefaa
open Go.RowKit
attribute [local go_sem ↓] Go.wp_at_zero Go.wp_at_succ

def eqB (x y : List Bool) : Bool := decide (x = y)
theorem getD_eq_of {x y : List Bool} (hl : x.length = y.length) (h : ∀ j, j < x.length → x.getD j false = y.getD j false) : x = y := by
  refine List.ext_getElem hl fun i i1 i2 => ?_
  have := h i i1
  simpa [List.getD, i1, i2] using this
set_option maxHeartbeats 400000 in
theorem equal_any (a a' : Option Addr) (m m' c c' : Nat) (x y : List Bool) (w : World) (hx : RowB w a m c x) (hy : RowB w a' m' c' y) :
    Calls Try.prog 36 #[.slice a m c, .slice a' m' c'] w (RetB w (eqB x y)) := by
  have lx := hx.len
  have ly := hy.len
  have hle := hx.le
  have HX := Lib.hid hx
  have HY := Lib.hid hy
  have LX := Lib.hid lx
  have LY := Lib.hid ly
  clear hx hy lx ly
  by_cases hm : m = m'
  · subst hm
    have h0 : ((m : Int) == (m : Int)) = true := by simp
    go_enter Try.func36, Try.ntmps36
    go_wp2
    go_loopw [13] (fun i w' => ∃ k : Nat, k ≤ m ∧ i = .int .i64 k ∧ Hid (∀ j, j < k → x.getD j false = y.getD j false) ∧ Below w.heap.size w w') (fun i _ => m - (intOf i).toNat)
    case atStart => exact ⟨0, by omega, rfl, (fun j hj => by omega), Below.refl _ _⟩
    case round =>
      obtain ⟨k, hk, rfl, hinv, hbl⟩ := hrel
      by_cases hlt : k < m
      · obtain ⟨b, off, rfl, hb0, hb, hcell⟩ := (HX.out).cellK hbl (show 0 < m by omega)
        obtain ⟨b', off', rfl, hb0', hb', hcell'⟩ := (HY.out).cellK hbl (show 0 < m by omega)
        have c0 := hcell k hlt
        have c1 := hcell' k hlt
        clear hcell hcell'
        have k1 : (0 : Int) ≤ (k : Int) := by omega
        have k2 : (k : Int) < (m : Int) := by omega
        by_cases hxy : x.getD k false = y.getD k false
        · have HN : Hid (∀ j, j < k + 1 → x.getD j false = y.getD j false) := fun j h1 => by
            by_cases e : j = k
            · subst e; exact hxy
            · exact hinv.out j (by omega)
          rw [hxy] at c0
          clear hxy hinv
          generalize y.getD k false = z at c0 c1
          go_wp2_with fail
          go_quiet (fail)
          go_wp2
          go_roundw
          case rel => exact ⟨k + 1, by omega, by go_num, HN, below_drewN hbl _⟩
          case measure => simp [intOf]; omega
        · have F : Hid (eqB x y = false) := by
            apply decide_eq_false; intro e; subst e; exact hxy rfl
          clear hinv
          generalize x.getD k false = z at c0 hxy
          generalize y.getD k false = z' at c1 hxy
          obtain rfl : z' = !z := by cases z <;> cases z' <;> simp_all
          clear hxy
          go_wp2_with fail
          go_quiet (fail)
          go_wp2
          go_ret
          exact ⟨ret_bool F.out.symm, below_drewN hbl _⟩
      · obtain rfl : k = m := by omega
        have F : Hid (eqB x y = true) := decide_eq_true (getD_eq_of (by rw [LX.out, LY.out]) (by rw [LX.out]; exact hinv.out))
        clear hinv
        go_wp2
        go_ret
        exact ⟨ret_bool F.out.symm, hbl⟩
  · have h0 : ((m : Int) == (m' : Int)) = false := by simp; omega
    have F : Hid (eqB x y = false) := by
      apply decide_eq_false; intro e; subst e; exact hm (LX.out.symm.trans LY.out)
    go_enter Try.func36, Try.ntmps36
    go_wp2
    go_ret
    exact ⟨ret_bool F.out.symm, Below.refl _ _⟩

theorem all_any (w : World) : Calls Try.prog 19 #[] w (RetSet w fun h r => h = [] ∧ r = [true]) := by
  go_enter Try.func19, Try.ntmps19
  go_wp2
  refine bodyPost_ret (v := .agg #[.slice none 0 0, .slice (some ⟨w.heap.size + 1, 0, none⟩) 1 1]) (by simp [results, Try.results19, go_sem]) rfl ?_
  refine ⟨_, [], [true], rfl, ⟨_, _, [true], rfl, ⟨none, 0, 0, rfl, RowA.nil _ _ _ _⟩, ⟨_, _, _, rfl, ?_⟩, by simp [ringOf]⟩, ⟨rfl, rfl⟩, (below_a1 _ _).trans ((below_a1 _ _).mono (by simp))⟩
  have hb := heap_alloc_new (w.alloc (.cells #[.slice none 0 0, .slice (some ⟨w.heap.size + 1, 0, none⟩) 1 1] 34)) (.cells #[.bool true] 4)
  rw [World.size_alloc] at hb
  exact rowA_of_block (n := 1) (c := 1) (xs := [true]) (d := false) (f := VB) hb rfl (Nat.le_refl _) (by simp [maxLen]) (Nat.le_succ _) (fun j hj => by
    match j, hj with
    | 0, _ => rfl)

set_option maxHeartbeats 2000000 in
theorem same_any (v v' : Value) (b b' : Nat) (h r h' r' : List Bool) (w : World) (s : SetAt b w v h r) (s' : SetAt b' w v' h' r') :
    Calls Try.prog 18 #[v, v'] w (RetB w (eqB h h' && eqB r r')) := by
  obtain ⟨a0, m0, c0, a1, m1, c1, r0, rfl, h0, h1, e1⟩ := s.open
  obtain ⟨a2, m2, c2, a3, m3, c3, r2, rfl, h2, h3, e3⟩ := s'.open
  have H0 := Lib.hid h0
  have H2 := Lib.hid h2
  have S1 := Lib.hid s
  have S2 := Lib.hid s'
  have hW : Hid (Below w.heap.size w ((w.alloc (.cells #[.slice a0 m0 c0, .slice a1 m1 c1] 34)).alloc (.cells #[.slice a2 m2 c2, .slice a3 m3 c3] 34))) :=
    (below_a1 _ _).trans ((below_a1 _ _).mono (by simp))
  have hsz0 : ((w.alloc (.cells #[.slice a0 m0 c0, .slice a1 m1 c1] 34)).alloc (.cells #[.slice a2 m2 c2, .slice a3 m3 c3] 34)).heap.size = w.heap.size + 2 := by simp
  have HSZ := Lib.hid hsz0
  clear h0 h1 h2 h3 e1 e3 s s' hsz0
  have kk : ∀ w' : World, Below (w.heap.size + 2) ((w.alloc (.cells #[.slice a0 m0 c0, .slice a1 m1 c1] 34)).alloc (.cells #[.slice a2 m2 c2, .slice a3 m3 c3] 34)) w' → (w'.cell? ⟨w.heap.size, 0, none⟩ = some (.slice a0 m0 c0) ∧ w'.cell? ⟨w.heap.size, 1, none⟩ = some (.slice a1 m1 c1) ∧ w'.cell? ⟨w.heap.size + 1, 0, none⟩ = some (.slice a2 m2 c2) ∧ w'.cell? ⟨w.heap.size + 1, 1, none⟩ = some (.slice a3 m3 c3)) ∧ Below (w.heap.size + 2) ((w.alloc (.cells #[.slice a0 m0 c0, .slice a1 m1 c1] 34)).alloc (.cells #[.slice a2 m2 c2, .slice a3 m3 c3] 34)) w' := by
    intro w' hb
    refine ⟨⟨?_, ?_, ?_, ?_⟩, hb⟩ <;> (rw [hb.cell (by simp)]; simp [go_sem])
  have kb : ∀ w' : World, Below (w.heap.size + 2) ((w.alloc (.cells #[.slice a0 m0 c0, .slice a1 m1 c1] 34)).alloc (.cells #[.slice a2 m2 c2, .slice a3 m3 c3] 34)) w' → Below w.heap.size w w' := fun w' hb => hW.out.trans (hb.mono (by omega))
  have KK := Lib.hid kk
  have KB := Lib.hid kb
  clear kk kb
  by_cases he : eqB h h' = true
  · have F : Hid ((eqB h h' && eqB r r') = eqB r r') := by show (_ && _) = _; rw [he]; rfl
    have E0 : Hid (∀ W, Below w.heap.size w W → Calls Try.prog 36 #[.slice a0 m0 c0, .slice a2 m2 c2] W (RetB W true)) := fun W hW => by
      rw [← he]; exact equal_any a0 a2 m0 m2 c0 c2 h h' _ ((H0.out.keep hW).mono (Nat.zero_le _)) ((H2.out.keep hW).mono (Nat.zero_le _))
    clear he
    have x0 : Hid (((w.alloc (.cells #[.slice a0 m0 c0, .slice a1 m1 c1] 34)).alloc (.cells #[.slice a2 m2 c2, .slice a3 m3 c3] 34)).heap.size = w.heap.size + 2) := HSZ.out
    go_enter Try.func18, Try.ntmps18
    go_wp2_with fail
    go_region_held3 (fun w' => (w'.cell? ⟨w.heap.size, 0, none⟩ = some (.slice a0 m0 c0) ∧ w'.cell? ⟨w.heap.size, 1, none⟩ = some (.slice a1 m1 c1) ∧ w'.cell? ⟨w.heap.size + 1, 0, none⟩ = some (.slice a2 m2 c2) ∧ w'.cell? ⟨w.heap.size + 1, 1, none⟩ = some (.slice a3 m3 c3)) ∧ Below (w.heap.size + 2) ((w.alloc (.cells #[.slice a0 m0 c0, .slice a1 m1 c1] 34)).alloc (.cells #[.slice a2 m2 c2, .slice a3 m3 c3] 34)) w')
      (first | exact KK.out _ (Below.refl _ _).drew | exact KK.out _ ‹Below (w.heap.size + 2) _ _›)
      (first
       | (go_at_call 36; (with_reducible (refine (E0.out _ (KB.out _ (Below.refl _ _).drew)).mono ?_)); rintro e w1 ⟨rfl, hb1⟩; have HBX : Below (w.heap.size + 2) ((w.alloc (.cells #[.slice a0 m0 c0, .slice a1 m1 c1] 34)).alloc (.cells #[.slice a2 m2 c2, .slice a3 m3 c3] 34)) w1 := below_step (Below.refl _ _).drew (Nat.le_of_eq HSZ.out.symm) hb1)
       | (go_at_call 37; (with_reducible (refine (round_any (.agg #[.slice a0 m0 c0, .slice a1 m1 c1]) b h r _ (S1.out.keep (KB.out _ ‹Below (w.heap.size + 2) _ _›))).mono ?_)); rintro e w2 ⟨aA, nA, cA, rfl, hrA, hb2⟩; have HBA := below_step ‹Below (w.heap.size + 2) _ _› (Nat.le_of_eq HSZ.out.symm) hb2; (try (have hrB2 := RowA.keep hrB hb2)))
       | (go_at_call 37; (with_reducible (refine (round_any (.agg #[.slice a2 m2 c2, .slice a3 m3 c3]) b' h' r' _ (S2.out.keep (KB.out _ ‹Below (w.heap.size + 2) _ _›))).mono ?_)); rintro e w3 ⟨aB, nB, cB, rfl, hrB, hb3⟩; have HBB := below_step ‹Below (w.heap.size + 2) _ _› (Nat.le_of_eq HSZ.out.symm) hb3; (try (have hrA2 := RowA.keep hrA hb3)))
       | (go_at_call 36; (first | with_reducible (refine (equal_any aA aB nA nB cA cB r r' _ hrA2 hrB).mono ?_) | with_reducible (refine (equal_any aA aB nA nB cA cB r r' _ hrA hrB2).mono ?_)); rintro e w4 ⟨rfl, hb4⟩; have HBE := below_step ‹Below (w.heap.size + 2) _ _› (Nat.le_of_eq HSZ.out.symm) hb4))
    all_goals go_wp2
    all_goals go_ret
    all_goals exact ⟨ret_bool (by rw [F.out]), KB.out _ HBE⟩
  · have hf : eqB h h' = false := by simpa using he
    clear he
    have F : Hid ((eqB h h' && eqB r r') = false) := by show (_ && _) = _; rw [hf]; rfl
    have E0 : Hid (∀ W, Below w.heap.size w W → Calls Try.prog 36 #[.slice a0 m0 c0, .slice a2 m2 c2] W (RetB W false)) := fun W hW => by
      rw [← hf]; exact equal_any a0 a2 m0 m2 c0 c2 h h' _ ((H0.out.keep hW).mono (Nat.zero_le _)) ((H2.out.keep hW).mono (Nat.zero_le _))
    clear hf
    have x0 : Hid (((w.alloc (.cells #[.slice a0 m0 c0, .slice a1 m1 c1] 34)).alloc (.cells #[.slice a2 m2 c2, .slice a3 m3 c3] 34)).heap.size = w.heap.size + 2) := HSZ.out
    go_enter Try.func18, Try.ntmps18
    go_wp2_with fail
    go_region_with (go_at_call 36; (with_reducible (refine (E0.out _ (KB.out _ (Below.refl _ _).drew)).mono ?_)); rintro e w1 ⟨rfl, hb1⟩; have HBX : Below (w.heap.size + 2) ((w.alloc (.cells #[.slice a0 m0 c0, .slice a1 m1 c1] 34)).alloc (.cells #[.slice a2 m2 c2, .slice a3 m3 c3] 34)) w1 := below_step (Below.refl _ _).drew (Nat.le_of_eq HSZ.out.symm) hb1)
    all_goals go_wp2
    all_goals go_ret
    all_goals exact ⟨ret_bool (by rw [F.out]), KB.out _ HBX⟩
end Go.Proofs.Ytlbffpojdfhefaa
