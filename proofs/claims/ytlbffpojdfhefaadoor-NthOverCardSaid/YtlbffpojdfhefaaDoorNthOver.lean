/- Walk of the law NthOver. -/
import Derived.Test.YtlbffpojdfhefaaDoorNthS
import Derived.Test.YtlbffpojdfhefaaDoorFault
namespace Go.Proofs.YtlbffpojdfhefaaDoor
open Go.RowKit
attribute [local go_sem ↓] Go.wp_at_zero Go.wp_at_succ

abbrev LOver : FuncId := 3
theorem smallO {x : Int × Int} (h : smallB x.1 x.2 1099511627776 = true) : (-1099511627776 ≤ x.1 ∧ x.1 ≤ 1099511627776) ∧ (-1099511627776 ≤ x.2 ∧ x.2 ≤ 1099511627776) := by
  unfold smallB at h; have := of_decide_eq_true h; exact ⟨⟨this.1, this.2.1⟩, ⟨this.2.2.1, this.2.2.2⟩⟩
theorem over_no (w : World) (A B n : Int) (hs : smallB A B 1099511627776 = false ∨ 1099511627776 < n) : Calls Tryd.prog 3 #[.agg #[.int .i64 A, .int .i64 B], .int .i64 n] w (RetB w true) := by
  have HB0 := Lib.hid (below_a1 w (.cells #[.int .i64 A, .int .i64 B] 23))
  cases hx : smallB A B 1099511627776 with
  | false =>
    go_enter Tryd.func3, Tryd.ntmps3
    go_wp2_with fail
    refine (speaks_any _).mono ?_
    rintro e w1 ⟨rfl, hb1⟩
    have q0 : w1.cell? ⟨w.heap.size, 0, none⟩ = some (.int .i64 A) := by rw [hb1.cell (by simp)]; simp [go_sem]
    have q1 : w1.cell? ⟨w.heap.size, 1, none⟩ = some (.int .i64 B) := by rw [hb1.cell (by simp)]; simp [go_sem]
    have hbw := HB0.out.trans (hb1.mono (by simp))
    have HS := small_any A B 1099511627776 (by omega) (by omega) w1
    rw [hx] at HS
    have HSS := Lib.hid HS
    clear HS hb1 hs hx
    go_wp2_with fail
    refine HSS.out.mono ?_
    rintro e w2 ⟨rfl, hb2⟩
    go_wp2
    go_ret
    exact ⟨rfl, hbw.trans (hb2.mono hbw.size)⟩
  | true =>
    have hn : 1099511627776 < n := by rcases hs with h | h; rw [hx] at h; cases h; exact h
    clear hs
    go_enter Tryd.func3, Tryd.ntmps3
    go_wp2_with fail
    refine (speaks_any _).mono ?_
    rintro e w1 ⟨rfl, hb1⟩
    have q0 : w1.cell? ⟨w.heap.size, 0, none⟩ = some (.int .i64 A) := by rw [hb1.cell (by simp)]; simp [go_sem]
    have q1 : w1.cell? ⟨w.heap.size, 1, none⟩ = some (.int .i64 B) := by rw [hb1.cell (by simp)]; simp [go_sem]
    have hbw := HB0.out.trans (hb1.mono (by simp))
    have HS := small_any A B 1099511627776 (by omega) (by omega) w1
    rw [hx] at HS
    have HSS := Lib.hid HS
    clear HS hb1 hx
    go_wp2_with fail
    refine HSS.out.mono ?_
    rintro e w2 ⟨rfl, hb2⟩
    go_wp2
    go_ret
    exact ⟨rfl, hbw.trans (hb2.mono hbw.size)⟩

theorem hd_val (A B : Int) : ((hdOf A B : Nat) : Int) = if 0 < A then max (B - 1) 0 else max B 0 := by
  unfold hdOf headI; simp only; split <;> omega
theorem rd_val (A : Int) : ((rdOf A : Nat) : Int) = if 0 < A then A else 1 := by unfold rdOf; split <;> omega
set_option maxHeartbeats 2000000 in
theorem over_walk (w : World) (A B n : Int) (hg : ErrVar w) (hs : smallB A B 1099511627776 = true) (n1 : -9223372036854775808 ≤ n) (n2 : n ≤ 1099511627776) (X : Bool) (hX : (decide (1 ≤ n) && hasB A B n) = X) : Calls Tryd.prog 3 #[.agg #[.int .i64 A, .int .i64 B], .int .i64 n] w (RetB w true) := by
  have HBD := Lib.hid (smallO (x := (A, B)) hs)
  have HG := Lib.hid hg
  have N1 := Lib.hid n1
  have HX := Lib.hid hX
  clear hg n1 hX
  go_enter Tryd.func3, Tryd.ntmps3
  go_wp2_with fail
  generalize hw1 : World.alloc w _ = W1
  have hal := alloc_facts hw1
  have T := Lib.hid hal.1
  have BX := Lib.hid hal.2.1
  clear hw1 hal
  refine (speaks_any _).mono ?_
  rintro e W2 ⟨rfl, hb⟩
  replace T := Lib.hid (tot_keep T.out hb)
  replace BX := Lib.hid (blk_keep BX.out hb)
  clear hb W1
  have c0 : W2.cell? ⟨w.heap.size, 0, none⟩ = some (.int .i64 A) := cell_of_block BX.out 0
  have c1 : W2.cell? ⟨w.heap.size, 1, none⟩ = some (.int .i64 B) := cell_of_block BX.out 1
  have hsm := small_any A B 1099511627776 (by omega) (by omega) W2
  rw [hs] at hsm
  have HSM := Lib.hid hsm
  clear hsm hs
  go_wp2_with fail
  refine HSM.out.mono ?_
  rintro e W3 ⟨rfl, hb⟩
  replace T := Lib.hid (tot_keep T.out hb)
  replace BX := Lib.hid (blk_keep BX.out hb)
  clear hb c0 c1 HSM W2
  have c0 : W3.cell? ⟨w.heap.size, 0, none⟩ = some (.int .i64 A) := cell_of_block BX.out 0
  have c1 : W3.cell? ⟨w.heap.size, 1, none⟩ = some (.int .i64 B) := cell_of_block BX.out 1
  go_wp2_with fail
  refine (of_any A B W3 HBD.out.1 HBD.out.2).mono ?_
  intro e W4 hof
  have hof' : (∃ (er : Value) (a0 : Option Addr) (m0 x0 : Nat) (a1 : Option Addr) (m1 x1 : Nat) (h r : List Bool), e = .returned (.tuple #[.agg #[.slice a0 m0 x0, .slice a1 m1 x1], er]) ∧ SetAt 0 W4 (.agg #[.slice a0 m0 x0, .slice a1 m1 x1]) h r ∧ h.length ≤ 1000000 ∧ r.length ≤ 1000000 ∧
      ((er = .nilIface ∧ ∀ k : Nat, sq h r k = hasB A B ((k : Int) + 1)) ∨ (4096 < hdOf A B + rdOf A ∧ ∃ b, er = .iface 44 (.pointer (some ⟨b, 0, none⟩)) ∧ W4.heap[b]? = some (.cells #[.int .i64 3, .int .i64 0, .nilIface] 49 (0, 0))))) ∧ Below W3.heap.size W3 W4 := by
    rcases hof with ⟨v, h, r, he, s, _, q, _, _, l, hb⟩ | ⟨v, er, he, hv, ⟨b, hr, _, hblk⟩, l, hb⟩
    · obtain ⟨a0, m0, x0, a1, m1, x1, r0, hv, -, -, -⟩ := s.open
      subst hv
      exact ⟨⟨_, _, _, _, _, _, _, h, r, he, s.mono (Nat.zero_le _), by omega, by omega, .inl ⟨rfl, q⟩⟩, hb⟩
    · subst hv hr
      exact ⟨⟨_, _, _, _, _, _, _, [], [false], he, zeroSet_at _ _, by simp, by simp, .inr ⟨l, b, rfl, hblk⟩⟩, hb⟩
  clear hof
  obtain ⟨⟨er, a0, m0, x0, a1, m1, x1, h, r, rfl, s, hh, hr, hcase⟩, hb⟩ := hof'
  replace T := Lib.hid (tot_keep T.out hb)
  replace BX := Lib.hid (blk_keep BX.out hb)
  have SS := Lib.hid s
  have HCASE := Lib.hid hcase
  clear hb c0 c1 s hcase W3
  have c0 : W4.cell? ⟨w.heap.size, 0, none⟩ = some (.int .i64 A) := cell_of_block BX.out 0
  have c1 : W4.cell? ⟨w.heap.size, 1, none⟩ = some (.int .i64 B) := cell_of_block BX.out 1
  have clt := lt_of_block BX.out
  have HD := Lib.hid (hd_val A B)
  have RD := Lib.hid (rd_val A)
  have ab := HBD.out
  obtain ⟨⟨a1', a2'⟩, b1', b2'⟩ := ab
  --CASES
  rcases (show 0 < A ∨ A ≤ 0 by omega) with hA | hA
  · rcases (show 1 ≤ B ∨ B = 0 ∨ B < 0 by omega) with hB | rfl | hB
    · rcases (show B - 1 + A ≤ 4096 ∨ ¬ B - 1 + A ≤ 4096 by omega) with ht | ht
      · skip
        go_wp2_with fail
        go_quiet (fail)
        generalize hw5 : World.drewN (World.alloc _ _) _ = W5
        have hb45 : Below W4.heap.size W4 W5 := by rw [← hw5]; exact below_drewN (below_a1 _ _) _
        have BS : Hid (W5.heap[W4.heap.size]? = some (.cells #[.slice a0 m0 x0, .slice a1 m1 x1] 28 (0, 0))) := by show _ = _; rw [← hw5]; exact heap_alloc_new _ _
        replace T := Lib.hid (tot_keep T.out hb45)
        replace BX := Lib.hid (blk_keep BX.out hb45)
        replace SS := Lib.hid (SS.out.keep hb45)
        clear hw5 c0 c1 clt
        have c0 : W5.cell? ⟨w.heap.size, 0, none⟩ = some (.int .i64 A) := cell_of_block BX.out 0
        have c1 : W5.cell? ⟨w.heap.size, 1, none⟩ = some (.int .i64 B) := cell_of_block BX.out 1
        have d0 : W5.cell? ⟨W4.heap.size, 0, none⟩ = some (.slice a0 m0 x0) := cell_of_block BS.out 0
        have d1 : W5.cell? ⟨W4.heap.size, 1, none⟩ = some (.slice a1 m1 x1) := cell_of_block BS.out 1
        rcases HCASE.out with ⟨rfl, hq⟩ | ⟨hbig, b, rfl, hblk⟩
        · have HASX : (decide (1 ≤ n) && sq h r (n - 1).toNat) = X := by
            rw [← HX.out]
            by_cases h1 : 1 ≤ n
            · rw [decide_eq_true h1, Bool.true_and, Bool.true_and, hq]; congr 1; omega
            · rw [decide_eq_false h1]; rfl
          have HASC : Hid (∀ W, SetAt 0 W (.agg #[.slice a0 m0 x0, .slice a1 m1 x1]) h r → Calls Tryd.prog 7 #[.agg #[.slice a0 m0 x0, .slice a1 m1 x1], .int .i64 n] W (RetB W X)) := fun W hs => by
            have := hasSet_any _ 0 h r n W hs N1.out n2 hh hr
            rwa [HASX] at this
          clear HASX hq
          have xx : (X == X) = true := by simp
          by_cases h1 : 1 ≤ n
          · have RX : Hid (∀ W, Calls Tryd.prog 8 #[.int .i64 A, .int .i64 B, .int .i64 n] W (Rets W X)) := fun W => by
              have := refHas_any A B n HBD.out.1 HBD.out.2 (by omega) W
              rwa [show hasB A B n = X by rw [← HX.out, decide_eq_true h1, Bool.true_and]] at this
            go_wp2_with fail
            refine (HASC.out _ SS.out).mono ?_
            rintro e W6 ⟨rfl, hb⟩
            replace T := Lib.hid (tot_keep T.out hb)
            replace BX := Lib.hid (blk_keep BX.out hb)
            clear c0 c1 d0 d1 hb HASC SS BS
            have c0 : W6.cell? ⟨w.heap.size, 0, none⟩ = some (.int .i64 A) := cell_of_block BX.out 0
            have c1 : W6.cell? ⟨w.heap.size, 1, none⟩ = some (.int .i64 B) := cell_of_block BX.out 1
            go_wp2_with fail
            refine (RX.out _).mono ?_
            rintro e W7 ⟨rfl, rfl⟩
            go_wp2
            go_ret
            exact ⟨rfl, T.out⟩
          · have X0 : X = false := by rw [← HX.out, decide_eq_false h1]; rfl
            subst X0
            have h2 : n < 1 := by omega
            go_wp2_with fail
            refine (HASC.out _ SS.out).mono ?_
            rintro e W6 ⟨rfl, hb⟩
            replace T := Lib.hid (tot_keep T.out hb)
            clear c0 c1 d0 d1 hb HASC SS BS BX
            go_wp2
            go_ret
            exact ⟨rfl, T.out⟩
        · exfalso
          have h1 := HD.out
          have h2 := RD.out
          split at h1 <;> split at h2 <;> omega

      · skip
        go_wp2_with fail
        go_quiet (fail)
        generalize hw5 : World.drewN (World.alloc _ _) _ = W5
        have hb45 : Below W4.heap.size W4 W5 := by rw [← hw5]; exact below_drewN (below_a1 _ _) _
        have BS : Hid (W5.heap[W4.heap.size]? = some (.cells #[.slice a0 m0 x0, .slice a1 m1 x1] 28 (0, 0))) := by show _ = _; rw [← hw5]; exact heap_alloc_new _ _
        replace T := Lib.hid (tot_keep T.out hb45)
        replace BX := Lib.hid (blk_keep BX.out hb45)
        replace SS := Lib.hid (SS.out.keep hb45)
        clear hw5 c0 c1 clt
        have c0 : W5.cell? ⟨w.heap.size, 0, none⟩ = some (.int .i64 A) := cell_of_block BX.out 0
        have c1 : W5.cell? ⟨w.heap.size, 1, none⟩ = some (.int .i64 B) := cell_of_block BX.out 1
        have d0 : W5.cell? ⟨W4.heap.size, 0, none⟩ = some (.slice a0 m0 x0) := cell_of_block BS.out 0
        have d1 : W5.cell? ⟨W4.heap.size, 1, none⟩ = some (.slice a1 m1 x1) := cell_of_block BS.out 1
        rcases HCASE.out with ⟨rfl, hq⟩ | ⟨hbig, b, rfl, hblk⟩
        · have HASX : (decide (1 ≤ n) && sq h r (n - 1).toNat) = X := by
            rw [← HX.out]
            by_cases h1 : 1 ≤ n
            · rw [decide_eq_true h1, Bool.true_and, Bool.true_and, hq]; congr 1; omega
            · rw [decide_eq_false h1]; rfl
          have HASC : Hid (∀ W, SetAt 0 W (.agg #[.slice a0 m0 x0, .slice a1 m1 x1]) h r → Calls Tryd.prog 7 #[.agg #[.slice a0 m0 x0, .slice a1 m1 x1], .int .i64 n] W (RetB W X)) := fun W hs => by
            have := hasSet_any _ 0 h r n W hs N1.out n2 hh hr
            rwa [HASX] at this
          clear HASX hq
          have xx : (X == X) = true := by simp
          by_cases h1 : 1 ≤ n
          · have RX : Hid (∀ W, Calls Tryd.prog 8 #[.int .i64 A, .int .i64 B, .int .i64 n] W (Rets W X)) := fun W => by
              have := refHas_any A B n HBD.out.1 HBD.out.2 (by omega) W
              rwa [show hasB A B n = X by rw [← HX.out, decide_eq_true h1, Bool.true_and]] at this
            go_wp2_with fail
            refine (HASC.out _ SS.out).mono ?_
            rintro e W6 ⟨rfl, hb⟩
            replace T := Lib.hid (tot_keep T.out hb)
            replace BX := Lib.hid (blk_keep BX.out hb)
            clear c0 c1 d0 d1 hb HASC SS BS
            have c0 : W6.cell? ⟨w.heap.size, 0, none⟩ = some (.int .i64 A) := cell_of_block BX.out 0
            have c1 : W6.cell? ⟨w.heap.size, 1, none⟩ = some (.int .i64 B) := cell_of_block BX.out 1
            go_wp2_with fail
            refine (RX.out _).mono ?_
            rintro e W7 ⟨rfl, rfl⟩
            go_wp2
            go_ret
            exact ⟨rfl, T.out⟩
          · have X0 : X = false := by rw [← HX.out, decide_eq_false h1]; rfl
            subst X0
            have h2 : n < 1 := by omega
            go_wp2_with fail
            refine (HASC.out _ SS.out).mono ?_
            rintro e W6 ⟨rfl, hb⟩
            replace T := Lib.hid (tot_keep T.out hb)
            clear c0 c1 d0 d1 hb HASC SS BS BX
            go_wp2
            go_ret
            exact ⟨rfl, T.out⟩
        · have HBL := Lib.hid hblk
          clear hblk hbig
          go_wp2_with fail
          have HBLK := Lib.hid (blk_keep HBL.out hb45)
          have HGK := Lib.hid (ErrVar.keep HG.out T.out)
          clear c0 c1 d0 d1
          refine (kind_any b 3 0 .nilIface W5 HGK.out HBLK.out).mono ?_
          rintro e W6 ⟨rfl, hb⟩
          replace T := Lib.hid (tot_keep T.out hb)
          replace HGK := Lib.hid (ErrVar.keep HGK.out hb)
          replace HBLK := Lib.hid (blk_keep HBLK.out hb)
          clear hb SS BS BX
          go_wp2_with fail
          refine (at_any b 3 0 .nilIface W6 HGK.out HBLK.out).mono ?_
          rintro e W7 ⟨rfl, hb⟩
          replace T := Lib.hid (tot_keep T.out hb)
          clear hb
          go_wp2
          go_ret
          exact ⟨rfl, T.out⟩

    · rcases (show A ≤ 4096 ∨ ¬ A ≤ 4096 by omega) with ht | ht
      · skip
        go_wp2_with fail
        go_quiet (fail)
        generalize hw5 : World.drewN (World.alloc _ _) _ = W5
        have hb45 : Below W4.heap.size W4 W5 := by rw [← hw5]; exact below_drewN (below_a1 _ _) _
        have BS : Hid (W5.heap[W4.heap.size]? = some (.cells #[.slice a0 m0 x0, .slice a1 m1 x1] 28 (0, 0))) := by show _ = _; rw [← hw5]; exact heap_alloc_new _ _
        replace T := Lib.hid (tot_keep T.out hb45)
        replace BX := Lib.hid (blk_keep BX.out hb45)
        replace SS := Lib.hid (SS.out.keep hb45)
        clear hw5 c0 c1 clt
        have c0 : W5.cell? ⟨w.heap.size, 0, none⟩ = some (.int .i64 A) := cell_of_block BX.out 0
        have c1 : W5.cell? ⟨w.heap.size, 1, none⟩ = some (.int .i64 0) := cell_of_block BX.out 1
        have d0 : W5.cell? ⟨W4.heap.size, 0, none⟩ = some (.slice a0 m0 x0) := cell_of_block BS.out 0
        have d1 : W5.cell? ⟨W4.heap.size, 1, none⟩ = some (.slice a1 m1 x1) := cell_of_block BS.out 1
        rcases HCASE.out with ⟨rfl, hq⟩ | ⟨hbig, b, rfl, hblk⟩
        · have HASX : (decide (1 ≤ n) && sq h r (n - 1).toNat) = X := by
            rw [← HX.out]
            by_cases h1 : 1 ≤ n
            · rw [decide_eq_true h1, Bool.true_and, Bool.true_and, hq]; congr 1; omega
            · rw [decide_eq_false h1]; rfl
          have HASC : Hid (∀ W, SetAt 0 W (.agg #[.slice a0 m0 x0, .slice a1 m1 x1]) h r → Calls Tryd.prog 7 #[.agg #[.slice a0 m0 x0, .slice a1 m1 x1], .int .i64 n] W (RetB W X)) := fun W hs => by
            have := hasSet_any _ 0 h r n W hs N1.out n2 hh hr
            rwa [HASX] at this
          clear HASX hq
          have xx : (X == X) = true := by simp
          by_cases h1 : 1 ≤ n
          · have RX : Hid (∀ W, Calls Tryd.prog 8 #[.int .i64 A, .int .i64 0, .int .i64 n] W (Rets W X)) := fun W => by
              have := refHas_any A 0 n HBD.out.1 HBD.out.2 (by omega) W
              rwa [show hasB A 0 n = X by rw [← HX.out, decide_eq_true h1, Bool.true_and]] at this
            go_wp2_with fail
            refine (HASC.out _ SS.out).mono ?_
            rintro e W6 ⟨rfl, hb⟩
            replace T := Lib.hid (tot_keep T.out hb)
            replace BX := Lib.hid (blk_keep BX.out hb)
            clear c0 c1 d0 d1 hb HASC SS BS
            have c0 : W6.cell? ⟨w.heap.size, 0, none⟩ = some (.int .i64 A) := cell_of_block BX.out 0
            have c1 : W6.cell? ⟨w.heap.size, 1, none⟩ = some (.int .i64 0) := cell_of_block BX.out 1
            go_wp2_with fail
            refine (RX.out _).mono ?_
            rintro e W7 ⟨rfl, rfl⟩
            go_wp2
            go_ret
            exact ⟨rfl, T.out⟩
          · have X0 : X = false := by rw [← HX.out, decide_eq_false h1]; rfl
            subst X0
            have h2 : n < 1 := by omega
            go_wp2_with fail
            refine (HASC.out _ SS.out).mono ?_
            rintro e W6 ⟨rfl, hb⟩
            replace T := Lib.hid (tot_keep T.out hb)
            clear c0 c1 d0 d1 hb HASC SS BS BX
            go_wp2
            go_ret
            exact ⟨rfl, T.out⟩
        · exfalso
          have h1 := HD.out
          have h2 := RD.out
          split at h1 <;> split at h2 <;> omega

      · skip
        go_wp2_with fail
        go_quiet (fail)
        generalize hw5 : World.drewN (World.alloc _ _) _ = W5
        have hb45 : Below W4.heap.size W4 W5 := by rw [← hw5]; exact below_drewN (below_a1 _ _) _
        have BS : Hid (W5.heap[W4.heap.size]? = some (.cells #[.slice a0 m0 x0, .slice a1 m1 x1] 28 (0, 0))) := by show _ = _; rw [← hw5]; exact heap_alloc_new _ _
        replace T := Lib.hid (tot_keep T.out hb45)
        replace BX := Lib.hid (blk_keep BX.out hb45)
        replace SS := Lib.hid (SS.out.keep hb45)
        clear hw5 c0 c1 clt
        have c0 : W5.cell? ⟨w.heap.size, 0, none⟩ = some (.int .i64 A) := cell_of_block BX.out 0
        have c1 : W5.cell? ⟨w.heap.size, 1, none⟩ = some (.int .i64 0) := cell_of_block BX.out 1
        have d0 : W5.cell? ⟨W4.heap.size, 0, none⟩ = some (.slice a0 m0 x0) := cell_of_block BS.out 0
        have d1 : W5.cell? ⟨W4.heap.size, 1, none⟩ = some (.slice a1 m1 x1) := cell_of_block BS.out 1
        rcases HCASE.out with ⟨rfl, hq⟩ | ⟨hbig, b, rfl, hblk⟩
        · have HASX : (decide (1 ≤ n) && sq h r (n - 1).toNat) = X := by
            rw [← HX.out]
            by_cases h1 : 1 ≤ n
            · rw [decide_eq_true h1, Bool.true_and, Bool.true_and, hq]; congr 1; omega
            · rw [decide_eq_false h1]; rfl
          have HASC : Hid (∀ W, SetAt 0 W (.agg #[.slice a0 m0 x0, .slice a1 m1 x1]) h r → Calls Tryd.prog 7 #[.agg #[.slice a0 m0 x0, .slice a1 m1 x1], .int .i64 n] W (RetB W X)) := fun W hs => by
            have := hasSet_any _ 0 h r n W hs N1.out n2 hh hr
            rwa [HASX] at this
          clear HASX hq
          have xx : (X == X) = true := by simp
          by_cases h1 : 1 ≤ n
          · have RX : Hid (∀ W, Calls Tryd.prog 8 #[.int .i64 A, .int .i64 0, .int .i64 n] W (Rets W X)) := fun W => by
              have := refHas_any A 0 n HBD.out.1 HBD.out.2 (by omega) W
              rwa [show hasB A 0 n = X by rw [← HX.out, decide_eq_true h1, Bool.true_and]] at this
            go_wp2_with fail
            refine (HASC.out _ SS.out).mono ?_
            rintro e W6 ⟨rfl, hb⟩
            replace T := Lib.hid (tot_keep T.out hb)
            replace BX := Lib.hid (blk_keep BX.out hb)
            clear c0 c1 d0 d1 hb HASC SS BS
            have c0 : W6.cell? ⟨w.heap.size, 0, none⟩ = some (.int .i64 A) := cell_of_block BX.out 0
            have c1 : W6.cell? ⟨w.heap.size, 1, none⟩ = some (.int .i64 0) := cell_of_block BX.out 1
            go_wp2_with fail
            refine (RX.out _).mono ?_
            rintro e W7 ⟨rfl, rfl⟩
            go_wp2
            go_ret
            exact ⟨rfl, T.out⟩
          · have X0 : X = false := by rw [← HX.out, decide_eq_false h1]; rfl
            subst X0
            have h2 : n < 1 := by omega
            go_wp2_with fail
            refine (HASC.out _ SS.out).mono ?_
            rintro e W6 ⟨rfl, hb⟩
            replace T := Lib.hid (tot_keep T.out hb)
            clear c0 c1 d0 d1 hb HASC SS BS BX
            go_wp2
            go_ret
            exact ⟨rfl, T.out⟩
        · have HBL := Lib.hid hblk
          clear hblk hbig
          go_wp2_with fail
          have HBLK := Lib.hid (blk_keep HBL.out hb45)
          have HGK := Lib.hid (ErrVar.keep HG.out T.out)
          clear c0 c1 d0 d1
          refine (kind_any b 3 0 .nilIface W5 HGK.out HBLK.out).mono ?_
          rintro e W6 ⟨rfl, hb⟩
          replace T := Lib.hid (tot_keep T.out hb)
          replace HGK := Lib.hid (ErrVar.keep HGK.out hb)
          replace HBLK := Lib.hid (blk_keep HBLK.out hb)
          clear hb SS BS BX
          go_wp2_with fail
          refine (at_any b 3 0 .nilIface W6 HGK.out HBLK.out).mono ?_
          rintro e W7 ⟨rfl, hb⟩
          replace T := Lib.hid (tot_keep T.out hb)
          clear hb
          go_wp2
          go_ret
          exact ⟨rfl, T.out⟩

    · rcases (show A ≤ 4096 ∨ ¬ A ≤ 4096 by omega) with ht | ht
      · skip
        go_wp2_with fail
        go_quiet (fail)
        generalize hw5 : World.drewN (World.alloc _ _) _ = W5
        have hb45 : Below W4.heap.size W4 W5 := by rw [← hw5]; exact below_drewN (below_a1 _ _) _
        have BS : Hid (W5.heap[W4.heap.size]? = some (.cells #[.slice a0 m0 x0, .slice a1 m1 x1] 28 (0, 0))) := by show _ = _; rw [← hw5]; exact heap_alloc_new _ _
        replace T := Lib.hid (tot_keep T.out hb45)
        replace BX := Lib.hid (blk_keep BX.out hb45)
        replace SS := Lib.hid (SS.out.keep hb45)
        clear hw5 c0 c1 clt
        have c0 : W5.cell? ⟨w.heap.size, 0, none⟩ = some (.int .i64 A) := cell_of_block BX.out 0
        have c1 : W5.cell? ⟨w.heap.size, 1, none⟩ = some (.int .i64 B) := cell_of_block BX.out 1
        have d0 : W5.cell? ⟨W4.heap.size, 0, none⟩ = some (.slice a0 m0 x0) := cell_of_block BS.out 0
        have d1 : W5.cell? ⟨W4.heap.size, 1, none⟩ = some (.slice a1 m1 x1) := cell_of_block BS.out 1
        rcases HCASE.out with ⟨rfl, hq⟩ | ⟨hbig, b, rfl, hblk⟩
        · have HASX : (decide (1 ≤ n) && sq h r (n - 1).toNat) = X := by
            rw [← HX.out]
            by_cases h1 : 1 ≤ n
            · rw [decide_eq_true h1, Bool.true_and, Bool.true_and, hq]; congr 1; omega
            · rw [decide_eq_false h1]; rfl
          have HASC : Hid (∀ W, SetAt 0 W (.agg #[.slice a0 m0 x0, .slice a1 m1 x1]) h r → Calls Tryd.prog 7 #[.agg #[.slice a0 m0 x0, .slice a1 m1 x1], .int .i64 n] W (RetB W X)) := fun W hs => by
            have := hasSet_any _ 0 h r n W hs N1.out n2 hh hr
            rwa [HASX] at this
          clear HASX hq
          have xx : (X == X) = true := by simp
          by_cases h1 : 1 ≤ n
          · have RX : Hid (∀ W, Calls Tryd.prog 8 #[.int .i64 A, .int .i64 B, .int .i64 n] W (Rets W X)) := fun W => by
              have := refHas_any A B n HBD.out.1 HBD.out.2 (by omega) W
              rwa [show hasB A B n = X by rw [← HX.out, decide_eq_true h1, Bool.true_and]] at this
            go_wp2_with fail
            refine (HASC.out _ SS.out).mono ?_
            rintro e W6 ⟨rfl, hb⟩
            replace T := Lib.hid (tot_keep T.out hb)
            replace BX := Lib.hid (blk_keep BX.out hb)
            clear c0 c1 d0 d1 hb HASC SS BS
            have c0 : W6.cell? ⟨w.heap.size, 0, none⟩ = some (.int .i64 A) := cell_of_block BX.out 0
            have c1 : W6.cell? ⟨w.heap.size, 1, none⟩ = some (.int .i64 B) := cell_of_block BX.out 1
            go_wp2_with fail
            refine (RX.out _).mono ?_
            rintro e W7 ⟨rfl, rfl⟩
            go_wp2
            go_ret
            exact ⟨rfl, T.out⟩
          · have X0 : X = false := by rw [← HX.out, decide_eq_false h1]; rfl
            subst X0
            have h2 : n < 1 := by omega
            go_wp2_with fail
            refine (HASC.out _ SS.out).mono ?_
            rintro e W6 ⟨rfl, hb⟩
            replace T := Lib.hid (tot_keep T.out hb)
            clear c0 c1 d0 d1 hb HASC SS BS BX
            go_wp2
            go_ret
            exact ⟨rfl, T.out⟩
        · exfalso
          have h1 := HD.out
          have h2 := RD.out
          split at h1 <;> split at h2 <;> omega

      · skip
        go_wp2_with fail
        go_quiet (fail)
        generalize hw5 : World.drewN (World.alloc _ _) _ = W5
        have hb45 : Below W4.heap.size W4 W5 := by rw [← hw5]; exact below_drewN (below_a1 _ _) _
        have BS : Hid (W5.heap[W4.heap.size]? = some (.cells #[.slice a0 m0 x0, .slice a1 m1 x1] 28 (0, 0))) := by show _ = _; rw [← hw5]; exact heap_alloc_new _ _
        replace T := Lib.hid (tot_keep T.out hb45)
        replace BX := Lib.hid (blk_keep BX.out hb45)
        replace SS := Lib.hid (SS.out.keep hb45)
        clear hw5 c0 c1 clt
        have c0 : W5.cell? ⟨w.heap.size, 0, none⟩ = some (.int .i64 A) := cell_of_block BX.out 0
        have c1 : W5.cell? ⟨w.heap.size, 1, none⟩ = some (.int .i64 B) := cell_of_block BX.out 1
        have d0 : W5.cell? ⟨W4.heap.size, 0, none⟩ = some (.slice a0 m0 x0) := cell_of_block BS.out 0
        have d1 : W5.cell? ⟨W4.heap.size, 1, none⟩ = some (.slice a1 m1 x1) := cell_of_block BS.out 1
        rcases HCASE.out with ⟨rfl, hq⟩ | ⟨hbig, b, rfl, hblk⟩
        · have HASX : (decide (1 ≤ n) && sq h r (n - 1).toNat) = X := by
            rw [← HX.out]
            by_cases h1 : 1 ≤ n
            · rw [decide_eq_true h1, Bool.true_and, Bool.true_and, hq]; congr 1; omega
            · rw [decide_eq_false h1]; rfl
          have HASC : Hid (∀ W, SetAt 0 W (.agg #[.slice a0 m0 x0, .slice a1 m1 x1]) h r → Calls Tryd.prog 7 #[.agg #[.slice a0 m0 x0, .slice a1 m1 x1], .int .i64 n] W (RetB W X)) := fun W hs => by
            have := hasSet_any _ 0 h r n W hs N1.out n2 hh hr
            rwa [HASX] at this
          clear HASX hq
          have xx : (X == X) = true := by simp
          by_cases h1 : 1 ≤ n
          · have RX : Hid (∀ W, Calls Tryd.prog 8 #[.int .i64 A, .int .i64 B, .int .i64 n] W (Rets W X)) := fun W => by
              have := refHas_any A B n HBD.out.1 HBD.out.2 (by omega) W
              rwa [show hasB A B n = X by rw [← HX.out, decide_eq_true h1, Bool.true_and]] at this
            go_wp2_with fail
            refine (HASC.out _ SS.out).mono ?_
            rintro e W6 ⟨rfl, hb⟩
            replace T := Lib.hid (tot_keep T.out hb)
            replace BX := Lib.hid (blk_keep BX.out hb)
            clear c0 c1 d0 d1 hb HASC SS BS
            have c0 : W6.cell? ⟨w.heap.size, 0, none⟩ = some (.int .i64 A) := cell_of_block BX.out 0
            have c1 : W6.cell? ⟨w.heap.size, 1, none⟩ = some (.int .i64 B) := cell_of_block BX.out 1
            go_wp2_with fail
            refine (RX.out _).mono ?_
            rintro e W7 ⟨rfl, rfl⟩
            go_wp2
            go_ret
            exact ⟨rfl, T.out⟩
          · have X0 : X = false := by rw [← HX.out, decide_eq_false h1]; rfl
            subst X0
            have h2 : n < 1 := by omega
            go_wp2_with fail
            refine (HASC.out _ SS.out).mono ?_
            rintro e W6 ⟨rfl, hb⟩
            replace T := Lib.hid (tot_keep T.out hb)
            clear c0 c1 d0 d1 hb HASC SS BS BX
            go_wp2
            go_ret
            exact ⟨rfl, T.out⟩
        · have HBL := Lib.hid hblk
          clear hblk hbig
          go_wp2_with fail
          have HBLK := Lib.hid (blk_keep HBL.out hb45)
          have HGK := Lib.hid (ErrVar.keep HG.out T.out)
          clear c0 c1 d0 d1
          refine (kind_any b 3 0 .nilIface W5 HGK.out HBLK.out).mono ?_
          rintro e W6 ⟨rfl, hb⟩
          replace T := Lib.hid (tot_keep T.out hb)
          replace HGK := Lib.hid (ErrVar.keep HGK.out hb)
          replace HBLK := Lib.hid (blk_keep HBLK.out hb)
          clear hb SS BS BX
          go_wp2_with fail
          refine (at_any b 3 0 .nilIface W6 HGK.out HBLK.out).mono ?_
          rintro e W7 ⟨rfl, hb⟩
          replace T := Lib.hid (tot_keep T.out hb)
          clear hb
          go_wp2
          go_ret
          exact ⟨rfl, T.out⟩

  · rcases (show 1 ≤ B ∨ B = 0 ∨ B < 0 by omega) with hB | rfl | hB
    · rcases (show B < 4096 ∨ ¬ B < 4096 by omega) with ht | ht
      · skip
        rcases HCASE.out with ⟨rfl, hq⟩ | ⟨hbig, b, rfl, hblk⟩
        · have HASX : (decide (1 ≤ n) && sq h r (n - 1).toNat) = X := by
            rw [← HX.out]
            by_cases h1 : 1 ≤ n
            · rw [decide_eq_true h1, Bool.true_and, Bool.true_and, hq]; congr 1; omega
            · rw [decide_eq_false h1]; rfl
          have HASC : Hid (∀ W, SetAt 0 W (.agg #[.slice a0 m0 x0, .slice a1 m1 x1]) h r → Calls Tryd.prog 7 #[.agg #[.slice a0 m0 x0, .slice a1 m1 x1], .int .i64 n] W (RetB W X)) := fun W hs => by
            have := hasSet_any _ 0 h r n W hs N1.out n2 hh hr
            rwa [HASX] at this
          clear HASX hq
          have xx : (X == X) = true := by simp
          by_cases h1 : 1 ≤ n
          · have RX : Hid (∀ W, Calls Tryd.prog 8 #[.int .i64 A, .int .i64 B, .int .i64 n] W (Rets W X)) := fun W => by
              have := refHas_any A B n HBD.out.1 HBD.out.2 (by omega) W
              rwa [show hasB A B n = X by rw [← HX.out, decide_eq_true h1, Bool.true_and]] at this
            go_wp2_with fail
            generalize hw5 : World.alloc W4 _ = W5
            have hb45 : Below W4.heap.size W4 W5 := by rw [← hw5]; exact below_a1 _ _
            have BS : Hid (W5.heap[W4.heap.size]? = some (.cells #[.slice a0 m0 x0, .slice a1 m1 x1] 28 (0, 0))) := by show _ = _; rw [← hw5]; exact heap_alloc_new _ _
            replace T := Lib.hid (tot_keep T.out hb45)
            replace BX := Lib.hid (blk_keep BX.out hb45)
            replace SS := Lib.hid (SS.out.keep hb45)
            clear hw5 c0 c1 clt
            have c0 : W5.cell? ⟨w.heap.size, 0, none⟩ = some (.int .i64 A) := cell_of_block BX.out 0
            have c1 : W5.cell? ⟨w.heap.size, 1, none⟩ = some (.int .i64 B) := cell_of_block BX.out 1
            have d0 : W5.cell? ⟨W4.heap.size, 0, none⟩ = some (.slice a0 m0 x0) := cell_of_block BS.out 0
            have d1 : W5.cell? ⟨W4.heap.size, 1, none⟩ = some (.slice a1 m1 x1) := cell_of_block BS.out 1
            refine (HASC.out _ SS.out).mono ?_
            rintro e W6 ⟨rfl, hb⟩
            replace T := Lib.hid (tot_keep T.out hb)
            replace BX := Lib.hid (blk_keep BX.out hb)
            clear c0 c1 d0 d1 hb HASC SS BS
            have c0 : W6.cell? ⟨w.heap.size, 0, none⟩ = some (.int .i64 A) := cell_of_block BX.out 0
            have c1 : W6.cell? ⟨w.heap.size, 1, none⟩ = some (.int .i64 B) := cell_of_block BX.out 1
            go_wp2_with fail
            refine (RX.out _).mono ?_
            rintro e W7 ⟨rfl, rfl⟩
            go_wp2
            go_ret
            exact ⟨rfl, T.out⟩
          · have X0 : X = false := by rw [← HX.out, decide_eq_false h1]; rfl
            subst X0
            have h2 : n < 1 := by omega
            go_wp2_with fail
            generalize hw5 : World.alloc W4 _ = W5
            have hb45 : Below W4.heap.size W4 W5 := by rw [← hw5]; exact below_a1 _ _
            have BS : Hid (W5.heap[W4.heap.size]? = some (.cells #[.slice a0 m0 x0, .slice a1 m1 x1] 28 (0, 0))) := by show _ = _; rw [← hw5]; exact heap_alloc_new _ _
            replace T := Lib.hid (tot_keep T.out hb45)
            replace BX := Lib.hid (blk_keep BX.out hb45)
            replace SS := Lib.hid (SS.out.keep hb45)
            clear hw5 c0 c1 clt
            have c0 : W5.cell? ⟨w.heap.size, 0, none⟩ = some (.int .i64 A) := cell_of_block BX.out 0
            have c1 : W5.cell? ⟨w.heap.size, 1, none⟩ = some (.int .i64 B) := cell_of_block BX.out 1
            have d0 : W5.cell? ⟨W4.heap.size, 0, none⟩ = some (.slice a0 m0 x0) := cell_of_block BS.out 0
            have d1 : W5.cell? ⟨W4.heap.size, 1, none⟩ = some (.slice a1 m1 x1) := cell_of_block BS.out 1
            refine (HASC.out _ SS.out).mono ?_
            rintro e W6 ⟨rfl, hb⟩
            replace T := Lib.hid (tot_keep T.out hb)
            clear c0 c1 d0 d1 hb HASC SS BS BX
            go_wp2
            go_ret
            exact ⟨rfl, T.out⟩
        · exfalso
          have h1 := HD.out
          have h2 := RD.out
          split at h1 <;> split at h2 <;> omega

      · skip
        rcases HCASE.out with ⟨rfl, hq⟩ | ⟨hbig, b, rfl, hblk⟩
        · have HASX : (decide (1 ≤ n) && sq h r (n - 1).toNat) = X := by
            rw [← HX.out]
            by_cases h1 : 1 ≤ n
            · rw [decide_eq_true h1, Bool.true_and, Bool.true_and, hq]; congr 1; omega
            · rw [decide_eq_false h1]; rfl
          have HASC : Hid (∀ W, SetAt 0 W (.agg #[.slice a0 m0 x0, .slice a1 m1 x1]) h r → Calls Tryd.prog 7 #[.agg #[.slice a0 m0 x0, .slice a1 m1 x1], .int .i64 n] W (RetB W X)) := fun W hs => by
            have := hasSet_any _ 0 h r n W hs N1.out n2 hh hr
            rwa [HASX] at this
          clear HASX hq
          have xx : (X == X) = true := by simp
          by_cases h1 : 1 ≤ n
          · have RX : Hid (∀ W, Calls Tryd.prog 8 #[.int .i64 A, .int .i64 B, .int .i64 n] W (Rets W X)) := fun W => by
              have := refHas_any A B n HBD.out.1 HBD.out.2 (by omega) W
              rwa [show hasB A B n = X by rw [← HX.out, decide_eq_true h1, Bool.true_and]] at this
            go_wp2_with fail
            generalize hw5 : World.alloc W4 _ = W5
            have hb45 : Below W4.heap.size W4 W5 := by rw [← hw5]; exact below_a1 _ _
            have BS : Hid (W5.heap[W4.heap.size]? = some (.cells #[.slice a0 m0 x0, .slice a1 m1 x1] 28 (0, 0))) := by show _ = _; rw [← hw5]; exact heap_alloc_new _ _
            replace T := Lib.hid (tot_keep T.out hb45)
            replace BX := Lib.hid (blk_keep BX.out hb45)
            replace SS := Lib.hid (SS.out.keep hb45)
            clear hw5 c0 c1 clt
            have c0 : W5.cell? ⟨w.heap.size, 0, none⟩ = some (.int .i64 A) := cell_of_block BX.out 0
            have c1 : W5.cell? ⟨w.heap.size, 1, none⟩ = some (.int .i64 B) := cell_of_block BX.out 1
            have d0 : W5.cell? ⟨W4.heap.size, 0, none⟩ = some (.slice a0 m0 x0) := cell_of_block BS.out 0
            have d1 : W5.cell? ⟨W4.heap.size, 1, none⟩ = some (.slice a1 m1 x1) := cell_of_block BS.out 1
            refine (HASC.out _ SS.out).mono ?_
            rintro e W6 ⟨rfl, hb⟩
            replace T := Lib.hid (tot_keep T.out hb)
            replace BX := Lib.hid (blk_keep BX.out hb)
            clear c0 c1 d0 d1 hb HASC SS BS
            have c0 : W6.cell? ⟨w.heap.size, 0, none⟩ = some (.int .i64 A) := cell_of_block BX.out 0
            have c1 : W6.cell? ⟨w.heap.size, 1, none⟩ = some (.int .i64 B) := cell_of_block BX.out 1
            go_wp2_with fail
            refine (RX.out _).mono ?_
            rintro e W7 ⟨rfl, rfl⟩
            go_wp2
            go_ret
            exact ⟨rfl, T.out⟩
          · have X0 : X = false := by rw [← HX.out, decide_eq_false h1]; rfl
            subst X0
            have h2 : n < 1 := by omega
            go_wp2_with fail
            generalize hw5 : World.alloc W4 _ = W5
            have hb45 : Below W4.heap.size W4 W5 := by rw [← hw5]; exact below_a1 _ _
            have BS : Hid (W5.heap[W4.heap.size]? = some (.cells #[.slice a0 m0 x0, .slice a1 m1 x1] 28 (0, 0))) := by show _ = _; rw [← hw5]; exact heap_alloc_new _ _
            replace T := Lib.hid (tot_keep T.out hb45)
            replace BX := Lib.hid (blk_keep BX.out hb45)
            replace SS := Lib.hid (SS.out.keep hb45)
            clear hw5 c0 c1 clt
            have c0 : W5.cell? ⟨w.heap.size, 0, none⟩ = some (.int .i64 A) := cell_of_block BX.out 0
            have c1 : W5.cell? ⟨w.heap.size, 1, none⟩ = some (.int .i64 B) := cell_of_block BX.out 1
            have d0 : W5.cell? ⟨W4.heap.size, 0, none⟩ = some (.slice a0 m0 x0) := cell_of_block BS.out 0
            have d1 : W5.cell? ⟨W4.heap.size, 1, none⟩ = some (.slice a1 m1 x1) := cell_of_block BS.out 1
            refine (HASC.out _ SS.out).mono ?_
            rintro e W6 ⟨rfl, hb⟩
            replace T := Lib.hid (tot_keep T.out hb)
            clear c0 c1 d0 d1 hb HASC SS BS BX
            go_wp2
            go_ret
            exact ⟨rfl, T.out⟩
        · have HBL := Lib.hid hblk
          clear hblk hbig
          go_wp2_with fail
          generalize hw5 : World.alloc W4 _ = W5
          have hb45 : Below W4.heap.size W4 W5 := by rw [← hw5]; exact below_a1 _ _
          have BS : Hid (W5.heap[W4.heap.size]? = some (.cells #[.slice a0 m0 x0, .slice a1 m1 x1] 28 (0, 0))) := by show _ = _; rw [← hw5]; exact heap_alloc_new _ _
          replace T := Lib.hid (tot_keep T.out hb45)
          replace BX := Lib.hid (blk_keep BX.out hb45)
          replace SS := Lib.hid (SS.out.keep hb45)
          clear hw5 c0 c1 clt
          have c0 : W5.cell? ⟨w.heap.size, 0, none⟩ = some (.int .i64 A) := cell_of_block BX.out 0
          have c1 : W5.cell? ⟨w.heap.size, 1, none⟩ = some (.int .i64 B) := cell_of_block BX.out 1
          have d0 : W5.cell? ⟨W4.heap.size, 0, none⟩ = some (.slice a0 m0 x0) := cell_of_block BS.out 0
          have d1 : W5.cell? ⟨W4.heap.size, 1, none⟩ = some (.slice a1 m1 x1) := cell_of_block BS.out 1
          have HBLK := Lib.hid (blk_keep HBL.out hb45)
          have HGK := Lib.hid (ErrVar.keep HG.out T.out)
          clear c0 c1 d0 d1
          refine (kind_any b 3 0 .nilIface W5 HGK.out HBLK.out).mono ?_
          rintro e W6 ⟨rfl, hb⟩
          replace T := Lib.hid (tot_keep T.out hb)
          replace HGK := Lib.hid (ErrVar.keep HGK.out hb)
          replace HBLK := Lib.hid (blk_keep HBLK.out hb)
          clear hb SS BS BX
          go_wp2_with fail
          refine (at_any b 3 0 .nilIface W6 HGK.out HBLK.out).mono ?_
          rintro e W7 ⟨rfl, hb⟩
          replace T := Lib.hid (tot_keep T.out hb)
          clear hb
          go_wp2
          go_ret
          exact ⟨rfl, T.out⟩

    · skip
      rcases HCASE.out with ⟨rfl, hq⟩ | ⟨hbig, b, rfl, hblk⟩
      · have HASX : (decide (1 ≤ n) && sq h r (n - 1).toNat) = X := by
          rw [← HX.out]
          by_cases h1 : 1 ≤ n
          · rw [decide_eq_true h1, Bool.true_and, Bool.true_and, hq]; congr 1; omega
          · rw [decide_eq_false h1]; rfl
        have HASC : Hid (∀ W, SetAt 0 W (.agg #[.slice a0 m0 x0, .slice a1 m1 x1]) h r → Calls Tryd.prog 7 #[.agg #[.slice a0 m0 x0, .slice a1 m1 x1], .int .i64 n] W (RetB W X)) := fun W hs => by
          have := hasSet_any _ 0 h r n W hs N1.out n2 hh hr
          rwa [HASX] at this
        clear HASX hq
        have xx : (X == X) = true := by simp
        by_cases h1 : 1 ≤ n
        · have RX : Hid (∀ W, Calls Tryd.prog 8 #[.int .i64 A, .int .i64 0, .int .i64 n] W (Rets W X)) := fun W => by
            have := refHas_any A 0 n HBD.out.1 HBD.out.2 (by omega) W
            rwa [show hasB A 0 n = X by rw [← HX.out, decide_eq_true h1, Bool.true_and]] at this
          go_wp2_with fail
          generalize hw5 : World.alloc W4 _ = W5
          have hb45 : Below W4.heap.size W4 W5 := by rw [← hw5]; exact below_a1 _ _
          have BS : Hid (W5.heap[W4.heap.size]? = some (.cells #[.slice a0 m0 x0, .slice a1 m1 x1] 28 (0, 0))) := by show _ = _; rw [← hw5]; exact heap_alloc_new _ _
          replace T := Lib.hid (tot_keep T.out hb45)
          replace BX := Lib.hid (blk_keep BX.out hb45)
          replace SS := Lib.hid (SS.out.keep hb45)
          clear hw5 c0 c1 clt
          have c0 : W5.cell? ⟨w.heap.size, 0, none⟩ = some (.int .i64 A) := cell_of_block BX.out 0
          have c1 : W5.cell? ⟨w.heap.size, 1, none⟩ = some (.int .i64 0) := cell_of_block BX.out 1
          have d0 : W5.cell? ⟨W4.heap.size, 0, none⟩ = some (.slice a0 m0 x0) := cell_of_block BS.out 0
          have d1 : W5.cell? ⟨W4.heap.size, 1, none⟩ = some (.slice a1 m1 x1) := cell_of_block BS.out 1
          refine (HASC.out _ SS.out).mono ?_
          rintro e W6 ⟨rfl, hb⟩
          replace T := Lib.hid (tot_keep T.out hb)
          replace BX := Lib.hid (blk_keep BX.out hb)
          clear c0 c1 d0 d1 hb HASC SS BS
          have c0 : W6.cell? ⟨w.heap.size, 0, none⟩ = some (.int .i64 A) := cell_of_block BX.out 0
          have c1 : W6.cell? ⟨w.heap.size, 1, none⟩ = some (.int .i64 0) := cell_of_block BX.out 1
          go_wp2_with fail
          refine (RX.out _).mono ?_
          rintro e W7 ⟨rfl, rfl⟩
          go_wp2
          go_ret
          exact ⟨rfl, T.out⟩
        · have X0 : X = false := by rw [← HX.out, decide_eq_false h1]; rfl
          subst X0
          have h2 : n < 1 := by omega
          go_wp2_with fail
          generalize hw5 : World.alloc W4 _ = W5
          have hb45 : Below W4.heap.size W4 W5 := by rw [← hw5]; exact below_a1 _ _
          have BS : Hid (W5.heap[W4.heap.size]? = some (.cells #[.slice a0 m0 x0, .slice a1 m1 x1] 28 (0, 0))) := by show _ = _; rw [← hw5]; exact heap_alloc_new _ _
          replace T := Lib.hid (tot_keep T.out hb45)
          replace BX := Lib.hid (blk_keep BX.out hb45)
          replace SS := Lib.hid (SS.out.keep hb45)
          clear hw5 c0 c1 clt
          have c0 : W5.cell? ⟨w.heap.size, 0, none⟩ = some (.int .i64 A) := cell_of_block BX.out 0
          have c1 : W5.cell? ⟨w.heap.size, 1, none⟩ = some (.int .i64 0) := cell_of_block BX.out 1
          have d0 : W5.cell? ⟨W4.heap.size, 0, none⟩ = some (.slice a0 m0 x0) := cell_of_block BS.out 0
          have d1 : W5.cell? ⟨W4.heap.size, 1, none⟩ = some (.slice a1 m1 x1) := cell_of_block BS.out 1
          refine (HASC.out _ SS.out).mono ?_
          rintro e W6 ⟨rfl, hb⟩
          replace T := Lib.hid (tot_keep T.out hb)
          clear c0 c1 d0 d1 hb HASC SS BS BX
          go_wp2
          go_ret
          exact ⟨rfl, T.out⟩
      · exfalso
        have h1 := HD.out
        have h2 := RD.out
        split at h1 <;> split at h2 <;> omega

    · skip
      rcases HCASE.out with ⟨rfl, hq⟩ | ⟨hbig, b, rfl, hblk⟩
      · have HASX : (decide (1 ≤ n) && sq h r (n - 1).toNat) = X := by
          rw [← HX.out]
          by_cases h1 : 1 ≤ n
          · rw [decide_eq_true h1, Bool.true_and, Bool.true_and, hq]; congr 1; omega
          · rw [decide_eq_false h1]; rfl
        have HASC : Hid (∀ W, SetAt 0 W (.agg #[.slice a0 m0 x0, .slice a1 m1 x1]) h r → Calls Tryd.prog 7 #[.agg #[.slice a0 m0 x0, .slice a1 m1 x1], .int .i64 n] W (RetB W X)) := fun W hs => by
          have := hasSet_any _ 0 h r n W hs N1.out n2 hh hr
          rwa [HASX] at this
        clear HASX hq
        have xx : (X == X) = true := by simp
        by_cases h1 : 1 ≤ n
        · have RX : Hid (∀ W, Calls Tryd.prog 8 #[.int .i64 A, .int .i64 B, .int .i64 n] W (Rets W X)) := fun W => by
            have := refHas_any A B n HBD.out.1 HBD.out.2 (by omega) W
            rwa [show hasB A B n = X by rw [← HX.out, decide_eq_true h1, Bool.true_and]] at this
          go_wp2_with fail
          generalize hw5 : World.alloc W4 _ = W5
          have hb45 : Below W4.heap.size W4 W5 := by rw [← hw5]; exact below_a1 _ _
          have BS : Hid (W5.heap[W4.heap.size]? = some (.cells #[.slice a0 m0 x0, .slice a1 m1 x1] 28 (0, 0))) := by show _ = _; rw [← hw5]; exact heap_alloc_new _ _
          replace T := Lib.hid (tot_keep T.out hb45)
          replace BX := Lib.hid (blk_keep BX.out hb45)
          replace SS := Lib.hid (SS.out.keep hb45)
          clear hw5 c0 c1 clt
          have c0 : W5.cell? ⟨w.heap.size, 0, none⟩ = some (.int .i64 A) := cell_of_block BX.out 0
          have c1 : W5.cell? ⟨w.heap.size, 1, none⟩ = some (.int .i64 B) := cell_of_block BX.out 1
          have d0 : W5.cell? ⟨W4.heap.size, 0, none⟩ = some (.slice a0 m0 x0) := cell_of_block BS.out 0
          have d1 : W5.cell? ⟨W4.heap.size, 1, none⟩ = some (.slice a1 m1 x1) := cell_of_block BS.out 1
          refine (HASC.out _ SS.out).mono ?_
          rintro e W6 ⟨rfl, hb⟩
          replace T := Lib.hid (tot_keep T.out hb)
          replace BX := Lib.hid (blk_keep BX.out hb)
          clear c0 c1 d0 d1 hb HASC SS BS
          have c0 : W6.cell? ⟨w.heap.size, 0, none⟩ = some (.int .i64 A) := cell_of_block BX.out 0
          have c1 : W6.cell? ⟨w.heap.size, 1, none⟩ = some (.int .i64 B) := cell_of_block BX.out 1
          go_wp2_with fail
          refine (RX.out _).mono ?_
          rintro e W7 ⟨rfl, rfl⟩
          go_wp2
          go_ret
          exact ⟨rfl, T.out⟩
        · have X0 : X = false := by rw [← HX.out, decide_eq_false h1]; rfl
          subst X0
          have h2 : n < 1 := by omega
          go_wp2_with fail
          generalize hw5 : World.alloc W4 _ = W5
          have hb45 : Below W4.heap.size W4 W5 := by rw [← hw5]; exact below_a1 _ _
          have BS : Hid (W5.heap[W4.heap.size]? = some (.cells #[.slice a0 m0 x0, .slice a1 m1 x1] 28 (0, 0))) := by show _ = _; rw [← hw5]; exact heap_alloc_new _ _
          replace T := Lib.hid (tot_keep T.out hb45)
          replace BX := Lib.hid (blk_keep BX.out hb45)
          replace SS := Lib.hid (SS.out.keep hb45)
          clear hw5 c0 c1 clt
          have c0 : W5.cell? ⟨w.heap.size, 0, none⟩ = some (.int .i64 A) := cell_of_block BX.out 0
          have c1 : W5.cell? ⟨w.heap.size, 1, none⟩ = some (.int .i64 B) := cell_of_block BX.out 1
          have d0 : W5.cell? ⟨W4.heap.size, 0, none⟩ = some (.slice a0 m0 x0) := cell_of_block BS.out 0
          have d1 : W5.cell? ⟨W4.heap.size, 1, none⟩ = some (.slice a1 m1 x1) := cell_of_block BS.out 1
          refine (HASC.out _ SS.out).mono ?_
          rintro e W6 ⟨rfl, hb⟩
          replace T := Lib.hid (tot_keep T.out hb)
          clear c0 c1 d0 d1 hb HASC SS BS BX
          go_wp2
          go_ret
          exact ⟨rfl, T.out⟩
      · exfalso
        have h1 := HD.out
        have h2 := RD.out
        split at h1 <;> split at h2 <;> omega

theorem nthOver_any (w : World) (A B n : Int) (hg : ErrVar w) (n1 : -9223372036854775808 ≤ n) : Calls Tryd.prog 3 #[.agg #[.int .i64 A, .int .i64 B], .int .i64 n] w (RetB w true) := by
  by_cases h : smallB A B 1099511627776 = false ∨ 1099511627776 < n
  · exact over_no w A B n h
  · exact over_walk w A B n hg (by cases hs : smallB A B 1099511627776 with | true => rfl | false => exact absurd (Or.inl hs) h) n1 (by omega) _ rfl
end Go.Proofs.YtlbffpojdfhefaaDoor
