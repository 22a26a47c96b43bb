/- Walk of the law NthMorgan. -/
import Derived.Test.YtlbffpojdfhefaaNthW
import Derived.Deep.DeepCutAuto
namespace Go.Proofs.Ytlbffpojdfhefaa
open Go.RowKit
attribute [local go_sem ↓] Go.wp_at_zero Go.wp_at_succ
theorem nthMorgan_no1 (w : World) (A B C D : Int) (hsA : smallB A B 12 = false) : Calls Try.prog 4 #[.agg #[.int .i64 A, .int .i64 B], .agg #[.int .i64 C, .int .i64 D]] w (RetB w true) := by
  go_enter Try.func4, Try.ntmps4
  go_wp2_with fail
  generalize hw1 : World.alloc (World.alloc w _) _ = W1
  have hf1 := alloc2_facts hw1
  have T := Lib.hid hf1.1
  have BX := Lib.hid hf1.2.1
  have BY := Lib.hid hf1.2.2
  clear hw1 hf1
  refine (speaks_any _).mono ?_
  rintro e W2 ⟨rfl, hb⟩
  replace T := Lib.hid (tot_keep T.out hb)
  replace BX := Lib.hid (blk_keep BX.out hb)
  replace BY := Lib.hid (blk_keep BY.out hb)
  clear hb
  clear W1
  have cBX0 := cell_of_block BX.out 0
  have cBX1 := cell_of_block BX.out 1
  have cBXlt := lt_of_block BX.out
  rw [arr_get0] at cBX0
  rw [arr_get1] at cBX1
  have hsm := small_any A B 12 (by omega) (by omega) W2
  rw [hsA] at hsm
  have HSM := Lib.hid hsm
  clear hsm
  go_wp2_with fail
  refine (HSM.out).mono ?_
  rintro e W3 ⟨rfl, hb⟩
  clear cBX0 cBX1 cBXlt HSM
  replace T := Lib.hid (tot_keep T.out hb)
  replace BX := Lib.hid (blk_keep BX.out hb)
  replace BY := Lib.hid (blk_keep BY.out hb)
  clear hb
  go_wp2
  go_ret
  exact ⟨rfl, T.out⟩
theorem nthMorgan_no2 (w : World) (A B C D : Int) (hsA : smallB A B 12 = true) (hsC : smallB C D 12 = false) : Calls Try.prog 4 #[.agg #[.int .i64 A, .int .i64 B], .agg #[.int .i64 C, .int .i64 D]] w (RetB w true) := by
  go_enter Try.func4, Try.ntmps4
  go_wp2_with fail
  generalize hw1 : World.alloc (World.alloc w _) _ = W1
  have hf1 := alloc2_facts hw1
  have T := Lib.hid hf1.1
  have BX := Lib.hid hf1.2.1
  have BY := Lib.hid hf1.2.2
  clear hw1 hf1
  refine (speaks_any _).mono ?_
  rintro e W2 ⟨rfl, hb⟩
  replace T := Lib.hid (tot_keep T.out hb)
  replace BX := Lib.hid (blk_keep BX.out hb)
  replace BY := Lib.hid (blk_keep BY.out hb)
  clear hb
  clear W1
  have cBX0 := cell_of_block BX.out 0
  have cBX1 := cell_of_block BX.out 1
  have cBXlt := lt_of_block BX.out
  rw [arr_get0] at cBX0
  rw [arr_get1] at cBX1
  have hsm := small_any A B 12 (by omega) (by omega) W2
  rw [hsA] at hsm
  have HSM := Lib.hid hsm
  clear hsm
  go_wp2_with fail
  refine (HSM.out).mono ?_
  rintro e W3 ⟨rfl, hb⟩
  clear cBX0 cBX1 cBXlt HSM
  replace T := Lib.hid (tot_keep T.out hb)
  replace BX := Lib.hid (blk_keep BX.out hb)
  replace BY := Lib.hid (blk_keep BY.out hb)
  clear hb
  have cBY0 := cell_of_block BY.out 0
  have cBY1 := cell_of_block BY.out 1
  have cBYlt := lt_of_block BY.out
  rw [arr_get0] at cBY0
  rw [arr_get1] at cBY1
  have hsm := small_any C D 12 (by omega) (by omega) W3
  rw [hsC] at hsm
  have HSM := Lib.hid hsm
  clear hsm
  go_wp2_with fail
  refine (HSM.out).mono ?_
  rintro e W4 ⟨rfl, hb⟩
  clear cBY0 cBY1 cBYlt HSM
  replace T := Lib.hid (tot_keep T.out hb)
  replace BX := Lib.hid (blk_keep BX.out hb)
  replace BY := Lib.hid (blk_keep BY.out hb)
  clear hb
  go_wp2
  go_ret
  exact ⟨rfl, T.out⟩
set_option maxHeartbeats 4000000 in
set_option maxRecDepth 8000 in
theorem nthMorgan_walk (w : World) (A B C D : Int) (hsA : smallB A B 12 = true) (hsC : smallB C D 12 = true) : Calls Try.prog 4 #[.agg #[.int .i64 A, .int .i64 B], .agg #[.int .i64 C, .int .i64 D]] w (RetB w true) := by
  go_enter Try.func4, Try.ntmps4
  go_wp2_with fail
  generalize hw1 : World.alloc (World.alloc w _) _ = W1
  have hf1 := alloc2_facts hw1
  have T := Lib.hid hf1.1
  have BX := Lib.hid hf1.2.1
  have BY := Lib.hid hf1.2.2
  clear hw1 hf1
  refine (speaks_any _).mono ?_
  rintro e W2 ⟨rfl, hb⟩
  replace T := Lib.hid (tot_keep T.out hb)
  replace BX := Lib.hid (blk_keep BX.out hb)
  replace BY := Lib.hid (blk_keep BY.out hb)
  clear hb
  clear W1
  have cBX0 := cell_of_block BX.out 0
  have cBX1 := cell_of_block BX.out 1
  have cBXlt := lt_of_block BX.out
  rw [arr_get0] at cBX0
  rw [arr_get1] at cBX1
  have hsm := small_any A B 12 (by omega) (by omega) W2
  rw [hsA] at hsm
  have HSM := Lib.hid hsm
  clear hsm
  go_wp2_with fail
  refine (HSM.out).mono ?_
  rintro e W3 ⟨rfl, hb⟩
  clear cBX0 cBX1 cBXlt HSM
  replace T := Lib.hid (tot_keep T.out hb)
  replace BX := Lib.hid (blk_keep BX.out hb)
  replace BY := Lib.hid (blk_keep BY.out hb)
  clear hb
  have cBY0 := cell_of_block BY.out 0
  have cBY1 := cell_of_block BY.out 1
  have cBYlt := lt_of_block BY.out
  rw [arr_get0] at cBY0
  rw [arr_get1] at cBY1
  have hsm := small_any C D 12 (by omega) (by omega) W3
  rw [hsC] at hsm
  have HSM := Lib.hid hsm
  clear hsm
  go_wp2_with fail
  refine (HSM.out).mono ?_
  rintro e W4 ⟨rfl, hb⟩
  clear cBY0 cBY1 cBYlt HSM
  replace T := Lib.hid (tot_keep T.out hb)
  replace BX := Lib.hid (blk_keep BX.out hb)
  replace BY := Lib.hid (blk_keep BY.out hb)
  clear hb
  have cBX0 := cell_of_block BX.out 0
  have cBX1 := cell_of_block BX.out 1
  have cBXlt := lt_of_block BX.out
  rw [arr_get0] at cBX0
  rw [arr_get1] at cBX1
  go_wp2_with fail
  refine (of_small A B _ hsA).mono ?_
  rintro e W5 ⟨a0, m0, c0, a1, m1, c1, h, r, rfl, s1, ⟨p1, p2, p3⟩, hb⟩
  clear cBX0 cBX1 cBXlt
  replace T := Lib.hid (tot_keep T.out hb)
  replace BX := Lib.hid (blk_keep BX.out hb)
  replace BY := Lib.hid (blk_keep BY.out hb)
  clear hb
  have SS := Lib.hid (s1)
  have CS := Lib.hid (p1)
  have ES := Lib.hid (p2)
  have ZS := Lib.hid (p3)
  clear s1 p1 p2 p3
  have cBY0 := cell_of_block BY.out 0
  have cBY1 := cell_of_block BY.out 1
  have cBYlt := lt_of_block BY.out
  rw [arr_get0] at cBY0
  rw [arr_get1] at cBY1
  go_wp2_with fail
  clear cBY0 cBY1 cBYlt
  generalize hgen1 : World.alloc _ _ = W6
  have hal1 := alloc_facts hgen1
  have BS := Lib.hid hal1.2.1
  have hbal1 := hal1.1
  clear hgen1 hal1
  replace T := Lib.hid (tot_keep T.out hbal1)
  replace BX := Lib.hid (blk_keep BX.out hbal1)
  replace BY := Lib.hid (blk_keep BY.out hbal1)
  replace SS := Lib.hid (SS.out.keep hbal1)
  clear hbal1
  refine (of_small C D _ hsC).mono ?_
  rintro e W7 ⟨a2, m2, c2, a3, m3, c3, h', r', rfl, s1, ⟨p1, p2, p3⟩, hb⟩
  replace T := Lib.hid (tot_keep T.out hb)
  replace BX := Lib.hid (blk_keep BX.out hb)
  replace BY := Lib.hid (blk_keep BY.out hb)
  replace SS := Lib.hid (SS.out.keep hb)
  replace BS := Lib.hid (blk_keep BS.out hb)
  clear hb
  have SU := Lib.hid (s1)
  have CU := Lib.hid (p1)
  have EU := Lib.hid (p2)
  have ZU := Lib.hid (p3)
  clear s1 p1 p2 p3
  have cBS0 := cell_of_block BS.out 0
  have cBS1 := cell_of_block BS.out 1
  have cBSlt := lt_of_block BS.out
  rw [arr_get0] at cBS0
  rw [arr_get1] at cBS1
  go_wp2_with fail
  clear cBS0 cBS1 cBSlt
  generalize hgen2 : World.alloc _ _ = W8
  have hal2 := alloc_facts hgen2
  have BT := Lib.hid hal2.2.1
  have hbal2 := hal2.1
  clear hgen2 hal2
  replace T := Lib.hid (tot_keep T.out hbal2)
  replace BX := Lib.hid (blk_keep BX.out hbal2)
  replace BY := Lib.hid (blk_keep BY.out hbal2)
  replace SS := Lib.hid (SS.out.keep hbal2)
  replace BS := Lib.hid (blk_keep BS.out hbal2)
  replace SU := Lib.hid (SU.out.keep hbal2)
  clear hbal2
  refine (union_small _ _ h r h' r' _ SS.out SU.out ZS.out ZU.out).mono ?_
  rintro e W9 ⟨a4, m4, c4, a5, m5, c5, hu, ru, rfl, s1, ⟨p1, p2, p3, p4⟩, hb⟩
  replace T := Lib.hid (tot_keep T.out hb)
  replace BX := Lib.hid (blk_keep BX.out hb)
  replace BY := Lib.hid (blk_keep BY.out hb)
  replace SS := Lib.hid (SS.out.keep hb)
  replace BS := Lib.hid (blk_keep BS.out hb)
  replace SU := Lib.hid (SU.out.keep hb)
  replace BT := Lib.hid (blk_keep BT.out hb)
  clear hb
  have SUN := Lib.hid (s1)
  have CUN := Lib.hid p1
  have EUN := Lib.hid p2
  have ZUN := Lib.hid (And.intro p3 p4)
  clear s1 p1 p2 p3 p4
  go_wp2_with fail
  generalize hgen3 : World.alloc _ _ = W10
  have hal3 := alloc_facts hgen3
  have BUN := Lib.hid hal3.2.1
  have hbal3 := hal3.1
  clear hgen3 hal3
  replace T := Lib.hid (tot_keep T.out hbal3)
  replace BX := Lib.hid (blk_keep BX.out hbal3)
  replace BY := Lib.hid (blk_keep BY.out hbal3)
  replace SS := Lib.hid (SS.out.keep hbal3)
  replace BS := Lib.hid (blk_keep BS.out hbal3)
  replace SU := Lib.hid (SU.out.keep hbal3)
  replace BT := Lib.hid (blk_keep BT.out hbal3)
  replace SUN := Lib.hid (SUN.out.keep hbal3)
  clear hbal3
  have KS : Hid (∀ W, Below W10.heap.size W10 W → W.cell? ⟨W5.heap.size, 0, none⟩ = some (.slice a0 m0 c0) ∧ W.cell? ⟨W5.heap.size, 1, none⟩ = some (.slice a1 m1 c1) ∧ W.cell? ⟨W7.heap.size, 0, none⟩ = some (.slice a2 m2 c2) ∧ W.cell? ⟨W7.heap.size, 1, none⟩ = some (.slice a3 m3 c3)) := by
    intro W hb
    exact ⟨cell_of_block (blk_keep BS.out hb) 0, cell_of_block (blk_keep BS.out hb) 1, cell_of_block (blk_keep BT.out hb) 0, cell_of_block (blk_keep BT.out hb) 1⟩
  have NS : Hid (∀ W, Below W10.heap.size W10 W → Calls Try.prog 17 #[.agg #[.slice a0 m0 c0, .slice a1 m1 c1]] W fun e w' => ∃ a m c a' m' c' h2 r2, e = .returned (.agg #[.slice a m c, .slice a' m' c']) ∧ SetAt 0 w' (.agg #[.slice a m c, .slice a' m' c']) h2 r2 ∧ (Canon h2 r2 ∧ (∀ k, sq h2 r2 k = !sq h r k) ∧ Small h2 r2) ∧ Below W.heap.size W w') := fun W hb => not_small2 _ h r W (SS.out.keep hb) ZS.out
  have NT : Hid (∀ W, Below W10.heap.size W10 W → Calls Try.prog 17 #[.agg #[.slice a2 m2 c2, .slice a3 m3 c3]] W fun e w' => ∃ a m c a' m' c' h2 r2, e = .returned (.agg #[.slice a m c, .slice a' m' c']) ∧ SetAt 0 w' (.agg #[.slice a m c, .slice a' m' c']) h2 r2 ∧ (Canon h2 r2 ∧ (∀ k, sq h2 r2 k = !sq h' r' k) ∧ Small h2 r2) ∧ Below W.heap.size W w') := fun W hb => not_small2 _ h' r' W (SU.out.keep hb) ZU.out
  go_upto_region 8 with fail
  go_cut [11, 12] (fun s11 s12 wx => ∃ b a6 m6 c6 a7 m7 c7 hv rv, s11 = .pointer (some ⟨b, 0, none⟩) ∧ s12 = .nilIface ∧ wx.heap[b]? = some (Obj.cells #[.slice a6 m6 c6, .slice a7 m7 c7] 34 (0, 0)) ∧ SetAt 0 wx (.agg #[.slice a6 m6 c6, .slice a7 m7 c7]) hv rv ∧ (Canon hv rv ∧ (∀ k, sq hv rv k = !sq hu ru k) ∧ hv.length ≤ 12 ∧ rv.length ≤ 144) ∧ Below W10.heap.size W10 wx)
  case first =>
    go_region_held3 (fun W => W.cell? ⟨W5.heap.size, 0, none⟩ = some (.slice a0 m0 c0) ∧ W.cell? ⟨W5.heap.size, 1, none⟩ = some (.slice a1 m1 c1) ∧ W.cell? ⟨W7.heap.size, 0, none⟩ = some (.slice a2 m2 c2) ∧ W.cell? ⟨W7.heap.size, 1, none⟩ = some (.slice a3 m3 c3))
      (exact KS.out _ (by (repeat (first | with_reducible exact Below.refl _ _ | with_reducible refine below_drew' ?_ | with_reducible refine below_alloc' _ ?_ | with_reducible refine below_setCell' _ _ ?_ ?_ | with_reducible refine below_step' ?_ (by assumption)))))
      (first
       | (go_at_call 17; (with_reducible (refine (NS.out _ (by (repeat (first | with_reducible exact Below.refl _ _ | with_reducible refine below_drew' ?_ | with_reducible refine below_alloc' _ ?_ | with_reducible refine below_setCell' _ _ ?_ ?_ | with_reducible refine below_step' ?_ (by assumption))))).mono ?_)); rintro e wa ⟨na0, nm0, nc0, na1, nm1, nc1, hn, rn, rfl, sna, pn, hba⟩; have PN := Lib.hid pn; clear pn)
       | (go_at_call 17; (with_reducible (refine (NT.out _ (by (repeat (first | with_reducible exact Below.refl _ _ | with_reducible refine below_drew' ?_ | with_reducible refine below_alloc' _ ?_ | with_reducible refine below_setCell' _ _ ?_ ?_ | with_reducible refine below_step' ?_ (by assumption))))).mono ?_)); rintro e wb ⟨ma0, mm0, mc0, ma1, mm1, mc1, hn', rn', rfl, tna, pn', hbb⟩; have PN' := Lib.hid pn'; clear pn')
       | (go_at_call 16; (with_reducible (refine (inter_smallF _ _ hn rn hn' rn' _ (SetAt.keep sna (by (repeat (first | with_reducible exact Below.refl _ _ | with_reducible refine below_drew' ?_ | with_reducible refine below_alloc' _ ?_ | with_reducible refine below_setCell' _ _ ?_ ?_ | with_reducible refine below_step' ?_ (by assumption))))) (SetAt.keep tna (by (repeat (first | with_reducible exact Below.refl _ _ | with_reducible refine below_drew' ?_ | with_reducible refine below_alloc' _ ?_ | with_reducible refine below_setCell' _ _ ?_ ?_ | with_reducible refine below_step' ?_ (by assumption))))) PN.out.2.2 PN'.out.2.2).mono ?_)); rintro e W11 ⟨a6, m6, c6, a7, m7, c7, hv, rv, rfl, s1, p1, hbc⟩; have SVI := Lib.hid s1; have PVI := Lib.hid p1; clear s1 p1; try (have AV := var_facts2 hbc (by (repeat (first | with_reducible exact Below.refl _ _ | with_reducible refine below_drew' ?_ | with_reducible refine below_alloc' _ ?_ | with_reducible refine below_setCell' _ _ ?_ ?_ | with_reducible refine below_step' ?_ (by assumption)))); have AV0 := cell_of_block AV.1 0; have AV1 := cell_of_block AV.1 1; have AVF := free_of_block AV.1; rw [arr_get0] at AV0; rw [arr_get1] at AV1)))
    all_goals (go_wp2_with fail)
    all_goals go_meet
    all_goals have PVE : Canon hv rv ∧ (∀ k, sq hv rv k = !sq hu ru k) ∧ hv.length ≤ 12 ∧ rv.length ≤ 144 := ⟨PVI.out.1, fun k => by rw [PVI.out.2.1, PN.out.2.1, PN'.out.2.1, EUN.out, Bool.not_or], PVI.out.2.2⟩
    all_goals (first
      | exact ⟨_, a6, m6, c6, a7, m7, c7, hv, rv, rfl, rfl, (store_two AV SVI.out).1, (store_two AV SVI.out).2, PVE, by (repeat (first | with_reducible exact Below.refl _ _ | with_reducible refine below_drew' ?_ | with_reducible refine below_alloc' _ ?_ | with_reducible refine below_setCell' _ _ ?_ ?_ | with_reducible refine below_step' ?_ (by assumption)))⟩
      | exact ⟨_, a6, m6, c6, a7, m7, c7, hv, rv, rfl, rfl, heap_alloc_new _ _, (SVI.out.keep (below_a1 _ _)).mono (Nat.zero_le _), PVE, by (repeat (first | with_reducible exact Below.refl _ _ | with_reducible refine below_drew' ?_ | with_reducible refine below_alloc' _ ?_ | with_reducible refine below_setCell' _ _ ?_ ?_ | with_reducible refine below_step' ?_ (by assumption)))⟩)
  case rest =>
    obtain ⟨b11, a6, m6, c6, a7, m7, c7, hv, rv, rfl, rfl, BVI, s1, p1, hb⟩ := hcut
    clear KS NS NT
    replace T := Lib.hid (tot_keep T.out hb)
    replace BX := Lib.hid (blk_keep BX.out hb)
    replace BY := Lib.hid (blk_keep BY.out hb)
    replace SS := Lib.hid (SS.out.keep hb)
    replace BS := Lib.hid (blk_keep BS.out hb)
    replace SU := Lib.hid (SU.out.keep hb)
    replace BT := Lib.hid (blk_keep BT.out hb)
    replace SUN := Lib.hid (SUN.out.keep hb)
    replace BUN := Lib.hid (blk_keep BUN.out hb)
    clear hb
    have SVI := Lib.hid s1
    have PVI := Lib.hid p1
    clear s1 p1
    replace BVI := Lib.hid BVI
    have cBS0 := cell_of_block BS.out 0
    have cBS1 := cell_of_block BS.out 1
    have cBSlt := lt_of_block BS.out
    rw [arr_get0] at cBS0
    rw [arr_get1] at cBS1
    have cBT0 := cell_of_block BT.out 0
    have cBT1 := cell_of_block BT.out 1
    have cBTlt := lt_of_block BT.out
    rw [arr_get0] at cBT0
    rw [arr_get1] at cBT1
    go_wp2_with fail
    clear cBS0 cBS1 cBSlt cBT0 cBT1 cBTlt
    refine (inter_smallF _ _ h r h' r' _ SS.out SU.out ZS.out ZU.out).mono ?_
    rintro e W13 ⟨a8, m8, c8, a9, m9, c9, hw, rw', rfl, s1, ⟨p1, p2, p3, p4⟩, hb⟩
    have s1 := s1.mono (Nat.zero_le _)
    replace T := Lib.hid (tot_keep T.out hb)
    replace BX := Lib.hid (blk_keep BX.out hb)
    replace BY := Lib.hid (blk_keep BY.out hb)
    replace SS := Lib.hid (SS.out.keep hb)
    replace BS := Lib.hid (blk_keep BS.out hb)
    replace SU := Lib.hid (SU.out.keep hb)
    replace BT := Lib.hid (blk_keep BT.out hb)
    replace SUN := Lib.hid (SUN.out.keep hb)
    replace BUN := Lib.hid (blk_keep BUN.out hb)
    replace SVI := Lib.hid (SVI.out.keep hb)
    replace BVI := Lib.hid (blk_keep BVI.out hb)
    clear hb
    have SW := Lib.hid (s1)
    have CW := Lib.hid p1
    have EW := Lib.hid p2
    have ZW := Lib.hid (And.intro p3 p4)
    clear s1 p1 p2 p3 p4
    have cBS0 := cell_of_block BS.out 0
    have cBS1 := cell_of_block BS.out 1
    have cBSlt := lt_of_block BS.out
    rw [arr_get0] at cBS0
    rw [arr_get1] at cBS1
    go_wp2_with fail
    clear cBS0 cBS1 cBSlt
    generalize hgen4 : World.alloc _ _ = W14
    have hal4 := alloc_facts hgen4
    have BW := Lib.hid hal4.2.1
    have hbal4 := hal4.1
    clear hgen4 hal4
    replace T := Lib.hid (tot_keep T.out hbal4)
    replace BX := Lib.hid (blk_keep BX.out hbal4)
    replace BY := Lib.hid (blk_keep BY.out hbal4)
    replace SS := Lib.hid (SS.out.keep hbal4)
    replace BS := Lib.hid (blk_keep BS.out hbal4)
    replace SU := Lib.hid (SU.out.keep hbal4)
    replace BT := Lib.hid (blk_keep BT.out hbal4)
    replace SUN := Lib.hid (SUN.out.keep hbal4)
    replace BUN := Lib.hid (blk_keep BUN.out hbal4)
    replace SVI := Lib.hid (SVI.out.keep hbal4)
    replace BVI := Lib.hid (blk_keep BVI.out hbal4)
    replace SW := Lib.hid (SW.out.keep hbal4)
    clear hbal4
    refine (union_wide _ _ h r hw rw' _ SS.out SW.out ZS.out CW.out ZW.out).mono ?_
    rintro e W15 ⟨aA, mA, cA, aB, mB, cB, hk, rk, rfl, s1, ⟨p1, p2⟩, hb⟩
    have s1 := s1.mono (Nat.zero_le _)
    replace T := Lib.hid (tot_keep T.out hb)
    replace BX := Lib.hid (blk_keep BX.out hb)
    replace BY := Lib.hid (blk_keep BY.out hb)
    replace SS := Lib.hid (SS.out.keep hb)
    replace BS := Lib.hid (blk_keep BS.out hb)
    replace SU := Lib.hid (SU.out.keep hb)
    replace BT := Lib.hid (blk_keep BT.out hb)
    replace SUN := Lib.hid (SUN.out.keep hb)
    replace BUN := Lib.hid (blk_keep BUN.out hb)
    replace SVI := Lib.hid (SVI.out.keep hb)
    replace BVI := Lib.hid (blk_keep BVI.out hb)
    replace SW := Lib.hid (SW.out.keep hb)
    replace BW := Lib.hid (blk_keep BW.out hb)
    clear hb
    have SK := Lib.hid (s1)
    have CK := Lib.hid p1
    have EK := Lib.hid p2
    clear s1 p1 p2
    go_wp2_with fail
    generalize hgen5 : World.alloc _ _ = W16
    have hal5 := alloc_facts hgen5
    have BK := Lib.hid hal5.2.1
    have hbal5 := hal5.1
    clear hgen5 hal5
    replace T := Lib.hid (tot_keep T.out hbal5)
    replace BX := Lib.hid (blk_keep BX.out hbal5)
    replace BY := Lib.hid (blk_keep BY.out hbal5)
    replace SS := Lib.hid (SS.out.keep hbal5)
    replace BS := Lib.hid (blk_keep BS.out hbal5)
    replace SU := Lib.hid (SU.out.keep hbal5)
    replace BT := Lib.hid (blk_keep BT.out hbal5)
    replace SUN := Lib.hid (SUN.out.keep hbal5)
    replace BUN := Lib.hid (blk_keep BUN.out hbal5)
    replace SVI := Lib.hid (SVI.out.keep hbal5)
    replace BVI := Lib.hid (blk_keep BVI.out hbal5)
    replace SW := Lib.hid (SW.out.keep hbal5)
    replace BW := Lib.hid (blk_keep BW.out hbal5)
    replace SK := Lib.hid (SK.out.keep hbal5)
    clear hbal5
    have KS : Hid (∀ W, Below W16.heap.size W16 W → W.cell? ⟨W5.heap.size, 0, none⟩ = some (.slice a0 m0 c0) ∧ W.cell? ⟨W5.heap.size, 1, none⟩ = some (.slice a1 m1 c1)) := by
      intro W hb
      exact ⟨cell_of_block (blk_keep BS.out hb) 0, cell_of_block (blk_keep BS.out hb) 1⟩
    have NS : Hid (∀ W, Below W16.heap.size W16 W → Calls Try.prog 17 #[.agg #[.slice a0 m0 c0, .slice a1 m1 c1]] W fun e w' => ∃ a m c a' m' c' h2 r2, e = .returned (.agg #[.slice a m c, .slice a' m' c']) ∧ SetAt 0 w' (.agg #[.slice a m c, .slice a' m' c']) h2 r2 ∧ (Canon h2 r2 ∧ (∀ k, sq h2 r2 k = !sq h r k) ∧ Small h2 r2) ∧ Below W.heap.size W w') := fun W hb => not_small2 _ h r W (SS.out.keep hb) ZS.out
    have SS16 : Hid (∀ W, Below W16.heap.size W16 W → SetAt 0 W (.agg #[.slice a0 m0 c0, .slice a1 m1 c1]) h r) := fun W hb => SS.out.keep hb
    go_upto_region 11 with fail
    go_cut [17, 18] (fun s17 s18 wx => ∃ b a6 m6 c6 a7 m7 c7 hv rv, s17 = .pointer (some ⟨b, 0, none⟩) ∧ s18 = .nilIface ∧ wx.heap[b]? = some (Obj.cells #[.slice a6 m6 c6, .slice a7 m7 c7] 34 (0, 0)) ∧ SetAt 0 wx (.agg #[.slice a6 m6 c6, .slice a7 m7 c7]) hv rv ∧ (Canon hv rv ∧ (∀ k, sq hv rv k = true)) ∧ Below W16.heap.size W16 wx)
    case first =>
      go_region_held3 (fun W => W.cell? ⟨W5.heap.size, 0, none⟩ = some (.slice a0 m0 c0) ∧ W.cell? ⟨W5.heap.size, 1, none⟩ = some (.slice a1 m1 c1))
        (exact KS.out _ (by (repeat (first | with_reducible exact Below.refl _ _ | with_reducible refine below_drew' ?_ | with_reducible refine below_alloc' _ ?_ | with_reducible refine below_setCell' _ _ ?_ ?_ | with_reducible refine below_step' ?_ (by assumption)))))
        (first
         | (go_at_call 17; (with_reducible (refine (NS.out _ (by (repeat (first | with_reducible exact Below.refl _ _ | with_reducible refine below_drew' ?_ | with_reducible refine below_alloc' _ ?_ | with_reducible refine below_setCell' _ _ ?_ ?_ | with_reducible refine below_step' ?_ (by assumption))))).mono ?_)); rintro e wa ⟨na0, nm0, nc0, na1, nm1, nc1, hn, rn, rfl, sna, pn, hba⟩; have PN := Lib.hid pn; clear pn)
         | (go_at_call 15; (with_reducible (refine (union_smallF _ _ h r hn rn _ (SS16.out _ (by (repeat (first | with_reducible exact Below.refl _ _ | with_reducible refine below_drew' ?_ | with_reducible refine below_alloc' _ ?_ | with_reducible refine below_setCell' _ _ ?_ ?_ | with_reducible refine below_step' ?_ (by assumption))))) (SetAt.keep sna (by (repeat (first | with_reducible exact Below.refl _ _ | with_reducible refine below_drew' ?_ | with_reducible refine below_alloc' _ ?_ | with_reducible refine below_setCell' _ _ ?_ ?_ | with_reducible refine below_step' ?_ (by assumption))))) ZS.out PN.out.2.2).mono ?_)); rintro e W11 ⟨b6, n6, d6, b7, n7, d7, hx, rx, rfl, s1, p1, hbc⟩; have SXI := Lib.hid s1; have PXI := Lib.hid p1; clear s1 p1; try (have AV := var_facts2 hbc (by (repeat (first | with_reducible exact Below.refl _ _ | with_reducible refine below_drew' ?_ | with_reducible refine below_alloc' _ ?_ | with_reducible refine below_setCell' _ _ ?_ ?_ | with_reducible refine below_step' ?_ (by assumption)))); have AV0 := cell_of_block AV.1 0; have AV1 := cell_of_block AV.1 1; have AVF := free_of_block AV.1; rw [arr_get0] at AV0; rw [arr_get1] at AV1)))
      all_goals (go_wp2_with fail)
      all_goals go_meet
      all_goals have PXE : Canon hx rx ∧ (∀ k, sq hx rx k = true) := ⟨PXI.out.1, fun k => by rw [PXI.out.2.1, PN.out.2.1, Bool.or_not_self]⟩
      all_goals (first
        | exact ⟨_, b6, n6, d6, b7, n7, d7, hx, rx, rfl, rfl, (store_two AV SXI.out).1, (store_two AV SXI.out).2, PXE, by (repeat (first | with_reducible exact Below.refl _ _ | with_reducible refine below_drew' ?_ | with_reducible refine below_alloc' _ ?_ | with_reducible refine below_setCell' _ _ ?_ ?_ | with_reducible refine below_step' ?_ (by assumption)))⟩
        | exact ⟨_, b6, n6, d6, b7, n7, d7, hx, rx, rfl, rfl, heap_alloc_new _ _, (SXI.out.keep (below_a1 _ _)).mono (Nat.zero_le _), PXE, by (repeat (first | with_reducible exact Below.refl _ _ | with_reducible refine below_drew' ?_ | with_reducible refine below_alloc' _ ?_ | with_reducible refine below_setCell' _ _ ?_ ?_ | with_reducible refine below_step' ?_ (by assumption)))⟩)
    case rest =>
      obtain ⟨b17, b6, n6, d6, b7, n7, d7, hx, rx, rfl, rfl, BXI, s1, p1, hb⟩ := hcut
      clear KS NS SS16
      replace T := Lib.hid (tot_keep T.out hb)
      replace BX := Lib.hid (blk_keep BX.out hb)
      replace BY := Lib.hid (blk_keep BY.out hb)
      replace SS := Lib.hid (SS.out.keep hb)
      replace BS := Lib.hid (blk_keep BS.out hb)
      replace SU := Lib.hid (SU.out.keep hb)
      replace BT := Lib.hid (blk_keep BT.out hb)
      replace SUN := Lib.hid (SUN.out.keep hb)
      replace BUN := Lib.hid (blk_keep BUN.out hb)
      replace SVI := Lib.hid (SVI.out.keep hb)
      replace BVI := Lib.hid (blk_keep BVI.out hb)
      replace SW := Lib.hid (SW.out.keep hb)
      replace BW := Lib.hid (blk_keep BW.out hb)
      replace SK := Lib.hid (SK.out.keep hb)
      replace BK := Lib.hid (blk_keep BK.out hb)
      clear hb
      have SXI := Lib.hid s1
      have PXI := Lib.hid p1
      clear s1 p1
      replace BXI := Lib.hid BXI
      generalize hwn : wc = W20 at *
      clear hwn
      have KS : Hid (∀ W, Below W20.heap.size W20 W → W.cell? ⟨b17, 0, none⟩ = some (.slice b6 n6 d6) ∧ W.cell? ⟨b17, 1, none⟩ = some (.slice b7 n7 d7)) := by
        intro W hb
        exact ⟨cell_of_block (blk_keep BXI.out hb) 0, cell_of_block (blk_keep BXI.out hb) 1⟩
      go_upto_region 12 with fail
      go_cut [84] (fun s84 wx => s84 = .bool false ∧ Below W20.heap.size W20 wx)
      case first =>
        go_region_held3 (fun W => W.cell? ⟨b17, 0, none⟩ = some (.slice b6 n6 d6) ∧ W.cell? ⟨b17, 1, none⟩ = some (.slice b7 n7 d7))
          (exact KS.out _ (by (repeat (first | with_reducible exact Below.refl _ _ | with_reducible refine below_drew' ?_ | with_reducible refine below_alloc' _ ?_ | with_reducible refine below_setCell' _ _ ?_ ?_ | with_reducible refine below_step' ?_ (by assumption)))))
          (first
           | (go_at_call 19; (with_reducible (refine (all_any _).mono ?_)); rintro e wa ⟨val, hal, ral, rfl, sal, hpal, hba⟩)
           | (go_at_call 18; (with_reducible (refine (same_allx _ _ _ hx rx hal ral _ (SetAt.keep SXI.out (by (repeat (first | with_reducible exact Below.refl _ _ | with_reducible refine below_drew' ?_ | with_reducible refine below_alloc' _ ?_ | with_reducible refine below_setCell' _ _ ?_ ?_ | with_reducible refine below_step' ?_ (by assumption))))) sal PXI.out.1 PXI.out.2 hpal).mono ?_)); rintro e wb ⟨rfl, hbb⟩)
           | (go_at_call 20; (with_reducible (refine (has_all _ _ hal ral _ sal hpal).mono ?_)); rintro e wf ⟨rfl, hbc⟩))
        all_goals have HB20 : Below W20.heap.size W20 wf := by (repeat (first | with_reducible exact Below.refl _ _ | with_reducible refine below_drew' ?_ | with_reducible refine below_alloc' _ ?_ | with_reducible refine below_setCell' _ _ ?_ ?_ | with_reducible refine below_step' ?_ (by assumption)))
        all_goals (go_wp2_with fail)
        all_goals go_meet
        all_goals exact ⟨rfl, HB20⟩
      case rest =>
        obtain ⟨rfl, hb⟩ := hcut
        clear KS
        replace T := Lib.hid (tot_keep T.out hb)
        replace BX := Lib.hid (blk_keep BX.out hb)
        replace BY := Lib.hid (blk_keep BY.out hb)
        replace SS := Lib.hid (SS.out.keep hb)
        replace BS := Lib.hid (blk_keep BS.out hb)
        replace SU := Lib.hid (SU.out.keep hb)
        replace BT := Lib.hid (blk_keep BT.out hb)
        replace SUN := Lib.hid (SUN.out.keep hb)
        replace BUN := Lib.hid (blk_keep BUN.out hb)
        replace SVI := Lib.hid (SVI.out.keep hb)
        replace BVI := Lib.hid (blk_keep BVI.out hb)
        replace SW := Lib.hid (SW.out.keep hb)
        replace BW := Lib.hid (blk_keep BW.out hb)
        replace SK := Lib.hid (SK.out.keep hb)
        replace BK := Lib.hid (blk_keep BK.out hb)
        replace SXI := Lib.hid (SXI.out.keep hb)
        replace BXI := Lib.hid (blk_keep BXI.out hb)
        clear hb
        generalize hwn : wc = W21 at *
        clear hwn
        have KS : Hid (∀ W, Below W21.heap.size W21 W → W.cell? ⟨W9.heap.size, 0, none⟩ = some (.slice a4 m4 c4) ∧ W.cell? ⟨W9.heap.size, 1, none⟩ = some (.slice a5 m5 c5) ∧ W.cell? ⟨b11, 0, none⟩ = some (.slice a6 m6 c6) ∧ W.cell? ⟨b11, 1, none⟩ = some (.slice a7 m7 c7) ∧ W.cell? ⟨W15.heap.size, 0, none⟩ = some (.slice aA mA cA) ∧ W.cell? ⟨W15.heap.size, 1, none⟩ = some (.slice aB mB cB) ∧ W.cell? ⟨W5.heap.size, 0, none⟩ = some (.slice a0 m0 c0) ∧ W.cell? ⟨W5.heap.size, 1, none⟩ = some (.slice a1 m1 c1)) := by
          intro W hb
          exact ⟨cell_of_block (blk_keep BUN.out hb) 0, cell_of_block (blk_keep BUN.out hb) 1, cell_of_block (blk_keep BVI.out hb) 0, cell_of_block (blk_keep BVI.out hb) 1, cell_of_block (blk_keep BK.out hb) 0, cell_of_block (blk_keep BK.out hb) 1, cell_of_block (blk_keep BS.out hb) 0, cell_of_block (blk_keep BS.out hb) 1⟩
        have EVK : Hid (∀ k, sq hk rk k = sq h r k) := fun k => by rw [EK.out, EW.out]; cases sq h r k <;> cases sq h' r' k <;> rfl
        go_upto_region 14 with fail
        go_region_held3 (fun W => W.cell? ⟨W9.heap.size, 0, none⟩ = some (.slice a4 m4 c4) ∧ W.cell? ⟨W9.heap.size, 1, none⟩ = some (.slice a5 m5 c5) ∧ W.cell? ⟨b11, 0, none⟩ = some (.slice a6 m6 c6) ∧ W.cell? ⟨b11, 1, none⟩ = some (.slice a7 m7 c7) ∧ W.cell? ⟨W15.heap.size, 0, none⟩ = some (.slice aA mA cA) ∧ W.cell? ⟨W15.heap.size, 1, none⟩ = some (.slice aB mB cB) ∧ W.cell? ⟨W5.heap.size, 0, none⟩ = some (.slice a0 m0 c0) ∧ W.cell? ⟨W5.heap.size, 1, none⟩ = some (.slice a1 m1 c1))
          (exact KS.out _ (by (repeat (first | with_reducible exact Below.refl _ _ | with_reducible refine below_drew' ?_ | with_reducible refine below_alloc' _ ?_ | with_reducible refine below_setCell' _ _ ?_ ?_ | with_reducible refine below_step' ?_ (by assumption)))))
          (first
           | (go_at_call 17; (with_reducible (refine (not_wide _ hu ru _ (SetAt.keep SUN.out (by (repeat (first | with_reducible exact Below.refl _ _ | with_reducible refine below_drew' ?_ | with_reducible refine below_alloc' _ ?_ | with_reducible refine below_setCell' _ _ ?_ ?_ | with_reducible refine below_step' ?_ (by assumption))))) CUN.out ZUN.out).mono ?_)); rintro e wa ⟨na0, nm0, nc0, na1, nm1, nc1, hn, rn, rfl, sna, pn, hba⟩; have EVN : Hid (∀ k, sq hn rn k = sq hv rv k) := fun k => by rw [pn.2, PVI.out.2.1])
           | (go_at_call 18; (with_reducible (refine (same_small _ _ hn rn hv rv _ (SetAt.keep sna (by (repeat (first | with_reducible exact Below.refl _ _ | with_reducible refine below_drew' ?_ | with_reducible refine below_alloc' _ ?_ | with_reducible refine below_setCell' _ _ ?_ ?_ | with_reducible refine below_step' ?_ (by assumption))))) (SetAt.keep SVI.out (by (repeat (first | with_reducible exact Below.refl _ _ | with_reducible refine below_drew' ?_ | with_reducible refine below_alloc' _ ?_ | with_reducible refine below_setCell' _ _ ?_ ?_ | with_reducible refine below_step' ?_ (by assumption))))) pn.1 PVI.out.1 true ⟨fun _ => EVN.out, fun _ => rfl⟩).mono ?_)); rintro e wb ⟨rfl, hbb⟩)
           | (go_at_call 18; (with_reducible (refine (same_small _ _ hk rk h r _ (SetAt.keep SK.out (by (repeat (first | with_reducible exact Below.refl _ _ | with_reducible refine below_drew' ?_ | with_reducible refine below_alloc' _ ?_ | with_reducible refine below_setCell' _ _ ?_ ?_ | with_reducible refine below_step' ?_ (by assumption))))) (SetAt.keep SS.out (by (repeat (first | with_reducible exact Below.refl _ _ | with_reducible refine below_drew' ?_ | with_reducible refine below_alloc' _ ?_ | with_reducible refine below_setCell' _ _ ?_ ?_ | with_reducible refine below_step' ?_ (by assumption))))) CK.out CS.out true ⟨fun _ => EVK.out, fun _ => rfl⟩).mono ?_)); rintro e wf ⟨rfl, hbc⟩))
        all_goals have HB21 : Below W21.heap.size W21 wf := by (repeat (first | with_reducible exact Below.refl _ _ | with_reducible refine below_drew' ?_ | with_reducible refine below_alloc' _ ?_ | with_reducible refine below_setCell' _ _ ?_ ?_ | with_reducible refine below_step' ?_ (by assumption)))
        all_goals (replace T := Lib.hid (tot_keep T.out HB21))
        all_goals go_wp2
        all_goals go_ret
        all_goals exact ⟨rfl, T.out⟩
end Go.Proofs.Ytlbffpojdfhefaa
