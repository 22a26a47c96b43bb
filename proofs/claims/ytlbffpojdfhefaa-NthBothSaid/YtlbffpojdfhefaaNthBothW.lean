/- Walk of the law NthBoth. -/
import Derived.Test.YtlbffpojdfhefaaNthW
namespace Go.Proofs.Ytlbffpojdfhefaa
open Go.RowKit
attribute [local go_sem ↓] Go.wp_at_zero Go.wp_at_succ
theorem nthBoth_no1 (w : World) (A B C D : Int) (hsA : smallB A B 12 = false) : Calls Try.prog 6 #[.agg #[.int .i64 A, .int .i64 B], .agg #[.int .i64 C, .int .i64 D]] w (RetB w true) := by
  go_enter Try.func6, Try.ntmps6
  go_wp2_with fail
  generalize hw1 : World.alloc (World.alloc w _) _ = W1
  have hf1 := alloc2_facts hw1
  have T := Lib.hid hf1.1
  have BX := Lib.hid hf1.2.1
  have BY := Lib.hid hf1.2.2
  clear hw1 hf1
  refine (speaks_any _).mono ?_
  rintro e W2 ⟨rfl, hb⟩
  replace T := Lib.hid (tot_keep T.out hb)
  replace BX := Lib.hid (blk_keep BX.out hb)
  replace BY := Lib.hid (blk_keep BY.out hb)
  clear hb
  clear W1
  have cBX0 := cell_of_block BX.out 0
  have cBX1 := cell_of_block BX.out 1
  have cBXlt := lt_of_block BX.out
  rw [arr_get0] at cBX0
  rw [arr_get1] at cBX1
  have hsm := small_any A B 12 (by omega) (by omega) W2
  rw [hsA] at hsm
  have HSM := Lib.hid hsm
  clear hsm
  go_wp2_with fail
  refine (HSM.out).mono ?_
  rintro e W3 ⟨rfl, hb⟩
  clear cBX0 cBX1 cBXlt HSM
  replace T := Lib.hid (tot_keep T.out hb)
  replace BX := Lib.hid (blk_keep BX.out hb)
  replace BY := Lib.hid (blk_keep BY.out hb)
  clear hb
  go_wp2
  go_ret
  exact ⟨rfl, T.out⟩
theorem nthBoth_no2 (w : World) (A B C D : Int) (hsA : smallB A B 12 = true) (hsC : smallB C D 12 = false) : Calls Try.prog 6 #[.agg #[.int .i64 A, .int .i64 B], .agg #[.int .i64 C, .int .i64 D]] w (RetB w true) := by
  go_enter Try.func6, Try.ntmps6
  go_wp2_with fail
  generalize hw1 : World.alloc (World.alloc w _) _ = W1
  have hf1 := alloc2_facts hw1
  have T := Lib.hid hf1.1
  have BX := Lib.hid hf1.2.1
  have BY := Lib.hid hf1.2.2
  clear hw1 hf1
  refine (speaks_any _).mono ?_
  rintro e W2 ⟨rfl, hb⟩
  replace T := Lib.hid (tot_keep T.out hb)
  replace BX := Lib.hid (blk_keep BX.out hb)
  replace BY := Lib.hid (blk_keep BY.out hb)
  clear hb
  clear W1
  have cBX0 := cell_of_block BX.out 0
  have cBX1 := cell_of_block BX.out 1
  have cBXlt := lt_of_block BX.out
  rw [arr_get0] at cBX0
  rw [arr_get1] at cBX1
  have hsm := small_any A B 12 (by omega) (by omega) W2
  rw [hsA] at hsm
  have HSM := Lib.hid hsm
  clear hsm
  go_wp2_with fail
  refine (HSM.out).mono ?_
  rintro e W3 ⟨rfl, hb⟩
  clear cBX0 cBX1 cBXlt HSM
  replace T := Lib.hid (tot_keep T.out hb)
  replace BX := Lib.hid (blk_keep BX.out hb)
  replace BY := Lib.hid (blk_keep BY.out hb)
  clear hb
  have cBY0 := cell_of_block BY.out 0
  have cBY1 := cell_of_block BY.out 1
  have cBYlt := lt_of_block BY.out
  rw [arr_get0] at cBY0
  rw [arr_get1] at cBY1
  have hsm := small_any C D 12 (by omega) (by omega) W3
  rw [hsC] at hsm
  have HSM := Lib.hid hsm
  clear hsm
  go_wp2_with fail
  refine (HSM.out).mono ?_
  rintro e W4 ⟨rfl, hb⟩
  clear cBY0 cBY1 cBYlt HSM
  replace T := Lib.hid (tot_keep T.out hb)
  replace BX := Lib.hid (blk_keep BX.out hb)
  replace BY := Lib.hid (blk_keep BY.out hb)
  clear hb
  go_wp2
  go_ret
  exact ⟨rfl, T.out⟩
set_option maxHeartbeats 4000000 in
theorem nthBoth_walk (w : World) (A B C D : Int) (hsA : smallB A B 12 = true) (hsC : smallB C D 12 = true) : Calls Try.prog 6 #[.agg #[.int .i64 A, .int .i64 B], .agg #[.int .i64 C, .int .i64 D]] w (RetB w true) := by
  go_enter Try.func6, Try.ntmps6
  go_wp2_with fail
  generalize hw1 : World.alloc (World.alloc w _) _ = W1
  have hf1 := alloc2_facts hw1
  have T := Lib.hid hf1.1
  have BX := Lib.hid hf1.2.1
  have BY := Lib.hid hf1.2.2
  clear hw1 hf1
  refine (speaks_any _).mono ?_
  rintro e W2 ⟨rfl, hb⟩
  replace T := Lib.hid (tot_keep T.out hb)
  replace BX := Lib.hid (blk_keep BX.out hb)
  replace BY := Lib.hid (blk_keep BY.out hb)
  clear hb
  clear W1
  have cBX0 := cell_of_block BX.out 0
  have cBX1 := cell_of_block BX.out 1
  have cBXlt := lt_of_block BX.out
  rw [arr_get0] at cBX0
  rw [arr_get1] at cBX1
  have hsm := small_any A B 12 (by omega) (by omega) W2
  rw [hsA] at hsm
  have HSM := Lib.hid hsm
  clear hsm
  go_wp2_with fail
  refine (HSM.out).mono ?_
  rintro e W3 ⟨rfl, hb⟩
  clear cBX0 cBX1 cBXlt HSM
  replace T := Lib.hid (tot_keep T.out hb)
  replace BX := Lib.hid (blk_keep BX.out hb)
  replace BY := Lib.hid (blk_keep BY.out hb)
  clear hb
  have cBY0 := cell_of_block BY.out 0
  have cBY1 := cell_of_block BY.out 1
  have cBYlt := lt_of_block BY.out
  rw [arr_get0] at cBY0
  rw [arr_get1] at cBY1
  have hsm := small_any C D 12 (by omega) (by omega) W3
  rw [hsC] at hsm
  have HSM := Lib.hid hsm
  clear hsm
  go_wp2_with fail
  refine (HSM.out).mono ?_
  rintro e W4 ⟨rfl, hb⟩
  clear cBY0 cBY1 cBYlt HSM
  replace T := Lib.hid (tot_keep T.out hb)
  replace BX := Lib.hid (blk_keep BX.out hb)
  replace BY := Lib.hid (blk_keep BY.out hb)
  clear hb
  have cBX0 := cell_of_block BX.out 0
  have cBX1 := cell_of_block BX.out 1
  have cBXlt := lt_of_block BX.out
  rw [arr_get0] at cBX0
  rw [arr_get1] at cBX1
  go_wp2_with fail
  refine (of_small A B _ hsA).mono ?_
  rintro e W5 ⟨a0, m0, c0, a1, m1, c1, h, r, rfl, s1, ⟨p1, p2, p3⟩, hb⟩
  clear cBX0 cBX1 cBXlt
  replace T := Lib.hid (tot_keep T.out hb)
  replace BX := Lib.hid (blk_keep BX.out hb)
  replace BY := Lib.hid (blk_keep BY.out hb)
  clear hb
  have SS := Lib.hid (s1)
  have CS := Lib.hid (p1)
  have ES := Lib.hid (p2)
  have ZS := Lib.hid (p3)
  clear s1 p1 p2 p3
  have cBY0 := cell_of_block BY.out 0
  have cBY1 := cell_of_block BY.out 1
  have cBYlt := lt_of_block BY.out
  rw [arr_get0] at cBY0
  rw [arr_get1] at cBY1
  go_wp2_with fail
  clear cBY0 cBY1 cBYlt
  generalize hgen1 : World.alloc _ _ = W6
  have hal1 := alloc_facts hgen1
  have BS := Lib.hid hal1.2.1
  have hbal1 := hal1.1
  clear hgen1 hal1
  replace T := Lib.hid (tot_keep T.out hbal1)
  replace BX := Lib.hid (blk_keep BX.out hbal1)
  replace BY := Lib.hid (blk_keep BY.out hbal1)
  replace SS := Lib.hid (SS.out.keep hbal1)
  clear hbal1
  refine (of_small C D _ hsC).mono ?_
  rintro e W7 ⟨a2, m2, c2, a3, m3, c3, h', r', rfl, s1, ⟨p1, p2, p3⟩, hb⟩
  replace T := Lib.hid (tot_keep T.out hb)
  replace BX := Lib.hid (blk_keep BX.out hb)
  replace BY := Lib.hid (blk_keep BY.out hb)
  replace SS := Lib.hid (SS.out.keep hb)
  replace BS := Lib.hid (blk_keep BS.out hb)
  clear hb
  have SU := Lib.hid (s1)
  have CU := Lib.hid (p1)
  have EU := Lib.hid (p2)
  have ZU := Lib.hid (p3)
  clear s1 p1 p2 p3
  have cBS0 := cell_of_block BS.out 0
  have cBS1 := cell_of_block BS.out 1
  have cBSlt := lt_of_block BS.out
  rw [arr_get0] at cBS0
  rw [arr_get1] at cBS1
  go_wp2_with fail
  clear cBS0 cBS1 cBSlt
  generalize hgen2 : World.alloc _ _ = W8
  have hal2 := alloc_facts hgen2
  have BT := Lib.hid hal2.2.1
  have hbal2 := hal2.1
  clear hgen2 hal2
  replace T := Lib.hid (tot_keep T.out hbal2)
  replace BX := Lib.hid (blk_keep BX.out hbal2)
  replace BY := Lib.hid (blk_keep BY.out hbal2)
  replace SS := Lib.hid (SS.out.keep hbal2)
  replace BS := Lib.hid (blk_keep BS.out hbal2)
  replace SU := Lib.hid (SU.out.keep hbal2)
  clear hbal2
  refine (union_small _ _ h r h' r' _ SS.out SU.out ZS.out ZU.out).mono ?_
  rintro e W9 ⟨a4, m4, c4, a5, m5, c5, hu, ru, rfl, s1, ⟨p1, p2, p3, p4⟩, hb⟩
  replace T := Lib.hid (tot_keep T.out hb)
  replace BX := Lib.hid (blk_keep BX.out hb)
  replace BY := Lib.hid (blk_keep BY.out hb)
  replace SS := Lib.hid (SS.out.keep hb)
  replace BS := Lib.hid (blk_keep BS.out hb)
  replace SU := Lib.hid (SU.out.keep hb)
  replace BT := Lib.hid (blk_keep BT.out hb)
  clear hb
  have SUN := Lib.hid (s1)
  have CUN := Lib.hid p1
  have EUN := Lib.hid p2
  have ZUN := Lib.hid (And.intro p3 p4)
  clear s1 p1 p2 p3 p4
  have cBS0 := cell_of_block BS.out 0
  have cBS1 := cell_of_block BS.out 1
  have cBSlt := lt_of_block BS.out
  rw [arr_get0] at cBS0
  rw [arr_get1] at cBS1
  have cBT0 := cell_of_block BT.out 0
  have cBT1 := cell_of_block BT.out 1
  have cBTlt := lt_of_block BT.out
  rw [arr_get0] at cBT0
  rw [arr_get1] at cBT1
  go_wp2_with fail
  clear cBS0 cBS1 cBSlt cBT0 cBT1 cBTlt
  generalize hgen3 : World.alloc _ _ = W10
  have hal3 := alloc_facts hgen3
  have BUN := Lib.hid hal3.2.1
  have hbal3 := hal3.1
  clear hgen3 hal3
  replace T := Lib.hid (tot_keep T.out hbal3)
  replace BX := Lib.hid (blk_keep BX.out hbal3)
  replace BY := Lib.hid (blk_keep BY.out hbal3)
  replace SS := Lib.hid (SS.out.keep hbal3)
  replace BS := Lib.hid (blk_keep BS.out hbal3)
  replace SU := Lib.hid (SU.out.keep hbal3)
  replace BT := Lib.hid (blk_keep BT.out hbal3)
  replace SUN := Lib.hid (SUN.out.keep hbal3)
  clear hbal3
  refine (inter_small _ _ h r h' r' _ SS.out SU.out ZS.out ZU.out).mono ?_
  rintro e W11 ⟨a6, m6, c6, a7, m7, c7, hi, ri, rfl, s1, ⟨p1, p2, p3, p4⟩, hb⟩
  replace T := Lib.hid (tot_keep T.out hb)
  replace BX := Lib.hid (blk_keep BX.out hb)
  replace BY := Lib.hid (blk_keep BY.out hb)
  replace SS := Lib.hid (SS.out.keep hb)
  replace BS := Lib.hid (blk_keep BS.out hb)
  replace SU := Lib.hid (SU.out.keep hb)
  replace BT := Lib.hid (blk_keep BT.out hb)
  replace SUN := Lib.hid (SUN.out.keep hb)
  replace BUN := Lib.hid (blk_keep BUN.out hb)
  clear hb
  have SIN := Lib.hid (s1)
  have CIN := Lib.hid p1
  have EIN := Lib.hid p2
  have ZIN := Lib.hid (And.intro p3 p4)
  clear s1 p1 p2 p3 p4
  have cBX0 := cell_of_block BX.out 0
  have cBX1 := cell_of_block BX.out 1
  have cBXlt := lt_of_block BX.out
  rw [arr_get0] at cBX0
  rw [arr_get1] at cBX1
  have cBY0 := cell_of_block BY.out 0
  have cBY1 := cell_of_block BY.out 1
  have cBYlt := lt_of_block BY.out
  rw [arr_get0] at cBY0
  rw [arr_get1] at cBY1
  go_wp2_with fail
  clear cBX0 cBX1 cBXlt cBY0 cBY1 cBYlt
  generalize hgen4 : World.alloc _ _ = W12
  have hal4 := alloc_facts hgen4
  have BIN := Lib.hid hal4.2.1
  have hbal4 := hal4.1
  clear hgen4 hal4
  replace T := Lib.hid (tot_keep T.out hbal4)
  replace BX := Lib.hid (blk_keep BX.out hbal4)
  replace BY := Lib.hid (blk_keep BY.out hbal4)
  replace SS := Lib.hid (SS.out.keep hbal4)
  replace BS := Lib.hid (blk_keep BS.out hbal4)
  replace SU := Lib.hid (SU.out.keep hbal4)
  replace BT := Lib.hid (blk_keep BT.out hbal4)
  replace SUN := Lib.hid (SUN.out.keep hbal4)
  replace BUN := Lib.hid (blk_keep BUN.out hbal4)
  replace SIN := Lib.hid (SIN.out.keep hbal4)
  clear hbal4
  have KS : Hid (∀ W, Below W12.heap.size W12 W → W.cell? ⟨w.heap.size, 0, none⟩ = some (.int .i64 A) ∧ W.cell? ⟨w.heap.size, 1, none⟩ = some (.int .i64 B) ∧ W.cell? ⟨w.heap.size + 1, 0, none⟩ = some (.int .i64 C) ∧ W.cell? ⟨w.heap.size + 1, 1, none⟩ = some (.int .i64 D)) := by
    intro W hb
    exact ⟨cell_of_block (blk_keep BX.out hb) 0, cell_of_block (blk_keep BX.out hb) 1, cell_of_block (blk_keep BY.out hb) 0, cell_of_block (blk_keep BY.out hb) 1⟩
  have RX : Hid (∀ W, Calls Try.prog 21 #[.agg #[.int .i64 A, .int .i64 B], .int .i64 400] W (RetRB W (rowI A B 400))) := fun W => by
    have hb := smallB_bd hsA
    exact row_any A B 400 W (by omega) (by omega) (by omega)
  have RY : Hid (∀ W, Calls Try.prog 21 #[.agg #[.int .i64 C, .int .i64 D], .int .i64 400] W (RetRB W (rowI C D 400))) := fun W => by
    have hb := smallB_bd hsC
    exact row_any C D 400 W (by omega) (by omega) (by omega)
  have S12 := Lib.hid (Nat.le_refl W12.heap.size)
  go_region_held3 (fun W => W.cell? ⟨w.heap.size, 0, none⟩ = some (.int .i64 A) ∧ W.cell? ⟨w.heap.size, 1, none⟩ = some (.int .i64 B) ∧ W.cell? ⟨w.heap.size + 1, 0, none⟩ = some (.int .i64 C) ∧ W.cell? ⟨w.heap.size + 1, 1, none⟩ = some (.int .i64 D))
    (first | exact KS.out _ (Below.refl _ _).drew | exact KS.out _ ‹Below W12.heap.size W12 _›)
    (first
     | (go_at_call 21; (with_reducible (refine (RX.out W12.drew).mono ?_)); rintro e wa ⟨vx, rfl, rxa, hba⟩; have HBA := below_step (Below.refl W12.heap.size W12).drew (Nat.le_refl _) hba)
     | (go_at_call 21; (with_reducible (refine (RY.out W12.drew).mono ?_)); rintro e wa ⟨vy, rfl, rya, hba⟩; have HBA := below_step (Below.refl W12.heap.size W12).drew (Nat.le_refl _) hba)
     | (go_at_call 21; (with_reducible (refine (RY.out wa).mono ?_)); rintro e W13 ⟨vy, rfl, ryf, hbf⟩; have HBF := below_step HBA (Nat.le_refl _) hbf; have rxf := RowV.keep rxa hbf)
     | (go_at_call 21; (with_reducible (refine (RX.out wa).mono ?_)); rintro e W13 ⟨vx, rfl, rxf, hbf⟩; have HBF := below_step HBA (Nat.le_refl _) hbf; have ryf := RowV.keep rya hbf))
  all_goals
    have rxg := Lib.hid (rxf.mono (Nat.zero_le _))
    have ryg := Lib.hid (ryf.mono (Nat.zero_le _))
    clear rxf ryf
    try clear rxa
    try clear rya
    clear KS RX RY S12 hbf hba HBA
    replace T := Lib.hid (tot_keep T.out HBF)
    replace BX := Lib.hid (blk_keep BX.out HBF)
    replace BY := Lib.hid (blk_keep BY.out HBF)
    replace SS := Lib.hid (SS.out.keep HBF)
    replace BS := Lib.hid (blk_keep BS.out HBF)
    replace SU := Lib.hid (SU.out.keep HBF)
    replace BT := Lib.hid (blk_keep BT.out HBF)
    replace SUN := Lib.hid (SUN.out.keep HBF)
    replace BUN := Lib.hid (blk_keep BUN.out HBF)
    replace SIN := Lib.hid (SIN.out.keep HBF)
    replace BIN := Lib.hid (blk_keep BIN.out HBF)
    clear HBF
    clear W12
    obtain ⟨ax, nx, cx, rfl, rx⟩ := rxg.out
    obtain ⟨ay, ny, cy, rfl, ry⟩ := ryg.out
    clear rxg ryg
    have hnx : nx = 400 := by have := rx.len; unfold rowI at this; rw [rowOf_length] at this; exact this.symm
    subst hnx
    have hny : ny = 400 := by have := ry.len; unfold rowI at this; rw [rowOf_length] at this; exact this.symm
    subst hny
    have RX := Lib.hid (rx)
    have RY := Lib.hid (ry)
    clear rx ry
    have FX : Hid (∀ k, k < 400 → (rowI A B 400).getD k false = sq h r k) := fun k hk => by unfold rowI; rw [rowOf_getD _ _ _ hk, ES.out]
    have FY : Hid (∀ k, k < 400 → (rowI C D 400).getD k false = sq h' r' k) := fun k hk => by unfold rowI; rw [rowOf_getD _ _ _ hk, EU.out]
    go_wp2_with fail
    generalize hw14 : World.alloc (World.alloc W13 _) _ = W14
    have OS := Lib.hid (Own2.start (Nat.le_refl _) hw14)
    have hal := (alloc2_facts hw14).1
    clear hw14
    go_loopw [15, 16, 17, 73] (fun v1 v2 sm i w' => ∃ k : Nat, k ≤ 400 ∧ i = .int .i64 k ∧ sm = .bool (eqTo (sq h r) (sq h' r') k) ∧ Hid (Own2 W13.heap.size w' v1 v2 k k ((rowOf (fun k => sq h r k || sq h' r' k) k)) ((rowOf (fun k => sq h r k && sq h' r' k) k))) ∧ Below W13.heap.size W13 w') (fun _ _ _ i _ => 400 - (intOf i).toNat)
    case atStart => exact ⟨0, by omega, rfl, rfl, OS.out, hal⟩
    case round =>
      obtain ⟨k, hk, rfl, rfl, hown, hbl⟩ := hrel
      by_cases hlt : k < 400
      · obtain ⟨b, off, rfl, hb0, hb, hcell⟩ := (RX.out).cellK hbl (show 0 < 400 by omega)
        obtain ⟨b', off', rfl, hb0', hb', hcell'⟩ := (RY.out).cellK hbl (show 0 < 400 by omega)
        have cc0 := hcell k hlt
        have cc1 := hcell' k hlt
        rw [FX.out k hlt] at cc0
        rw [FY.out k hlt] at cc1
        clear hcell hcell'
        have HS := Lib.hid (eqTo_succ (sq h r) (sq h' r') k)
        have HO := Lib.hid (rowOf_succ (fun k => sq h r k || sq h' r' k) k)
        have HA := Lib.hid (rowOf_succ (fun k => sq h r k && sq h' r' k) k)
        have kk0 : (0 : Int) ≤ (k : Int) := by omega
        have kk1 : (k : Int) < 400 := by omega
        have hsz := hbl.size
        obtain ⟨i0, hi, hz0, hz1, hz2⟩ := info_parts' Try.infoB
        have HI := Lib.hid hi
        have HZ := Lib.hid (And.intro hz0 (And.intro hz1 hz2))
        clear hi hz0 hz1 hz2
        generalize eqTo (sq h r) (sq h' r') k = S at HS
        generalize sq h r k = x at HS HO HA cc0
        generalize sq h' r' k = y at HS HO HA cc1
        generalize rowOf (fun k => sq h r k || sq h' r' k) k = R1 at hown HO
        generalize rowOf (fun k => sq h r k && sq h' r' k) k = R2 at hown HA
        cases x <;> cases y <;> cases S
        all_goals
          go_wp2_with (first | (at_builtin; refine wpList_append_own_at _ rfl _ _ 32 rfl W13.heap.size 4 i0 (.bool false) 1 1 Try.underlying32 HI.out HZ.out.1 HZ.out.2.1 HZ.out.2.2 rfl (by decide) u15 k _ rfl (hown.out.1.alloc _) ⟨_, 0, none⟩ 1 1 [_] rfl rfl (cell_one_new _ _ _) (by simp [Value.oneCell']) (by unfold maxLen; omega) (by omega) (by simp; omega) ?_; intro v' w1 hown1 hgrow _ hat; have O1 := Own2.first hown.out hown1 hgrow hat; have hb1 := grown_below hsz hown.out.1 hgrow; have hs1 := (hbl.trans hb1).size; have d0 := (hb1.cell (p := ⟨b, off + k, none⟩) hb0).trans cc0; have d1 := (hb1.cell (p := ⟨b', off' + k, none⟩) hb0').trans cc1; have O1H := Lib.hid O1; clear O1 hown1 hgrow) | (at_builtin; refine wpList_append_own_at _ rfl _ _ 32 rfl W13.heap.size 4 i0 (.bool false) 1 1 Try.underlying32 HI.out HZ.out.1 HZ.out.2.1 HZ.out.2.2 rfl (by decide) u16 k _ rfl (O1H.out.2.1.alloc _) ⟨_, 0, none⟩ 1 1 [_] rfl rfl (cell_one_new _ _ _) (by simp [Value.oneCell']) (by unfold maxLen; omega) (by omega) (by simp; omega) ?_; intro v2' w2 hown2 hgrow2 _ hat2; have O2 := Own2.second O1H.out hown2 hgrow2 hat2; have hb2 := grown_below hs1 O1H.out.2.1 hgrow2; have d2 := (hb2.cell (p := ⟨b, off + k, none⟩) hb0).trans d0; have d3 := (hb2.cell (p := ⟨b', off' + k, none⟩) hb0').trans d1; have O2H := Lib.hid O2; clear O2 hown2 hgrow2))
          have nn : (0 : Nat) = 0 := rfl
          go_quiet (fail)
          go_wp2
          go_roundw
          case rel => exact ⟨k + 1, by omega, by go_num, by rw [HS.out]; rfl, (by show Own2 _ _ _ _ _ _ _ _; rw [HO.out, HA.out]; exact O2H.out), below_drewN ((hbl.trans hb1).trans hb2) _⟩
          case measure => simp [intOf]; omega
      · obtain rfl : k = 400 := by omega
        obtain ⟨o1, o2, -⟩ := hown.out
        obtain ⟨aO, cO, rfl, ro⟩ := rowA_of_owns (d := false) o1
        obtain ⟨aA, cA, rfl, ra⟩ := rowA_of_owns (d := false) o2
        clear hown o1 o2 hlt hk
        replace T := Lib.hid (tot_keep T.out hbl)
        replace BX := Lib.hid (blk_keep BX.out hbl)
        replace BY := Lib.hid (blk_keep BY.out hbl)
        replace SS := Lib.hid (SS.out.keep hbl)
        replace BS := Lib.hid (blk_keep BS.out hbl)
        replace SU := Lib.hid (SU.out.keep hbl)
        replace BT := Lib.hid (blk_keep BT.out hbl)
        replace SUN := Lib.hid (SUN.out.keep hbl)
        replace BUN := Lib.hid (blk_keep BUN.out hbl)
        replace SIN := Lib.hid (SIN.out.keep hbl)
        replace BIN := Lib.hid (blk_keep BIN.out hbl)
        replace RX := Lib.hid (RX.out.keep hbl)
        replace RY := Lib.hid (RY.out.keep hbl)
        clear hbl
        have ro := ro.mono (Nat.zero_le _)
        have ra := ra.mono (Nat.zero_le _)
        have RO := Lib.hid (ro)
        have RA := Lib.hid (ra)
        clear ro ra
        generalize hsm : eqTo (sq h r) (sq h' r') 400 = sm
        have E12 : Hid (sm = true ↔ ∀ k, sq h r k = sq h' r' k) := by
          show _ ↔ _
          rw [← hsm, eqTo_iff]
          exact ⟨small_ext ZS.out ZU.out, fun e j _ => e j⟩
        clear hsm
        have E34 : Hid (sm = true ↔ ∀ k, sq hu ru k = sq hi ri k) := by
          show _ ↔ _
          rw [E12.out]
          refine forall_congr' fun k => ?_
          rw [EUN.out, EIN.out]
          cases sq h r k <;> cases sq h' r' k <;> simp
        have smm : (sm == sm) = true := by simp
        have cBUN0 := cell_of_block BUN.out 0
        have cBUN1 := cell_of_block BUN.out 1
        have cBUNlt := lt_of_block BUN.out
        rw [arr_get0] at cBUN0
        rw [arr_get1] at cBUN1
        go_wp2_with fail
        refine (is_any _ 0 aO 400 cO _ hu ru _ SUN.out RO.out CUN.out (fun k hk => by rw [rowOf_getD _ _ _ hk, EUN.out]) (by have := ZUN.out; omega) (by omega)).mono ?_
        rintro e W15 ⟨rfl, hb⟩
        clear cBUN0 cBUN1 cBUNlt
        replace T := Lib.hid (tot_keep T.out hb)
        replace BX := Lib.hid (blk_keep BX.out hb)
        replace BY := Lib.hid (blk_keep BY.out hb)
        replace SS := Lib.hid (SS.out.keep hb)
        replace BS := Lib.hid (blk_keep BS.out hb)
        replace SU := Lib.hid (SU.out.keep hb)
        replace BT := Lib.hid (blk_keep BT.out hb)
        replace SUN := Lib.hid (SUN.out.keep hb)
        replace BUN := Lib.hid (blk_keep BUN.out hb)
        replace SIN := Lib.hid (SIN.out.keep hb)
        replace BIN := Lib.hid (blk_keep BIN.out hb)
        replace RX := Lib.hid (RX.out.keep hb)
        replace RY := Lib.hid (RY.out.keep hb)
        replace RO := Lib.hid (RO.out.keep hb)
        replace RA := Lib.hid (RA.out.keep hb)
        clear hb
        have cBIN0 := cell_of_block BIN.out 0
        have cBIN1 := cell_of_block BIN.out 1
        have cBINlt := lt_of_block BIN.out
        rw [arr_get0] at cBIN0
        rw [arr_get1] at cBIN1
        go_wp2_with fail
        refine (is_any _ 0 aA 400 cA _ hi ri _ SIN.out RA.out CIN.out (fun k hk => by rw [rowOf_getD _ _ _ hk, EIN.out]) (by have := ZIN.out; omega) (by omega)).mono ?_
        rintro e W16 ⟨rfl, hb⟩
        clear cBIN0 cBIN1 cBINlt
        replace T := Lib.hid (tot_keep T.out hb)
        replace BX := Lib.hid (blk_keep BX.out hb)
        replace BY := Lib.hid (blk_keep BY.out hb)
        replace SS := Lib.hid (SS.out.keep hb)
        replace BS := Lib.hid (blk_keep BS.out hb)
        replace SU := Lib.hid (SU.out.keep hb)
        replace BT := Lib.hid (blk_keep BT.out hb)
        replace SUN := Lib.hid (SUN.out.keep hb)
        replace BUN := Lib.hid (blk_keep BUN.out hb)
        replace SIN := Lib.hid (SIN.out.keep hb)
        replace BIN := Lib.hid (blk_keep BIN.out hb)
        replace RX := Lib.hid (RX.out.keep hb)
        replace RY := Lib.hid (RY.out.keep hb)
        replace RO := Lib.hid (RO.out.keep hb)
        replace RA := Lib.hid (RA.out.keep hb)
        clear hb
        have cBS0 := cell_of_block BS.out 0
        have cBS1 := cell_of_block BS.out 1
        have cBSlt := lt_of_block BS.out
        rw [arr_get0] at cBS0
        rw [arr_get1] at cBS1
        have cBT0 := cell_of_block BT.out 0
        have cBT1 := cell_of_block BT.out 1
        have cBTlt := lt_of_block BT.out
        rw [arr_get0] at cBT0
        rw [arr_get1] at cBT1
        go_wp2_with fail
        refine (same_small _ _ h r h' r' _ SS.out SU.out CS.out CU.out sm E12.out).mono ?_
        rintro e W17 ⟨rfl, hb⟩
        clear cBS0 cBS1 cBSlt cBT0 cBT1 cBTlt
        replace T := Lib.hid (tot_keep T.out hb)
        replace BX := Lib.hid (blk_keep BX.out hb)
        replace BY := Lib.hid (blk_keep BY.out hb)
        replace SS := Lib.hid (SS.out.keep hb)
        replace BS := Lib.hid (blk_keep BS.out hb)
        replace SU := Lib.hid (SU.out.keep hb)
        replace BT := Lib.hid (blk_keep BT.out hb)
        replace SUN := Lib.hid (SUN.out.keep hb)
        replace BUN := Lib.hid (blk_keep BUN.out hb)
        replace SIN := Lib.hid (SIN.out.keep hb)
        replace BIN := Lib.hid (blk_keep BIN.out hb)
        replace RX := Lib.hid (RX.out.keep hb)
        replace RY := Lib.hid (RY.out.keep hb)
        replace RO := Lib.hid (RO.out.keep hb)
        replace RA := Lib.hid (RA.out.keep hb)
        clear hb
        have cBUN0 := cell_of_block BUN.out 0
        have cBUN1 := cell_of_block BUN.out 1
        have cBUNlt := lt_of_block BUN.out
        rw [arr_get0] at cBUN0
        rw [arr_get1] at cBUN1
        have cBIN0 := cell_of_block BIN.out 0
        have cBIN1 := cell_of_block BIN.out 1
        have cBINlt := lt_of_block BIN.out
        rw [arr_get0] at cBIN0
        rw [arr_get1] at cBIN1
        go_wp2_with fail
        refine (same_small _ _ hu ru hi ri _ SUN.out SIN.out CUN.out CIN.out sm E34.out).mono ?_
        rintro e W18 ⟨rfl, hb⟩
        clear cBUN0 cBUN1 cBUNlt cBIN0 cBIN1 cBINlt
        replace T := Lib.hid (tot_keep T.out hb)
        replace BX := Lib.hid (blk_keep BX.out hb)
        replace BY := Lib.hid (blk_keep BY.out hb)
        replace SS := Lib.hid (SS.out.keep hb)
        replace BS := Lib.hid (blk_keep BS.out hb)
        replace SU := Lib.hid (SU.out.keep hb)
        replace BT := Lib.hid (blk_keep BT.out hb)
        replace SUN := Lib.hid (SUN.out.keep hb)
        replace BUN := Lib.hid (blk_keep BUN.out hb)
        replace SIN := Lib.hid (SIN.out.keep hb)
        replace BIN := Lib.hid (blk_keep BIN.out hb)
        replace RX := Lib.hid (RX.out.keep hb)
        replace RY := Lib.hid (RY.out.keep hb)
        replace RO := Lib.hid (RO.out.keep hb)
        replace RA := Lib.hid (RA.out.keep hb)
        clear hb
        go_wp2
        go_ret
        exact ⟨rfl, T.out⟩
theorem nthBoth_any (w : World) (A B C D : Int) : Calls Try.prog 6 #[.agg #[.int .i64 A, .int .i64 B], .agg #[.int .i64 C, .int .i64 D]] w (RetB w true) := by
  cases hsA : smallB A B 12 with
  | false => exact nthBoth_no1 w A B C D hsA
  | true =>
    cases hsC : smallB C D 12 with
    | false => exact nthBoth_no2 w A B C D hsA hsC
    | true => exact nthBoth_walk w A B C D hsA hsC
end Go.Proofs.Ytlbffpojdfhefaa
