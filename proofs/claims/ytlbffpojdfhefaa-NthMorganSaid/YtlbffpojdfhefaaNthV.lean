/- Walk of the law NthOf. -/
import Derived.Test.YtlbffpojdfhefaaNthU
namespace Go.Proofs.Ytlbffpojdfhefaa
open Go.RowKit
attribute [local go_sem ↓] Go.wp_at_zero Go.wp_at_succ

theorem smallB_bd {a b m : Int} (h : smallB a b m = true) : -m ≤ a ∧ a ≤ m ∧ -m ≤ b ∧ b ≤ m := by
  unfold smallB at h; exact of_decide_eq_true h
theorem not_small (w : World) (A B : Int) (hs : smallB A B 40 = false) : Calls Try.prog 5 #[.agg #[.int .i64 A, .int .i64 B]] w (RetB w true) := by
  have HB0 := Lib.hid (below_a1 w (.cells #[.int .i64 A, .int .i64 B] 25))
  go_enter Try.func5, Try.ntmps5
  go_wp2_with fail
  refine (speaks_any _).mono ?_
  rintro e w1 ⟨rfl, hb1⟩
  have q0 : w1.cell? ⟨w.heap.size, 0, none⟩ = some (.int .i64 A) := by rw [hb1.cell (by simp)]; simp [go_sem]
  have q1 : w1.cell? ⟨w.heap.size, 1, none⟩ = some (.int .i64 B) := by rw [hb1.cell (by simp)]; simp [go_sem]
  have hbw := HB0.out.trans (hb1.mono (by simp))
  have HS := small_any A B 40 (by omega) (by omega) w1
  rw [hs] at HS
  have HSS := Lib.hid HS
  clear HS hb1 hs
  go_wp2_with fail
  refine HSS.out.mono ?_
  rintro e w2 ⟨rfl, hb2⟩
  go_wp2
  go_ret
  exact ⟨rfl, hbw.trans (hb2.mono hbw.size)⟩

theorem not_take (row : List Bool) (k : Nat) (h : k < row.length) : ((row.take (k + 1)).map (fun b => !b)).map VB = ((row.take k).map (fun b => !b)).map VB ++ [.bool (!row.getD k false)] := by
  rw [List.take_succ_eq_append_getElem h, List.map_append, List.map_append]; simp [List.getD, h]
theorem is_not (w : World) (base : Nat) (v : Value) (a : Option Addr) (c : Nat) (row h r : List Bool) (s : SetAt base w v h r) (hr : RowB w a 400 c (row.map (fun b => !b))) (hc : Canon h r) (hl : row.length = 400) (hrow : ∀ k, k < 400 → (!row.getD k false) = sq h r k) (hm : h.length + r.length ≤ 200) :
    Calls Try.prog 22 #[v, .slice a 400 c] w (RetB w true) := by
  refine is_any v base a 400 c _ h r w s hr hc (fun k hk => ?_) (by omega) (by omega)
  rw [← hrow k hk]; simp [List.getD, hl, hk]

set_option maxHeartbeats 2000000 in
theorem nthOf_walk (w : World) (A B : Int) (hs : smallB A B 40 = true) : Calls Try.prog 5 #[.agg #[.int .i64 A, .int .i64 B]] w (RetB w true) := by
  obtain ⟨i0, hi, hz0, hz1, hz2⟩ := info_parts' Try.infoB
  have HI := Lib.hid hi
  have HZ := Lib.hid (And.intro hz0 (And.intro hz1 hz2))
  have HBD := Lib.hid (smallB_bd hs)
  have HB0 := Lib.hid (below_a1 w (.cells #[.int .i64 A, .int .i64 B] 25))
  clear hi hz0 hz1 hz2
  go_enter Try.func5, Try.ntmps5
  go_wp2_with fail
  refine (speaks_any _).mono ?_
  rintro e w1 ⟨rfl, hb1⟩
  have q0 : w1.cell? ⟨w.heap.size, 0, none⟩ = some (.int .i64 A) := by rw [hb1.cell (by simp)]; simp [go_sem]
  have q1 : w1.cell? ⟨w.heap.size, 1, none⟩ = some (.int .i64 B) := by rw [hb1.cell (by simp)]; simp [go_sem]
  have hbw := HB0.out.trans (hb1.mono (by simp))
  have hlt : w.heap.size < w1.heap.size := by have := hb1.size; simp at this; omega
  have HS := small_any A B 40 (by omega) (by omega) w1
  rw [hs] at HS
  have HSS := Lib.hid HS
  clear HS hb1 hs
  go_wp2_with fail
  refine HSS.out.mono ?_
  rintro e w2 ⟨rfl, hb2⟩
  have q0' : w2.cell? ⟨w.heap.size, 0, none⟩ = some (.int .i64 A) := by rw [hb2.cell hlt]; exact q0
  have q1' : w2.cell? ⟨w.heap.size, 1, none⟩ = some (.int .i64 B) := by rw [hb2.cell hlt]; exact q1
  have hbw2 := hbw.trans (hb2.mono hbw.size)
  have hlt2 : w.heap.size < w2.heap.size := Nat.lt_of_lt_of_le hlt hb2.size
  clear q0 q1 hb2 hbw HSS hlt
  clear w1
  go_wp2_with fail
  refine (of_ok A B w2 ⟨by have := HBD.out; omega, by have := HBD.out; omega⟩ ⟨by have := HBD.out; omega, by have := HBD.out; omega⟩).mono ?_
  rintro e w3 ⟨v3, h3, r3, rfl, s3, c3, e3, l3, l3', -, hb3⟩
  have q0 : w3.cell? ⟨w.heap.size, 0, none⟩ = some (.int .i64 A) := by rw [hb3.cell hlt2]; exact q0'
  have q1 : w3.cell? ⟨w.heap.size, 1, none⟩ = some (.int .i64 B) := by rw [hb3.cell hlt2]; exact q1'
  have hlt3 : w.heap.size < w3.heap.size := Nat.lt_of_lt_of_le hlt2 hb3.size
  have hbw3 := hbw2.trans (hb3.mono hbw2.size)
  have hl3 : Hid (h3.length + r3.length ≤ 80) := by
    have := HBD.out
    unfold hdOf headI at l3; unfold rdOf at l3'
    show _ ≤ _
    split at l3 <;> split at l3' <;> simp only at * <;> omega
  obtain ⟨a0, m0, x0, a1, m1, x1, rr, rfl, -, -, -⟩ := s3.open
  have S3 := Lib.hid (s3.mono (Nat.zero_le _))
  have C3 := Lib.hid c3
  have E3 := Lib.hid e3
  clear q0' q1' hbw2 hb3 s3 c3 e3 l3 l3' hlt2
  clear w2
  have HB3 : Hid (Below w.heap.size w (w3.alloc (.cells #[.slice a0 m0 x0, .slice a1 m1 x1] 34))) := hbw3.alloc hbw3.size _
  go_wp2_with fail
  refine (row_any A B 400 _ ⟨by have := HBD.out; omega, by have := HBD.out; omega⟩ ⟨by have := HBD.out; omega, by have := HBD.out; omega⟩ (by omega)).mono ?_
  rintro e w4 ⟨v4, rfl, hrow4, hb4⟩
  obtain ⟨a4, n4, x4, rfl, hrow4⟩ := hrow4
  have hn4 : n4 = 400 := by have := hrow4.len; unfold rowI at this; rw [rowOf_length] at this; exact this.symm
  subst hn4
  have hbS : Hid (Below (w3.heap.size + 1) (w3.alloc (.cells #[.slice a0 m0 x0, .slice a1 m1 x1] 34)) w4) := hb4.mono (by simp)
  have R4 := Lib.hid (hrow4.mono (Nat.zero_le _))
  have hmk := World.ownsRow_made w4 #[] 0 (base := w4.heap.size) (e := 4) (size := 1) (Nat.le_refl _) (by simp [maxLen]) rfl
  have HMK := Lib.hid hmk
  clear hmk hrow4 hb4 q0 q1 hlt3
  have HROWL := Lib.hid (show (rowI A B 400).length = 400 from rowOf_length _ _)
  have HROWE : Hid (∀ k, k < 400 → (rowI A B 400).getD k false = sq h3 r3 k) := fun k hk => by
    unfold rowI; rw [rowOf_getD _ _ _ hk, E3.out]
  generalize rowI A B 400 = row at R4 HROWL HROWE
  go_wp2_with fail
  go_loopw [6, 24] (fun v i w' => ∃ k : Nat, k ≤ 400 ∧ i = .int .i64 k ∧ Hid (w'.ownsRow w4.heap.size 4 1 v k (((row.take k).map (fun b => !b)).map VB)) ∧ Below w4.heap.size w4 w') (fun _ i _ => 400 - (intOf i).toNat)
  case atStart => exact ⟨0, by omega, rfl, HMK.out, below_a1 _ _⟩
  case round =>
    obtain ⟨k, hk, rfl, hown, hbl⟩ := hrel
    by_cases hlt : k < 400
    · obtain ⟨b, off, rfl, hb0, hb, hcell⟩ := (R4.out).cellK hbl (show 0 < 400 by omega)
      have c0 := hcell k hlt
      clear hcell
      have HS := Lib.hid (not_take row k (by rw [HROWL.out]; exact hlt))
      have kk0 : (0 : Int) ≤ (k : Int) := by omega
      have kk1 : (k : Int) < 400 := by omega
      generalize row.getD k false = x at HS c0
      go_wp2_with (at_builtin; refine wpList_append_own _ rfl _ _ 32 rfl w4.heap.size 4 i0 (.bool false) 1 1 Try.underlying32 HI.out HZ.out.1 HZ.out.2.1 HZ.out.2.2 rfl (by decide) _ k _ rfl (hown.out.alloc _) ⟨wr.heap.size, 0, none⟩ 1 1 [.bool (!x)] rfl rfl (cell_one_new _ _ _) (by simp [Value.oneCell']) (by unfold maxLen; omega) (by omega) (by have := hbl.size; simp; omega) ?_; intro v' w5 hown1 hgrow _)
      have HN : Hid (w5.ownsRow w4.heap.size 4 1 v' (k + 1) (((row.take (k + 1)).map (fun b => !b)).map VB)) := by rw [HS.out]; exact hown1
      have hb1 : Below w4.heap.size w4 w5 := (hbl.alloc hbl.size _).grown hgrow (by have := hbl.size; simp; omega) (fun j hj => (hown.out.lt j hj).1)
      clear hown1
      go_roundw
      case rel => exact ⟨k + 1, by omega, by go_num, HN, hb1⟩
      case measure => simp [intOf]; omega
    · obtain rfl : k = 400 := by omega
      have how := hown.out
      rw [List.take_of_length_le (by rw [HROWL.out]; exact Nat.le_refl _)] at how
      obtain ⟨aO, cO, rfl, hrO⟩ := rowA_of_owns (d := false) how
      have RO := Lib.hid (hrO.mono (Nat.zero_le _))
      clear hown how hrO
      have hbS2 : Hid (Below (w3.heap.size + 1) (w3.alloc (.cells #[.slice a0 m0 x0, .slice a1 m1 x1] 34)) wr) := hbS.out.trans (hbl.mono (by have := hbS.out.size; simpa using this))
      have R4' := Lib.hid (R4.out.keep hbl)
      have hszr : Hid (w3.heap.size + 1 ≤ wr.heap.size) := by show _ ≤ _; have := hbS2.out.size; simpa using this
      have KS : Hid (∀ W, Below wr.heap.size wr W → W.cell? ⟨w3.heap.size, 0, none⟩ = some (.slice a0 m0 x0) ∧ W.cell? ⟨w3.heap.size, 1, none⟩ = some (.slice a1 m1 x1)) := by
        intro W hb
        have hblk := res_block (hbS2.out.trans (hb.mono hszr.out))
        exact ⟨cell_of_block hblk 0, cell_of_block hblk 1⟩
      have SS : Hid (∀ W, Below wr.heap.size wr W → SetAt 0 W (.agg #[.slice a0 m0 x0, .slice a1 m1 x1]) h3 r3) := by
        intro W hb
        exact (S3.out.keep (below_a1 _ _)).keep ((hbS2.out.trans (hb.mono hszr.out)).mono (by simp))
      have hl1 : Hid (0 < r3.length) := List.length_pos_iff.2 C3.out.1
      have hbWR : Hid (Below w.heap.size w wr) := HB3.out.trans (hbS2.out.mono (Nat.le_succ_of_le hbw3.size))
      have I1 : Hid (∀ W, Below wr.heap.size wr W → Calls Try.prog 22 #[.agg #[.slice a0 m0 x0, .slice a1 m1 x1], .slice a4 400 x4] W (RetB W true)) := fun W hb =>
        is_any _ 0 a4 400 x4 row h3 r3 W (SS.out W hb) (R4'.out.keep hb) C3.out HROWE.out (by have := hl3.out; omega) (by omega)
      have N1 : Hid (∀ W, Below wr.heap.size wr W → Calls Try.prog 17 #[.agg #[.slice a0 m0 x0, .slice a1 m1 x1]] W (RetSet W fun h' r' => Canon h' r' ∧ (∀ k, sq h' r' k = !sq h3 r3 k) ∧ h'.length ≤ h3.length ∧ r'.length ≤ r3.length)) := fun W hb =>
        not_any _ 0 h3 r3 W (SS.out W hb) hl1.out (by have := hl3.out; omega) (by have := hl3.out; omega)
      have I2 : Hid (∀ W v' h' r' base', Below wr.heap.size wr W → SetAt base' W v' h' r' → (Canon h' r' ∧ (∀ k, sq h' r' k = !sq h3 r3 k) ∧ h'.length ≤ h3.length ∧ r'.length ≤ r3.length) → Calls Try.prog 22 #[v', .slice aO 400 cO] W (RetB W true)) := fun W v' h' r' base' hb hs hp =>
        is_not W base' v' aO cO row h' r' hs (RO.out.keep hb) hp.1 HROWL.out (fun k hk => by rw [hp.2.1, HROWE.out k hk]) (by have := hl3.out; have := hp.2.2.1; have := hp.2.2.2; omega)
      have N2 : Hid (∀ W v' h' r' base', SetAt base' W v' h' r' → (Canon h' r' ∧ (∀ k, sq h' r' k = !sq h3 r3 k) ∧ h'.length ≤ h3.length ∧ r'.length ≤ r3.length) → Calls Try.prog 17 #[v'] W (RetSet W fun h2 r2 => h2 = h3 ∧ r2 = r3)) := fun W v' h' r' base' hs hp =>
        (not_any _ base' h' r' W hs (List.length_pos_iff.2 hp.1.1) (by have := hl3.out; have := hp.2.2.1; omega) (by have := hl3.out; have := hp.2.2.2; omega)).mono fun e W' ⟨v2, h2, r2, he, hs2, hp2, hb2⟩ =>
          ⟨v2, h2, r2, he, hs2, canon_unique hp2.1 C3.out (fun k => by rw [hp2.2.1, hp.2.1, Bool.not_not]), hb2⟩
      have E1 : Hid (∀ W u u' b b', SetAt b W u h3 r3 → SetAt b' W u' h3 r3 → Calls Try.prog 18 #[u, u'] W (RetB W true)) := fun W u u' b b' hs hs' => by
        have := same_any u u' b b' h3 r3 h3 r3 W hs hs'
        rwa [show (eqB h3 h3 && eqB r3 r3) = true by simp [eqB]] at this
      clear hbl hk hlt
      go_wp2_with fail
      go_region_held3 (fun W => W.cell? ⟨w3.heap.size, 0, none⟩ = some (.slice a0 m0 x0) ∧ W.cell? ⟨w3.heap.size, 1, none⟩ = some (.slice a1 m1 x1))
        (first | exact KS.out _ (Below.refl _ _).drew | exact KS.out _ ‹Below wr.heap.size wr _›)
        (first
         | (go_at_call 22; (with_reducible (refine (I1.out _ (Below.refl _ _).drew).mono ?_)); rintro e w5 ⟨rfl, hb5⟩; have HB5 := below_step (Below.refl wr.heap.size wr).drew (Nat.le_refl _) hb5)
         | (go_at_call 17; (with_reducible (refine (N1.out _ HB5).mono ?_)); rintro e w6 ⟨v6, h6, r6, rfl, s6, p6, hb6⟩; have HB6 := below_step HB5 (Nat.le_refl _) hb6; have S6 := Lib.hid s6; have P6 := Lib.hid p6; clear s6 p6)
         | (go_at_call 22; (with_reducible (refine (I2.out _ v6 h6 r6 _ HB6 S6.out P6.out).mono ?_)); rintro e w7 ⟨rfl, hb7⟩; have HB7 := below_step HB6 (Nat.le_refl _) hb7)
         | (go_at_call 17; (with_reducible (refine (N1.out _ HB7).mono ?_)); rintro e w8 ⟨v8, h8, r8, rfl, s8, p8, hb8⟩; have HB8 := below_step HB7 (Nat.le_refl _) hb8; have S8 := Lib.hid s8; have P8 := Lib.hid p8; clear s8 p8)
         | (go_at_call 17; (with_reducible (refine (N2.out _ v8 h8 r8 _ S8.out P8.out).mono ?_)); rintro e w9 ⟨v9, h9, r9, rfl, s9, p9, hb9⟩; have HB9 := below_step HB8 (Nat.le_refl _) hb9; rw [p9.1, p9.2] at s9; have S9 := Lib.hid s9; clear s9 p9)
         | (go_at_call 18; (with_reducible (refine (E1.out _ v9 _ _ _ S9.out (SS.out _ HB9)).mono ?_)); rintro e w10 ⟨rfl, hb10⟩; have HB10 := below_step HB9 (Nat.le_refl _) hb10)
         | (go_at_call 18; (with_reducible (refine (E1.out _ _ _ _ _ (SS.out _ HB10) (SS.out _ HB10)).mono ?_)); rintro e w11 ⟨rfl, hb11⟩; have HB11 := below_step HB10 (Nat.le_refl _) hb11))
      go_wp2
      go_ret
      exact ⟨rfl, hbWR.out.trans (HB11.mono hbWR.out.size)⟩
theorem nthOf_any (A B : Int) (w : World) : Calls Try.prog 5 #[.agg #[.int .i64 A, .int .i64 B]] w (RetB w true) := by
  cases hs : smallB A B 40 with
  | true => exact nthOf_walk w A B hs
  | false => exact not_small w A B hs
end Go.Proofs.Ytlbffpojdfhefaa
