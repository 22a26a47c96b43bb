/- Walk of made. -/
import Derived.Test.YtlbffpojdfhefaaNthE
namespace Go.Proofs.Ytlbffpojdfhefaa
open Go.RowKit
attribute [local go_sem ↓] Go.wp_at_zero Go.wp_at_succ

/-- A value that is a set: its head and its ring (never empty). -/
def ringOf (r0 : List Bool) : List Bool := if r0 = [] then [false] else r0
def SetAt (base : Nat) (w : World) (v : Value) (h r : List Bool) : Prop := ∃ v0 v1 r0, v = .agg #[v0, v1] ∧ RowV VB false base w v0 h ∧ RowV VB false base w v1 r0 ∧ r = ringOf r0
theorem SetAt.keep {base w w' v h r} (s : SetAt base w v h r) (hb : Below w.heap.size w w') : SetAt base w' v h r :=
  let ⟨v0, v1, r0, e, h0, h1, h2⟩ := s; ⟨v0, v1, r0, e, h0.keep hb, h1.keep hb, h2⟩
def RetSet (w : World) (P : List Bool → List Bool → Prop) (e : Ending) (w' : World) : Prop := ∃ v h r, e = .returned v ∧ SetAt w.heap.size w' v h r ∧ P h r ∧ Below w.heap.size w w'

set_option maxHeartbeats 1000000 in
theorem made_any (a0 a1 : Option Addr) (m0 c0 m1 c1 : Nat) (h r : List Bool) (w : World) (hr0 : RowB w a0 m0 c0 h) (hr1 : RowB w a1 m1 c1 r) (hm1 : 0 < m1) (hb0 : m0 ≤ 1000000) (hb1 : m1 ≤ 1000000) :
    Calls Try.prog 42 #[.slice a0 m0 c0, .slice a1 m1 c1] w (RetSet w fun h' r' => Canon h' r' ∧ (∀ k, sq h' r' k = sq h r k) ∧ h'.length ≤ m0 ∧ r'.length ≤ m1) := by
  have R0 := Lib.hid hr0
  have R1 := Lib.hid hr1
  have L1 := Lib.hid hr1.len
  have L0 := Lib.hid hr0.len
  have hle1 := hr1.le_cap
  have hcap1 := hr1.cap_le
  clear hr0 hr1
  obtain ⟨i0, hi, hz0, hz1, hz2⟩ := info_parts' Try.infoB
  have HI := Lib.hid hi
  have HZ := Lib.hid (And.intro hz0 (And.intro hz1 hz2))
  clear hi hz0 hz1 hz2
  go_enter Try.func42, Try.ntmps42
  go_wp2
  go_loopw [1, 5] (fun u i w' => ∃ L C k : Nat, 1 ≤ k ∧ k ≤ L + 1 ∧ 0 < L ∧ L ≤ m1 ∧ L ≤ C ∧ C ≤ 9223372036854775807 ∧ u = .slice a1 L C ∧ i = .int .i64 k ∧ Hid (RowB w a1 L C (r.take L) ∧ (∀ j, per (r.take L) j = per r j) ∧ ∀ j, 1 ≤ j → j < k → j < L → repeatsB (r.take L) j = false) ∧ Below (w.heap.size + 1) (w.alloc (.cells #[.slice none 0 0, .slice none 0 0] 34)) w') (fun u i w' => m1 + 1 - (intOf i).toNat)
  case atStart =>
    have e : r.take m1 = r := List.take_of_length_le (by rw [L1.out]; exact Nat.le_refl _)
    exact ⟨m1, c1, 1, by omega, by omega, hm1, Nat.le_refl _, hle1, hcap1, rfl, rfl, (by show _ ∧ _ ∧ _; rw [e]; exact ⟨R1.out, fun _ => rfl, fun j h1 h2 _ => by omega⟩), Below.refl _ _⟩
  case round =>
    obtain ⟨L, C, k, k1, k2, l1, l2, l3, l4, rfl, rfl, HI1, hbl1⟩ := hrel
    have hbl := res_below hbl1
    have hsz1 := hbl1.size
    have hsz : w.heap.size + 1 ≤ wr.heap.size := by simpa using hsz1
    clear hsz1
    by_cases hlt : k < L
    · have hl : (r.take L).length = L := by rw [List.length_take, L1.out]; omega
      have hne : r.take L ≠ [] := by intro e; rw [e] at hl; simp at hl; omega
      have kk1 : (1 : Int) ≤ (k : Int) := by omega
      have kk2 : (k : Int) ≤ (C : Int) := by omega
      by_cases hp : repeatsB (r.take L) k = true
      · have HN : Hid (RowB w a1 k k (r.take k) ∧ (∀ j, per (r.take k) j = per r j) ∧ ∀ j, 1 ≤ j → j < k + 1 → j < k → repeatsB (r.take k) j = false) := by
          have et : r.take k = (r.take L).take k := by rw [List.take_take, Nat.min_eq_left (by omega)]
          obtain ⟨q1, q2, q3⟩ := per_take hne (by omega) hp
          have HH := HI1.out
          refine ⟨?_, ?_, ?_⟩
          · rw [et]; exact RowA.take HH.1 k k (by omega) (Nat.le_refl _) (by omega)
          · intro j; rw [et, q3, HH.2.1]
          · intro j h1 h2 h3
            cases hj : repeatsB (r.take k) j with
            | false => rfl
            | true =>
              exfalso
              rw [et] at hj
              have hd : (r.take L).length % j = 0 := by
                have d1 := (repeats_period q1 hj).1
                have d2 := (repeats_period hne hp).1
                rw [q2] at d1
                exact Nat.mod_eq_zero_of_dvd (Nat.dvd_trans (Nat.dvd_of_mod_eq_zero d1) (Nat.dvd_of_mod_eq_zero d2))
              have hp2 : Period (per (r.take L)) j := by
                have d1 := (repeats_iff q1 (by omega) (repeats_period q1 hj).1).1 hj
                intro x; rw [← q3, ← q3]; exact d1 x
              have := (repeats_iff hne (by omega) hd).2 hp2
              rw [HH.2.2 j h1 h3 (by omega)] at this
              cases this
        go_wp2_with (go_at_call 46; refine (repeats_any _ _ _ (r.take L) _ _ ((HI1.out.1).keep hbl) (by omega) (by omega)).mono ?_; rintro e w2 ⟨rfl, hb2⟩)
        go_roundw
        case rel => exact ⟨k, k, k + 1, by omega, by omega, by omega, by omega, by omega, by omega, rfl, by go_num, HN, hbl1.trans (hb2.mono hsz)⟩
        case measure => simp [intOf]; omega
      · have hp' : repeatsB (r.take L) k = false := by simpa using hp
        have HN : Hid (RowB w a1 L C (r.take L) ∧ (∀ j, per (r.take L) j = per r j) ∧ ∀ j, 1 ≤ j → j < k + 1 → j < L → repeatsB (r.take L) j = false) := by
          refine ⟨HI1.out.1, HI1.out.2.1, fun j h1 h2 h3 => ?_⟩
          by_cases e : j = k
          · subst e; exact hp'
          · exact HI1.out.2.2 j h1 (by omega) h3
        clear hp
        go_wp2_with (go_at_call 46; refine (repeats_any _ _ _ (r.take L) _ _ ((HI1.out.1).keep hbl) (by omega) (by omega)).mono ?_; rintro e w2 ⟨rfl, hb2⟩)
        go_roundw
        case rel => exact ⟨L, C, k + 1, by omega, by omega, by omega, by omega, by omega, by omega, rfl, by go_num, HN, hbl1.trans (hb2.mono hsz)⟩
        case measure => simp [intOf]; omega
    · have hl : (r.take L).length = L := by rw [List.length_take, L1.out]; omega
      have hne : r.take L ≠ [] := by intro e; rw [e] at hl; simp at hl; omega
      have PR : Hid (prim (r.take L)) := prim_of hne fun m h1 h2 => HI1.out.2.2 m h1 (by omega) (by omega)
      have NE := Lib.hid hne
      have HL := Lib.hid hl
      clear hl hne
      go_wp2_with fail
      refine (clone_any a0 m0 c0 h _ (R0.out.keep hbl) (by omega)).mono ?_
      rintro e w2 ⟨v2, rfl, gv2, hb2⟩
      go_wp2_with fail
      refine (clone_any a1 L C (r.take L) _ ((HI1.out.1.keep hbl).keep hb2) (by omega)).mono ?_
      rintro e w3 ⟨v3, rfl, gv3, hb3⟩
      obtain ⟨a2, n2, c2, rfl, hv2⟩ := (gv2.keep hb3).mono hsz
      obtain ⟨a3, n3, c3, rfl, hv3⟩ := gv3.mono (Nat.le_trans hsz hb2.size)
      have hb13 : Below (w.heap.size + 1) (w.alloc (.cells #[.slice none 0 0, .slice none 0 0] 34)) w3 := (hbl1.trans (hb2.mono hsz)).trans (hb3.mono (Nat.le_trans hsz hb2.size))
      have hn2 : n2 = m0 := hv2.len.symm.trans L0.out
      have hn3 : n3 = L := hv3.len.symm.trans HL.out
      subst hn2 hn3
      have V2 := Lib.hid hv2
      have V3 := Lib.hid hv3
      have PERR := Lib.hid HI1.out.2.1
      clear hv2 hv3 gv2 gv3 HI1 hbl hbl1 hb2 hb3 hsz
      clear wr
      go_wp2_with fail
      go_loopw [0, 1] (fun u v w' => ∃ (N n cc : Nat) (aa : Option Addr) (R : List Bool), N ≤ n2 ∧ 0 < n ∧ n ≤ n3 ∧ u = .slice a2 N c2 ∧ v = .slice aa n cc ∧ Hid (RowA VB false (w.heap.size + 1) w' a2 N c2 (h.take N)) ∧ Hid (RowA VB false (w.heap.size + 1) w' aa n cc R) ∧ Hid (R ≠ [] ∧ prim R ∧ ∀ k, sq (h.take N) R k = sq h r k) ∧ Below (w.heap.size + 1) (w.alloc (.cells #[.slice none 0 0, .slice none 0 0] 34)) w') (fun u _ _ => match u with | .slice _ N _ => N | _ => 0)
      case atStart =>
        have e0 : h.take n2 = h := List.take_of_length_le (by rw [L0.out]; exact Nat.le_refl _)
        refine ⟨n2, n3, c3, a3, r.take n3, Nat.le_refl _, l1, Nat.le_refl _, rfl, rfl, ?_, V3, ⟨NE.out, PR.out, fun k => ?_⟩, hb13⟩
        · show RowA _ _ _ _ _ _ _ _; rw [e0]; exact V2.out
        · rw [e0]; unfold sq; split
          · rfl
          · exact PERR.out _
      case round =>
        obtain ⟨N, n, cc, aa, R, hN, hn, hn', rfl, rfl, HA, HR, HP, hbl⟩ := hrel
        have hsz2 := hbl.size
        have hsz : w.heap.size + 1 ≤ wr.heap.size := by simpa using hsz2
        clear hsz2
        have hcN := HA.out.le_cap
        have hcn := HR.out.le_cap
        have hcc := HR.out.cap_le
        have hc2 := HA.out.cap_le
        have HCC := hcc
        by_cases hN0 : N = 0
        · subst hN0
          have HC : Hid (Canon (h.take 0) R) := ⟨HP.out.1, HP.out.2.1, fun n hn => by simp at hn⟩
          have nn0 : decide ((0 : Int) < 0) = false := by simp
          go_wp2_with fail
          go_quiet (fail)
          generalize hq : World.drewN wr _ = wq
          have hbq : Below wr.heap.size wr wq := by rw [← hq]; exact below_drewN (Below.refl _ _) _
          have HRq : Hid (RowA VB false (w.heap.size + 1) wq aa n cc R) := HR.out.keep hbq
          have HAq : Hid (RowA VB false (w.heap.size + 1) wq a2 0 c2 (h.take 0)) := HA.out.keep hbq
          have hblq : Below (w.heap.size + 1) (w.alloc (.cells #[.slice none 0 0, .slice none 0 0] 34)) wq := hbl.trans (hbq.mono hsz)
          have hblk := res_block hblq
          have r0 : wq.cell? ⟨w.heap.size, 0, none⟩ = some (.slice none 0 0) := cell_of_block hblk 0
          have r1 : wq.cell? ⟨w.heap.size, 1, none⟩ = some (.slice none 0 0) := cell_of_block hblk 1
          have f0 := free_of_block hblk 0
          have f1 := free_of_block hblk 1
          have hltw : w.heap.size < wq.heap.size := by have := hbq.size; omega
          clear hq HR HA hbl hsz hbq hblk
          go_wp2
          refine bodyPost_ret (v := .agg #[.slice a2 0 c2, .slice aa n cc]) (by simp [results, Try.results42, go_sem, r0, r1, f0, f1]) rfl ?_
          refine ⟨_, h.take 0, R, rfl, ⟨_, _, R, rfl, ⟨_, _, _, rfl, ?_⟩, ⟨_, _, _, rfl, ?_⟩, ?_⟩, ⟨HC.out, HP.out.2.2, by rw [List.length_take]; omega, by rw [HRq.out.len]; omega⟩, ?_⟩
          · exact ((HAq.out.setCell (by simp) _).setCell (by simp) _).mono (by omega)
          · exact ((HRq.out.setCell (by simp) _).setCell (by simp) _).mono (by omega)
          · unfold ringOf; rw [if_neg HP.out.1]
          · exact ((res_below hblq).setCell (by simp) _).setCell (by simp) _
        have nn1 : (0 : Int) < (N : Int) := by omega
        have nn2 : (0 : Int) < (n : Int) := by omega
        obtain ⟨bA, oA, eA, hbA, hltA, hcA⟩ := HA.out.at (by omega)
        obtain ⟨bR, oR, eR, hbR, hltR, hcR⟩ := HR.out.at hn
        subst eA eR
        have cA := hcA (N - 1) (by omega)
        have cR := hcR (n - 1) (by omega)
        have hNl : N - 1 < h.length := by rw [L0.out]; omega
        have hRl := HR.out.len
        clear hcA hcR
        have hgA : (h.take N).getD (N - 1) false = h.getD (N - 1) false := by
          simp [List.getD_eq_getElem?_getD, List.getElem?_take, show N - 1 < N by omega]
        rw [hgA] at cA
        have kA1 : (0 : Int) ≤ (N : Int) - 1 := by omega
        have kA2 : (N : Int) - 1 < (N : Int) := by omega
        have kR1 : (0 : Int) ≤ (n : Int) - 1 := by omega
        have kR2 : (n : Int) - 1 < (n : Int) := by omega
        clear hgA
        have nnA : 0 < N := by omega
        have nnR : 1 ≤ n := by omega
        have nnR2 : (1 : Int) ≤ (n : Int) := by omega
        have nnR3 : (n : Int) - 1 ≤ (cc : Int) := by omega
        have nnR4 : (n : Int) ≤ (cc : Int) + 1 := by omega
        have wA := w64_in ((N : Int) - 1) (by omega) (by omega)
        have wR := w64_in ((n : Int) - 1) (by omega) (by omega)
        by_cases hxy : h.getD (N - 1) false = R.getD (n - 1) false
        · have HNEW : Hid (rot R ≠ [] ∧ prim (rot R) ∧ ∀ k, sq (h.take (N - 1)) (rot R) k = sq h r k) := by
            obtain ⟨p1, p2, p3⟩ := HP.out
            refine ⟨rot_ne _, prim_rot p1 p2, fun k => ?_⟩
            have e1 : (h.take N).length = (N - 1) + 1 := by rw [List.length_take]; omega
            have e2 := sq_rot (h := h.take N) p1 e1 (by rw [hRl]; exact Eq.trans (by simp [List.getD_eq_getElem?_getD, List.getElem?_take, show N - 1 < N by omega]) hxy) k
            rw [List.take_take, Nat.min_eq_left (by omega)] at e2
            rw [e2, p3]
          have HS : Hid (rot R = R.getD (n - 1) false :: R.take (n - 1)) := by show rot R = _; unfold rot; rw [hRl]
          rw [hxy] at cA
          generalize R.getD (n - 1) false = x at cA cR hxy HS
          have HL1 : Hid (((R.take (n - 1)).map VB).length = (n - 1) * 1) := by
            show List.length _ = _; rw [List.length_map, List.length_take]; omega
          have HRR : Hid (RowA VB false (w.heap.size + 1) wr (some ⟨bR, oR, none⟩) (n - 1) cc (R.take (n - 1))) := HR.out.take (n - 1) cc (by omega) (by omega) (Nat.le_refl _)
          clear hxy hNl hRl
          go_wp2_with fail
          go_quiet (fail)
          go_wp2_with fail
          generalize hq : World.drewN wr _ = wq
          have hbq : Below wr.heap.size wr wq := by rw [← hq]; exact below_drewN (Below.refl _ _) _
          have HRq : Hid (RowA VB false (w.heap.size + 1) wq (some ⟨bR, oR, none⟩) (n - 1) cc (R.take (n - 1))) := HRR.out.keep hbq
          have HAq : Hid (RowA VB false (w.heap.size + 1) wq (some ⟨bA, oA, none⟩) N c2 (h.take N)) := HA.out.keep hbq
          have hblq : Below (w.heap.size + 1) (w.alloc (.cells #[.slice none 0 0, .slice none 0 0] 34)) wq := hbl.trans (hbq.mono hsz)
          have hszq : w.heap.size + 1 ≤ wq.heap.size := Nat.le_trans hsz hbq.size
          have cRq : wq.cell? ⟨bR, oR + (n - 1), none⟩ = some (.bool x) := by rw [hbq.cell (p := ⟨bR, oR + (n - 1), none⟩) hltR]; exact cR
          have hltq : bR < wq.heap.size := Nat.lt_of_lt_of_le hltR hbq.size
          clear hq HRR HR HA hbl hsz hbq cA cR hltA hltR
          clear wr
          have H3 := Lib.hid (ownsRow_drew (owns_built (w := wq) (base := w.heap.size + 1) (e := 4) [.bool x] hszq rfl (by simp [maxLen])))
          have H1 := Lib.hid ((HRq.out.keep (below_a1 wq (.cells #[.bool x] 4))).drewN 1).news
          have H2 := Lib.hid (one_bools (R.take (n - 1)))
          go_region_held3 (fun w' => w'.cell? ⟨bR, oR + (n - 1), none⟩ = some (.bool x)) (first | (go_keep; done) | (rw [World.cell?_of_block (hgrow1.block bR (by simp; omega) (by simp [Value.ownBlock]; omega)), World.cell?_drew, World.cell?_alloc_past _ _ _ hltq]; exact cRq))
            (first | (refine step_append_own (by rfl) _ _ 32 (by rfl) (w.heap.size + 1) 4 i0 (.bool false) 1 1 Try.underlying32 HI.out HZ.out.1 HZ.out.2.1 HZ.out.2.2 (by rfl) (by decide) _ 1 [.bool x] (by rfl) H3.out ⟨bR, oR, none⟩ (n - 1) cc ((R.take (n - 1)).map VB) (by rfl) HL1.out H1.out H2.out (by unfold maxLen; omega) (by omega) (by simp; omega) ?_; intro v' w1 hown1 hgrow1))
          have hb1 : Below wq.heap.size wq w1 := ((below_a1 wq _).drew).grown hgrow1 (by simp) (by intro k hk; cases hk; exact Nat.le_refl _)
          have hxr : [Value.bool x] ++ List.map VB (List.take (n - 1) R) = (rot R).map VB := by rw [HS.out]; rfl
          rw [hxr] at hown1
          have hnn : 1 + (n - 1) = n := by omega
          rw [hnn] at hown1
          obtain ⟨av, cv, hve, hrv⟩ := rowA_of_owns (d := false) hown1
          rw [hve]
          have HRV := Lib.hid hrv
          have HAV : Hid (RowA VB false (w.heap.size + 1) w1 (some ⟨bA, oA, none⟩) (N - 1) c2 (h.take (N - 1))) := by
            have q := (HAq.out.keep hb1).take (N - 1) c2 (by omega) (by omega) (Nat.le_refl _)
            rw [List.take_take, Nat.min_eq_left (by omega)] at q
            exact q
          have hbl1 : Below (w.heap.size + 1) (w.alloc (.cells #[.slice none 0 0, .slice none 0 0] 34)) w1 := hblq.trans (hb1.mono hszq)
          clear hown1 hgrow1 hve hrv hxr hnn HAq HRq hblq H1 H2 H3 cRq hb1
          have nn5 : (N : Int) - 1 ≤ (c2 : Int) := by omega
          have nn6 : (N : Int) ≤ (c2 : Int) + 1 := by omega
          have nn7 : (1 : Int) ≤ (N : Int) := by omega
          go_wp2
          go_roundw
          case rel => exact ⟨N - 1, n, cv, av, rot R, by omega, hn, hn', rfl, rfl, HAV, HRV, HNEW, hbl1⟩
          case measure => simp; omega
        · have HC : Hid (Canon (h.take N) R) := ⟨HP.out.1, HP.out.2.1, fun q hq => by
            have e1 : q = N - 1 := by rw [List.length_take] at hq; omega
            rw [e1, hRl]
            intro e; exact hxy (Eq.trans (by simp [List.getD_eq_getElem?_getD, List.getElem?_take, show N - 1 < N by omega]) e)⟩
          generalize h.getD (N - 1) false = x at cA hxy
          generalize R.getD (n - 1) false = y at cR hxy
          obtain rfl : y = !x := by cases x <;> cases y <;> simp_all
          clear hxy hNl hRl
          go_wp2_with fail
          go_quiet (fail)
          generalize hq : World.drewN wr _ = wq
          have hbq : Below wr.heap.size wr wq := by rw [← hq]; exact below_drewN (Below.refl _ _) _
          have HRq : Hid (RowA VB false (w.heap.size + 1) wq (some ⟨bR, oR, none⟩) n cc R) := HR.out.keep hbq
          have HAq : Hid (RowA VB false (w.heap.size + 1) wq (some ⟨bA, oA, none⟩) N c2 (h.take N)) := HA.out.keep hbq
          have hblq : Below (w.heap.size + 1) (w.alloc (.cells #[.slice none 0 0, .slice none 0 0] 34)) wq := hbl.trans (hbq.mono hsz)
          have hblk := res_block hblq
          have r0 : wq.cell? ⟨w.heap.size, 0, none⟩ = some (.slice none 0 0) := cell_of_block hblk 0
          have r1 : wq.cell? ⟨w.heap.size, 1, none⟩ = some (.slice none 0 0) := cell_of_block hblk 1
          have f0 := free_of_block hblk 0
          have f1 := free_of_block hblk 1
          have hltw : w.heap.size < wq.heap.size := by have := hbq.size; omega
          clear hq HR HA hbl hsz hbq hblk
          go_wp2
          refine bodyPost_ret (v := .agg #[.slice (some ⟨bA, oA, none⟩) N c2, .slice (some ⟨bR, oR, none⟩) n cc]) (by simp [results, Try.results42, go_sem, r0, r1, f0, f1]) rfl ?_
          refine ⟨_, h.take N, R, rfl, ⟨_, _, R, rfl, ⟨_, _, _, rfl, ?_⟩, ⟨_, _, _, rfl, ?_⟩, ?_⟩, ⟨HC.out, HP.out.2.2, by rw [List.length_take]; omega, by rw [HRq.out.len]; omega⟩, ?_⟩
          · exact ((HAq.out.setCell (by simp) _).setCell (by simp) _).mono (by omega)
          · exact ((HRq.out.setCell (by simp) _).setCell (by simp) _).mono (by omega)
          · unfold ringOf; rw [if_neg HP.out.1]
          · exact ((res_below hblq).setCell (by simp) _).setCell (by simp) _
end Go.Proofs.Ytlbffpojdfhefaa
