/- Part of a proof: the small language, and functions of the program on it. -/
import Derived.Test.YtenicbbhihbkcaaGreatDoorTyC1i
import Derived.Lib.Builder
import Derived.Lib.UnsafeStr
set_option linter.unusedSimpArgs false
set_option linter.unusedVariables false
set_option maxRecDepth 100000
set_option maxHeartbeats 4000000
namespace Go.Proofs.YtenicbbhihbkcaaGreatDoor
open Go.RowKit Go.Ev Go.Shelf
attribute [local go_sem] Oper.semAt_some
structure AV where
  (k : Int) (h : Bool) (sp nm : ByteArray) (op : Int) (tx : ByteArray) (fd : Bool)
@[reducible] def AV.v (x : AV) : Value := .agg #[.int .i64 x.k, .bool x.h, .string x.sp, .string x.nm, .int .i64 x.op, .string x.tx, .bool x.fd]
def AV.cs (x : AV) : List Value := [.int .i64 x.k, .bool x.h, .string x.sp, .string x.nm, .int .i64 x.op, .string x.tx, .bool x.fd]
structure NV where
  (p k : Int) (sp nm : ByteArray) (a : Option Addr) (al ac : Nat) (s : Option Addr) (sl sc : Nat) (tx : ByteArray)
@[reducible] def NV.v (x : NV) : Value := .agg #[.int .i64 x.p, .int .i64 x.k, .string x.sp, .string x.nm, .slice x.a x.al x.ac, .slice x.s x.sl x.sc, .string x.tx]
def tx01 (l : List Bool) : List UInt8 := l.map fun t => if t then 49 else 48
def WB : Prop := ∀ (B b : Nat) (bs : List Value) (c : Int) (w : World), Lib.IsBuilder 386 5 B b bs w → bs.length + 1 ≤ 140737488355328 → B ≤ w.heap.size →
  Calls Tryz.prog 293 #[.pointer (some ⟨b, 0, none⟩), .int .u8 c] w fun e w' => e = .returned .nilIface ∧ (Lib.BuilderAt 386 5 B b (.pointer (some ⟨b, 0, none⟩)) (bs ++ [.int .u8 c]) w' ∧ Below B w w')
def WS : Prop := ∀ (B b : Nat) (l : List UInt8) (w : World), Lib.IsBuilder 386 5 B b (Lib.byteCells l) w → B ≤ w.heap.size →
  Calls Tryz.prog 294 #[.pointer (some ⟨b, 0, none⟩)] w fun e w' => e = .returned (.string ⟨l.toArray⟩) ∧ Below B w w'
theorem tx_take {l : List Bool} {i : Nat} {t : Bool} (h : l[i]? = some t) : Lib.byteCells (tx01 (l.take (i + 1))) = Lib.byteCells (tx01 (l.take i)) ++ [.int .u8 (if t then 49 else 48)] := by
  rw [take_s h]
  unfold tx01 Lib.byteCells
  rw [List.map_append, List.map_append]
  cases t <;> rfl
theorem bld_keep {T e : TypeId} {B b : Nat} {p : Value} {bs : List Value} {w w' : World} (h : Lib.BuilderAt T e B b p bs w) (hb : Below w.heap.size w w') : Lib.BuilderAt T e B b p bs w' := by
  have hlt := h.lt
  obtain ⟨hB, v, hbk, hown, hne⟩ := h
  exact ⟨hB, v, (hb.block b hlt).trans hbk, hown.kept (row := none) (below_grown hb) (Classical.em _), hne⟩
theorem isb_keep {T e : TypeId} {B b : Nat} {bs : List Value} {w w' : World} (h : Lib.IsBuilder T e B b bs w) (hb : Below w.heap.size w.drew w') : Lib.IsBuilder T e B b bs w' := by
  rcases h with h | h
  · exact .inl (bld_keep h.drew hb)
  · exact .inr (bld_keep h.drew hb)
theorem row_calls (hWB : WB) (hWS : WS) (w : World) (vb vo : Nat) (n : NV) (a : Option Addr) (al ac : Nat) (za : Option Addr) (zc : Nat) (zs : List Int) (bits : List Bool)
    (hm : w.cell? ⟨vb, vo, none⟩ = some (.slice a al ac)) (hvb : vb < w.heap.size) (hl : zs.length ≤ 1000) (hbl : bits.length = zs.length) (hal : (al : Int) ≤ 9223372036854775807)
    (hz : ∀ (i : Nat) z, zs[i]? = some z → ∃ b off, za = some ⟨b, off, none⟩ ∧ b < w.heap.size ∧ w.cell? ⟨b, off + i, none⟩ = some (.int .i64 z))
    (ha : ∀ (i : Nat) z t, zs[i]? = some z → bits[i]? = some t → ∃ (x : AV) (b off m : Nat), z = m ∧ m < al ∧ a = some ⟨b, off, none⟩ ∧ b < w.heap.size ∧ (∀ j u, x.cs[j]? = some u → w.cell? ⟨b, off + m * 7 + j, none⟩ = some u) ∧
      ∀ W, Below w.heap.size w W → Calls Tryz.prog 151 #[x.v, n.v] W fun e w' => e = .returned (.bool t) ∧ Below W.heap.size W w') :
    Calls Tryz.prog 266 #[.pointer (some ⟨vb, vo, none⟩), n.v, .slice za zs.length zc] w fun e w' => e = .returned (.string ⟨(tx01 bits).toArray⟩) ∧ Below w.heap.size w w' := by
  refine (callsIn_wide (n := 10)).1 ?_
  obtain ⟨F, hFw⟩ : ∃ F, F = Fence.wide := ⟨_, rfl⟩
  have hro : F.round = none := by rw [hFw]; rfl
  have hf : F.fn 266 := by rw [hFw]; trivial
  have hfH : F.fn 151 := by rw [hFw]; trivial
  have hfW : F.fn 293 := by rw [hFw]; trivial
  have hfS : F.fn 294 := by rw [hFw]; trivial
  have hmx : Tryz.prog.follows .mixedOrders = true := by kernel_rfl
  have hcw : ∀ (n f : Nat) (args : Array Value) (w : World) (R : Ending → World → Prop), Calls Tryz.prog f args w R → CallsIn F n Tryz.prog f args w R := fun n f args w R h => by rw [hFw]; exact callsIn_wide.2 h
  rw [← hFw]
  clear hFw
  refine callsIn_of_wp Tryz.func266 rfl hf ?_ hro
  obtain ⟨n0, n1, s2, s3, a4, l4, c4, a5, l5, c5, s6⟩ := n
  simp only [Tryz.ntmps266, List.size_toArray, List.length_cons, List.length_nil, Nat.reduceAdd, Nat.reduceSub, Array.replicate_succ, Array.replicate_zero, List.push_toArray, List.append_toArray, List.nil_append, List.cons_append]
  gi_wp2
  gi_loopw [12] (fun p wr => ∃ (i : Nat), p = .int .i64 i ∧ i ≤ zs.length ∧ Lib.IsBuilder 386 5 (w.heap.size + 1) (w.heap.size + 1) (Lib.byteCells (tx01 (bits.take i))) wr ∧ Below (w.heap.size + 1) (w.alloc (.cells #[.int .i64 n0, .int .i64 n1, .string s2, .string s3, .slice a4 l4 c4, .slice a5 l5 c5, .string s6] 195)) wr)
    (fun p wr => zs.length - (match p with | .int _ i => i.toNat | _ => 0))
  case atStart =>
    refine ⟨0, rfl, by omega, ?_, ?_⟩
    · have := Lib.fresh_isBuilder 386 5 (w.alloc (.cells #[.int .i64 n0, .int .i64 n1, .string s2, .string s3, .slice a4 l4 c4, .slice a5 l5 c5, .string s6] 195))
      rw [World.size_alloc] at this
      exact this
    · exact (Below.refl _ _).alloc (by simp) _
  case round =>
    obtain ⟨i, rfl, hi, hB, hK⟩ := hrel
    have hsz : w.heap.size + 1 ≤ wr.heap.size := by have := hK.size; simpa using this
    have kw : Below w.heap.size w wr := ((Below.refl _ w).alloc (Nat.le_refl _) _).trans (hK.mono (by omega))
    have cN : ∀ j u, (#[.int .i64 n0, .int .i64 n1, .string s2, .string s3, .slice a4 l4 c4, .slice a5 l5 c5, .string s6] : Array Value)[j]? = some u → wr.cell? ⟨w.heap.size, j, none⟩ = some u := by
      intro j u hj
      rw [hK.cell (p := ⟨w.heap.size, j, none⟩) (by simp)]
      have := World.alloc_heap_new w (.cells #[.int .i64 n0, .int .i64 n1, .string s2, .string s3, .slice a4 l4 c4, .slice a5 l5 c5, .string s6] 195)
      unfold World.cell?
      simp only [this]
      exact hj
    by_cases hil : i < zs.length
    · obtain ⟨z, hzi⟩ : ∃ z, zs[i]? = some z := ⟨_, List.getElem?_eq_getElem hil⟩
      obtain ⟨t, hti⟩ : ∃ t, bits[i]? = some t := ⟨_, List.getElem?_eq_getElem (by omega)⟩
      obtain ⟨zb, zo, rfl, hzb, hzc⟩ := hz i z hzi
      obtain ⟨x, ab, ao, m, rfl, hm2, rfl, hab, hac, hH⟩ := ha i z t hzi hti
      obtain ⟨x0, x1, x2, x3, x4, x5, x6⟩ := x
      have k0 : wr.cell? ⟨w.heap.size, 0, none⟩ = some (.int .i64 n0) := cN 0 _ rfl
      have k1 : wr.cell? ⟨w.heap.size, 1, none⟩ = some (.int .i64 n1) := cN 1 _ rfl
      have k2 : wr.cell? ⟨w.heap.size, 2, none⟩ = some (.string s2) := cN 2 _ rfl
      have k3 : wr.cell? ⟨w.heap.size, 3, none⟩ = some (.string s3) := cN 3 _ rfl
      have k4 : wr.cell? ⟨w.heap.size, 4, none⟩ = some (.slice a4 l4 c4) := cN 4 _ rfl
      have k5 : wr.cell? ⟨w.heap.size, 5, none⟩ = some (.slice a5 l5 c5) := cN 5 _ rfl
      have k6 : wr.cell? ⟨w.heap.size, 6, none⟩ = some (.string s6) := cN 6 _ rfl
      have y0 := (kw.cell (p := ⟨ab, ao + m * 7 + 0, none⟩) hab).trans (hac 0 _ rfl)
      have y1 := (kw.cell (p := ⟨ab, ao + m * 7 + 1, none⟩) hab).trans (hac 1 _ rfl)
      have y2 := (kw.cell (p := ⟨ab, ao + m * 7 + 2, none⟩) hab).trans (hac 2 _ rfl)
      have y3 := (kw.cell (p := ⟨ab, ao + m * 7 + 3, none⟩) hab).trans (hac 3 _ rfl)
      have y4 := (kw.cell (p := ⟨ab, ao + m * 7 + 4, none⟩) hab).trans (hac 4 _ rfl)
      have y5 := (kw.cell (p := ⟨ab, ao + m * 7 + 5, none⟩) hab).trans (hac 5 _ rfl)
      have y6 := (kw.cell (p := ⟨ab, ao + m * 7 + 6, none⟩) hab).trans (hac 6 _ rfl)
      have zc' := (kw.cell (p := ⟨zb, zo + i, none⟩) hzb).trans hzc
      have mc := (kw.cell (p := ⟨vb, vo, none⟩) hvb).trans hm
      simp only [Nat.add_zero] at y0
      have HH := Lib.hid hH
      have KW := Lib.hid kw
      have HB := Lib.hid hB
      have HK := Lib.hid hK
      clear hH hB hK hac hz ha cN kw
      gi_wp2
      gi_region_with_o (gi_at_call 151; go_loud (refine (hcw _ _ _ _ _ (HH.out _ (by exact KW.out.drew))).mono ?_; rintro e w2 ⟨rfl, hb2⟩))
      all_goals
        have B2 := isb_keep HB.out hb2
        have K2 := (HK.out.drew).trans (hb2.mono (by show w.heap.size + 1 ≤ wr.heap.size; exact hsz))
        have S2 : w.heap.size + 1 ≤ w2.heap.size := by have := hb2.size; have h : wr.heap.size ≤ w2.heap.size := this; omega
        have L2 : (Lib.byteCells (tx01 (bits.take i))).length + 1 ≤ 140737488355328 := by simp [Lib.byteCells, tx01]; omega
        have T2 := tx_take hti
        clear HH KW HB HK k0 k1 k2 k3 k4 k5 k6 y0 y1 y2 y3 y4 y5 y6 zc' mc hzc hm
        cases t
        · gi_wp2_with (gi_at_call 293; refine (hcw _ _ _ _ _ (hWB _ _ _ _ _ B2 L2 S2)).mono ?_; rintro e w3 ⟨rfl, hB3, hb3⟩)
          go_roundw
          case rel =>
            exact ⟨i + 1, rfl, by omega, .inr (by rw [T2]; exact hB3), K2.trans hb3⟩
          case measure => simp; omega
        · gi_wp2_with (gi_at_call 293; refine (hcw _ _ _ _ _ (hWB _ _ _ _ _ B2 L2 S2)).mono ?_; rintro e w3 ⟨rfl, hB3, hb3⟩)
          go_roundw
          case rel =>
            exact ⟨i + 1, rfl, by omega, .inr (by rw [T2]; exact hB3), K2.trans hb3⟩
          case measure => simp; omega
    · have e : i = zs.length := by omega
      subst e
      rw [← hbl, List.take_length] at hB
      gi_wp2_with (gi_at_call 294; refine (hcw _ _ _ _ _ (hWS _ _ _ _ hB hsz)).mono ?_; rintro e w' ⟨rfl, hb2⟩)
      go_ret
      exact ⟨rfl, ((Below.refl _ w).alloc (Nat.le_refl _) _).trans ((hK.trans hb2).mono (by omega))⟩
end Go.Proofs.YtenicbbhihbkcaaGreatDoor
