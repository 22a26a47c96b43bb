/- Walks of both, Union, Inter. -/
import Derived.Test.YtlbffpojdfhefaaNthO
namespace Go.Proofs.Ytlbffpojdfhefaa
open Go.RowKit
attribute [local go_sem ↓] Go.wp_at_zero Go.wp_at_succ

theorem satI_dvd (p q : Int) (hp : 1 ≤ p) (hq : 1 ≤ q) (h : satI p q ≤ 400000) : p ∣ satI p q ∧ q ∣ satI p q := by
  unfold satI at h ⊢
  split at h
  · omega
  · rename_i hc
    rw [if_neg hc]
    refine ⟨Int.dvd_mul_right _ _, ?_⟩
    have h1 : gcdI p q ∣ p := Int.gcd_dvd_left p q
    have h2 : gcdI p q ∣ q := Int.gcd_dvd_right p q
    obtain ⟨x, hx⟩ := h1
    have h3 := gcdI_pos p q hp
    obtain ⟨y, hy⟩ := h2
    have hy2 : q / gcdI p q = y := by conv => lhs; lhs; rw [hy]
                                      exact Int.mul_ediv_cancel_left y (by omega)
    rw [hy2]
    refine ⟨x, ?_⟩
    conv => rhs; lhs; rw [hy]
    conv => lhs; lhs; rw [hx]
    rw [Int.mul_assoc, Int.mul_assoc, Int.mul_comm x y]
def lcmN (p q : Nat) : Nat := (satI (p : Int) (q : Int)).toNat
theorem lcmN_ok (p q : Nat) (hp : 1 ≤ p) (hq : 1 ≤ q) : (lcmN p q : Int) = satI p q ∧ 1 ≤ lcmN p q := by
  have := satI_bd (p : Int) (q : Int) (by omega) (by omega)
  unfold lcmN; omega
theorem comes_of_dvd {s : Nat → Bool} {h p q : Nat} (c : Comes s h p) (d : p ∣ q) : Comes s h q := by
  obtain ⟨x, rfl⟩ := d; intro k hk; rw [Nat.mul_comm]; exact c.mul x k hk
theorem comes_both (g : Bool → Bool → Bool) (h r h' r' : List Bool) (hr : 1 ≤ r.length) (hr' : 1 ≤ r'.length) (hb : lcmN r.length r'.length ≤ 400000) :
    Comes (fun k => g (sq h r k) (sq h' r' k)) (max h.length h'.length) (lcmN r.length r'.length) := by
  obtain ⟨e1, _⟩ := lcmN_ok r.length r'.length hr hr'
  obtain ⟨d1, d2⟩ := satI_dvd (r.length : Int) (r'.length : Int) (by omega) (by omega) (by omega)
  rw [← e1] at d1 d2
  have d1 := Int.natCast_dvd_natCast.1 d1
  have d2 := Int.natCast_dvd_natCast.1 d2
  intro k hk
  show g _ _ = g _ _
  rw [comes_of_dvd (sq_comes h r) d1 k (by omega), comes_of_dvd (sq_comes h' r') d2 k (by omega)]

def RetBoth (w : World) (f : Nat → Bool) (mh mr : Nat) (e : Ending) (w' : World) : Prop := ∃ v er h2 r2, e = .returned (.tuple #[v, er]) ∧ SetE w.heap.size w' h2 r2 v er ∧ Canon h2 r2 ∧ (∀ k, sq h2 r2 k = f k) ∧ h2.length ≤ mh ∧ r2.length ≤ mr ∧ Below w.heap.size w w'

set_option maxHeartbeats 2000000 in
theorem both_any (tid : FuncId) (hcf : ∀ args W, (callFunc tid args).run Try.prog W = .ok (.enter tid args) W) (g : Bool → Bool → Bool) (hg : ∀ x y W, Calls Try.prog tid #[.bool x, .bool y] W (RetB W (g x y)))
    (v u : Value) (base base' : Nat) (h r h' r' : List Bool) (w : World) (s : SetAt base w v h r) (s' : SetAt base' w u h' r')
    (hh : h.length ≤ 400000) (hr : 1 ≤ r.length) (hh' : h'.length ≤ 400000) (hr' : 1 ≤ r'.length) (hr2 : r.length ≤ 400000) (hr2' : r'.length ≤ 400000) (hl : lcmN r.length r'.length ≤ 400000) :
    Calls Try.prog 32 #[v, u, .func (.func tid) #[] #[]] w (RetBoth w (fun k => g (sq h r k) (sq h' r' k)) (max h.length h'.length) (lcmN r.length r'.length)) := by
  have hmf : ∀ (fn : Fn) (first cap : Array Value) (w : World), (Instr.makeFunc fn first cap).run Try.prog w = .ok (.func fn first cap) w := fun _ _ _ _ => rfl
  obtain ⟨a0, m0, c0, a1, m1, c1, r0, rfl, h0, h1, e1⟩ := s.open
  obtain ⟨a2, m2, c2, a3, m3, c3, r2, rfl, h2, h3, e3⟩ := s'.open
  have S := Lib.hid s
  have S' := Lib.hid s'
  have HG := Lib.hid hg
  have HCF := Lib.hid hcf
  clear h0 h1 e1 s h2 h3 e3 s' hg hcf
  have hW : Hid (Below w.heap.size w ((((w.alloc (.cells #[.slice a0 m0 c0, .slice a1 m1 c1] 34)).alloc (.cells #[.slice a2 m2 c2, .slice a3 m3 c3] 34)).alloc (.cells #[.func (.func tid) #[] #[]] 54)).alloc (.cells #[.slice none 0 0, .slice none 0 0] 34))) :=
    (((below_a1 _ _).trans ((below_a1 _ _).mono (by simp))).trans ((below_a1 _ _).mono (by simp; omega))).trans ((below_a1 _ _).mono (by simp; omega))
  obtain ⟨le1, le2⟩ := lcmN_ok r.length r'.length hr hr'
  have LE1 := Lib.hid le1
  clear le1
  have x0 : (0 : Int) ≤ (h.length : Int) := by omega
  have x1 : (1 : Int) ≤ (r.length : Int) := by omega
  have x2 : (0 : Int) ≤ (h'.length : Int) := by omega
  have x3 : (1 : Int) ≤ (r'.length : Int) := by omega
  have HCOM := Lib.hid (common_any (r.length : Int) (r'.length : Int) x1 x3 (by omega) (by omega))
  rcases Nat.lt_or_ge h.length h'.length with hc | hc
  · rw [show max h.length h'.length = h'.length by omega]
    have hc' := Int.ofNat_lt.2 hc
    go_enter Try.func32, Try.ntmps32
    go_wp2_with fail
    refine (parts_any _ base h r _ (S.out.keep hW.out)).mono ?_
    rintro e w1 ⟨rfl, hb1⟩
    have hbx : Hid (Below (w.heap.size + 4) ((((w.alloc (.cells #[.slice a0 m0 c0, .slice a1 m1 c1] 34)).alloc (.cells #[.slice a2 m2 c2, .slice a3 m3 c3] 34)).alloc (.cells #[.func (.func tid) #[] #[]] 54)).alloc (.cells #[.slice none 0 0, .slice none 0 0] 34)) w1) := hb1.mono (by simp)
    have q0 : w1.cell? ⟨w.heap.size + 1, 0, none⟩ = some (.slice a2 m2 c2) := by rw [hbx.out.cell (by simp)]; simp [go_sem]
    have q1 : w1.cell? ⟨w.heap.size + 1, 1, none⟩ = some (.slice a3 m3 c3) := by rw [hbx.out.cell (by simp)]; simp [go_sem]
    have hs1 : w.heap.size + 4 ≤ w1.heap.size := by have := hbx.out.size; simpa using this
    clear hb1
    go_wp2_with fail
    refine (parts_any _ base' h' r' _ (S'.out.keep (hW.out.trans (hbx.out.mono (by omega))))).mono ?_
    rintro e w2 ⟨rfl, hb2⟩
    have hby : Hid (Below (w.heap.size + 4) ((((w.alloc (.cells #[.slice a0 m0 c0, .slice a1 m1 c1] 34)).alloc (.cells #[.slice a2 m2 c2, .slice a3 m3 c3] 34)).alloc (.cells #[.func (.func tid) #[] #[]] 54)).alloc (.cells #[.slice none 0 0, .slice none 0 0] 34)) w2) := hbx.out.trans (hb2.mono hs1)
    have hs2 : w.heap.size + 4 ≤ w2.heap.size := Nat.le_trans hs1 hb2.size
    clear hb2 q0 q1
    go_wp2_with fail
    refine (HCOM.out _).mono ?_
    rintro e w3 ⟨rfl, hb3⟩
    have hbz : Hid (Below (w.heap.size + 4) ((((w.alloc (.cells #[.slice a0 m0 c0, .slice a1 m1 c1] 34)).alloc (.cells #[.slice a2 m2 c2, .slice a3 m3 c3] 34)).alloc (.cells #[.func (.func tid) #[] #[]] 54)).alloc (.cells #[.slice none 0 0, .slice none 0 0] 34)) w3) := hby.out.trans (hb3.mono hs2)
    have hs3 : w.heap.size + 4 ≤ w3.heap.size := Nat.le_trans hs2 hb3.size
    clear hb3
    have KC : Hid (∀ W, Below (w.heap.size + 4) ((((w.alloc (.cells #[.slice a0 m0 c0, .slice a1 m1 c1] 34)).alloc (.cells #[.slice a2 m2 c2, .slice a3 m3 c3] 34)).alloc (.cells #[.func (.func tid) #[] #[]] 54)).alloc (.cells #[.slice none 0 0, .slice none 0 0] 34)) W → W.cell? ⟨w.heap.size + 2, 0, none⟩ = some (.func (.func tid) #[] #[]) ∧ W.cell? ⟨w.heap.size, 0, none⟩ = some (.slice a0 m0 c0) ∧ W.cell? ⟨w.heap.size, 1, none⟩ = some (.slice a1 m1 c1) ∧ W.cell? ⟨w.heap.size + 1, 0, none⟩ = some (.slice a2 m2 c2) ∧ W.cell? ⟨w.heap.size + 1, 1, none⟩ = some (.slice a3 m3 c3) ∧ w.heap.size + 4 ≤ W.heap.size) := by
      intro W hb
      refine ⟨?_, ?_, ?_, ?_, ?_, by have := hb.size; simpa using this⟩ <;> (rw [hb.cell (by simp)]; simp [go_sem])
    have HLIST := Lib.hid (listed_any h'.length (lcmN r.length r'.length) 45 #[.pointer (some ⟨w.heap.size + 2, 0, none⟩), .pointer (some ⟨w.heap.size, 0, none⟩), .pointer (some ⟨w.heap.size + 1, 0, none⟩)] (fun k => g (sq h r k) (sq h' r' k)) w3 Try.callBoth1 le2 (by omega) hl (fun i W hi hW2 => by
      have hbW : Below (w.heap.size + 4) ((((w.alloc (.cells #[.slice a0 m0 c0, .slice a1 m1 c1] 34)).alloc (.cells #[.slice a2 m2 c2, .slice a3 m3 c3] 34)).alloc (.cells #[.func (.func tid) #[] #[]] 54)).alloc (.cells #[.slice none 0 0, .slice none 0 0] 34)) W := hbz.out.trans (hW2.mono hs3)
      have hbw : Below w.heap.size w W := hW.out.trans (hbW.mono (by omega))
      obtain ⟨k1, k2, k3, k4, k5, k6⟩ := KC.out W hbW
      exact bothF_any tid HCF.out g HG.out _ _ _ _ _ _ _ base base' h r h' r' i W (S.out.keep hbw) (S'.out.keep hbw) (by omega) (by omega) (by omega) (by omega) (by omega) k1 k2 k3 k4 k5 (by omega) (by omega) (by omega)))
    rw [← LE1.out]
    go_wp2_with fail
    refine HLIST.out.mono ?_
    rintro e w4 ⟨v4, h4, r4, rfl, hset, hp, hb4⟩
    obtain ⟨p1, p2, p3, p4⟩ := hp
    have p5 : ∀ k : Nat, sq h4 r4 k = g (sq h r k) (sq h' r' k) := fun k => by
      rw [p2]; exact sq_row (fun k => g (sq h r k) (sq h' r' k)) _ _ le2 (by have := comes_both g h r h' r' hr hr' hl; rw [show max h.length h'.length = h'.length by omega] at this; exact this) k
    have HP := Lib.hid (And.intro p1 (And.intro p5 (And.intro p3 p4)))
    have hs4 := hb4.size
    clear p1 p2 p3 p4 p5
    obtain ⟨a5, n5, c5, a6, n6, c6, q5, rfl, hv5, hv6, hq5⟩ := hset.open
    have HK := Lib.hid (kept_any _ w3.heap.size h4 r4 w4 hset (by omega) (by have := HP.out.2.2.1; omega) (by have := HP.out.2.2.2; omega))
    clear hv5 hv6 hq5 hset
    go_wp2_with fail
    refine HK.out.mono ?_
    rintro e w5 ⟨v5, er, rfl, hse, hb5⟩
    have hb6 : Below (w.heap.size + 4) ((((w.alloc (.cells #[.slice a0 m0 c0, .slice a1 m1 c1] 34)).alloc (.cells #[.slice a2 m2 c2, .slice a3 m3 c3] 34)).alloc (.cells #[.func (.func tid) #[] #[]] 54)).alloc (.cells #[.slice none 0 0, .slice none 0 0] 34)) w5 := (hbz.out.trans (hb4.mono (by omega))).trans (hb5.mono (by omega))
    have hblk : w5.heap[w.heap.size + 3]? = some (.cells #[.slice none 0 0, .slice none 0 0] 34 (0, 0)) := by
      refine block_below ?_ hb6 (by omega)
      have := heap_alloc_new (((w.alloc (.cells #[.slice a0 m0 c0, .slice a1 m1 c1] 34)).alloc (.cells #[.slice a2 m2 c2, .slice a3 m3 c3] 34)).alloc (.cells #[.func (.func tid) #[] #[]] 54)) (.cells #[.slice none 0 0, .slice none 0 0] 34)
      rwa [World.size_alloc, World.size_alloc, World.size_alloc] at this
    have r0' : w5.cell? ⟨w.heap.size + 3, 0, none⟩ = some (.slice none 0 0) := cell_of_block hblk 0
    have r1' : w5.cell? ⟨w.heap.size + 3, 1, none⟩ = some (.slice none 0 0) := cell_of_block hblk 1
    have f0 := free_of_block hblk 0
    have f1 := free_of_block hblk 1
    have HLT := lt_of_block hblk
    have HB := Lib.hid hb6
    clear hblk hb6 hb5 hb4
    rcases hse with ⟨g1, g2, rfl⟩ | ⟨g1, rfl, g3⟩
    · obtain ⟨a7, n7, c7, a8, n8, c8, q7, rfl, hv7, hv8, hq7⟩ := g2.open
      have G := Lib.hid (And.intro hv7 (And.intro hv8 hq7))
      clear hv7 hv8 hq7 g2
      go_wp2
      refine bodyPost_ret (v := .tuple #[.agg #[.slice a7 n7 c7, .slice a8 n8 c8], .nilIface]) (by simp [results, Try.results32, go_sem, r0', r1', f0, f1]) rfl ?_
      have hq : w.heap.size + 3 < w3.heap.size := by omega
      obtain ⟨p1, p5, p3, p4⟩ := HP.out
      refine ⟨_, _, h4, r4, rfl, .inl ⟨g1, ⟨_, _, q7, rfl, ⟨_, _, _, rfl, ((G.out.1.setCell (by exact hq) _).setCell (by exact hq) _).mono (by omega)⟩, ⟨_, _, _, rfl, ((G.out.2.1.setCell (by exact hq) _).setCell (by exact hq) _).mono (by omega)⟩, G.out.2.2⟩, rfl⟩, p1, p5, p3, p4, ?_⟩
      exact ((hW.out.trans (HB.out.mono (by omega))).setCell (by show _ ≤ w.heap.size + 3; omega) _).setCell (by show _ ≤ w.heap.size + 3; omega) _
    · obtain ⟨b, rfl, g4, g5⟩ := g3
      have G := Lib.hid (show ErrAt w3.heap.size w5 (.iface 65 (.pointer (some ⟨b, 0, none⟩))) 3 0 from ⟨b, rfl, g4, g5⟩)
      clear g5
      go_wp2
      refine bodyPost_ret (v := .tuple #[.agg #[.slice none 0 0, .slice none 0 0], .iface 65 (.pointer (some ⟨b, 0, none⟩))]) (by simp [results, Try.results32, go_sem, r0', r1', f0, f1]) rfl ?_
      obtain ⟨p1, p5, p3, p4⟩ := HP.out
      refine ⟨_, _, h4, r4, rfl, .inr ⟨g1, rfl, ((G.out.setCell (by show w.heap.size + 3 < _; omega) _).setCell (by show w.heap.size + 3 < _; omega) _).mono (by omega)⟩, p1, p5, p3, p4, ?_⟩
      exact ((hW.out.trans (HB.out.mono (by omega))).setCell (by show _ ≤ w.heap.size + 3; omega) _).setCell (by show _ ≤ w.heap.size + 3; omega) _
  · rw [show max h.length h'.length = h.length by omega]
    have hc' := Int.ofNat_le.2 hc
    go_enter Try.func32, Try.ntmps32
    go_wp2_with fail
    refine (parts_any _ base h r _ (S.out.keep hW.out)).mono ?_
    rintro e w1 ⟨rfl, hb1⟩
    have hbx : Hid (Below (w.heap.size + 4) ((((w.alloc (.cells #[.slice a0 m0 c0, .slice a1 m1 c1] 34)).alloc (.cells #[.slice a2 m2 c2, .slice a3 m3 c3] 34)).alloc (.cells #[.func (.func tid) #[] #[]] 54)).alloc (.cells #[.slice none 0 0, .slice none 0 0] 34)) w1) := hb1.mono (by simp)
    have q0 : w1.cell? ⟨w.heap.size + 1, 0, none⟩ = some (.slice a2 m2 c2) := by rw [hbx.out.cell (by simp)]; simp [go_sem]
    have q1 : w1.cell? ⟨w.heap.size + 1, 1, none⟩ = some (.slice a3 m3 c3) := by rw [hbx.out.cell (by simp)]; simp [go_sem]
    have hs1 : w.heap.size + 4 ≤ w1.heap.size := by have := hbx.out.size; simpa using this
    clear hb1
    go_wp2_with fail
    refine (parts_any _ base' h' r' _ (S'.out.keep (hW.out.trans (hbx.out.mono (by omega))))).mono ?_
    rintro e w2 ⟨rfl, hb2⟩
    have hby : Hid (Below (w.heap.size + 4) ((((w.alloc (.cells #[.slice a0 m0 c0, .slice a1 m1 c1] 34)).alloc (.cells #[.slice a2 m2 c2, .slice a3 m3 c3] 34)).alloc (.cells #[.func (.func tid) #[] #[]] 54)).alloc (.cells #[.slice none 0 0, .slice none 0 0] 34)) w2) := hbx.out.trans (hb2.mono hs1)
    have hs2 : w.heap.size + 4 ≤ w2.heap.size := Nat.le_trans hs1 hb2.size
    clear hb2 q0 q1
    go_wp2_with fail
    refine (HCOM.out _).mono ?_
    rintro e w3 ⟨rfl, hb3⟩
    have hbz : Hid (Below (w.heap.size + 4) ((((w.alloc (.cells #[.slice a0 m0 c0, .slice a1 m1 c1] 34)).alloc (.cells #[.slice a2 m2 c2, .slice a3 m3 c3] 34)).alloc (.cells #[.func (.func tid) #[] #[]] 54)).alloc (.cells #[.slice none 0 0, .slice none 0 0] 34)) w3) := hby.out.trans (hb3.mono hs2)
    have hs3 : w.heap.size + 4 ≤ w3.heap.size := Nat.le_trans hs2 hb3.size
    clear hb3
    have KC : Hid (∀ W, Below (w.heap.size + 4) ((((w.alloc (.cells #[.slice a0 m0 c0, .slice a1 m1 c1] 34)).alloc (.cells #[.slice a2 m2 c2, .slice a3 m3 c3] 34)).alloc (.cells #[.func (.func tid) #[] #[]] 54)).alloc (.cells #[.slice none 0 0, .slice none 0 0] 34)) W → W.cell? ⟨w.heap.size + 2, 0, none⟩ = some (.func (.func tid) #[] #[]) ∧ W.cell? ⟨w.heap.size, 0, none⟩ = some (.slice a0 m0 c0) ∧ W.cell? ⟨w.heap.size, 1, none⟩ = some (.slice a1 m1 c1) ∧ W.cell? ⟨w.heap.size + 1, 0, none⟩ = some (.slice a2 m2 c2) ∧ W.cell? ⟨w.heap.size + 1, 1, none⟩ = some (.slice a3 m3 c3) ∧ w.heap.size + 4 ≤ W.heap.size) := by
      intro W hb
      refine ⟨?_, ?_, ?_, ?_, ?_, by have := hb.size; simpa using this⟩ <;> (rw [hb.cell (by simp)]; simp [go_sem])
    have HLIST := Lib.hid (listed_any h.length (lcmN r.length r'.length) 45 #[.pointer (some ⟨w.heap.size + 2, 0, none⟩), .pointer (some ⟨w.heap.size, 0, none⟩), .pointer (some ⟨w.heap.size + 1, 0, none⟩)] (fun k => g (sq h r k) (sq h' r' k)) w3 Try.callBoth1 le2 (by omega) hl (fun i W hi hW2 => by
      have hbW : Below (w.heap.size + 4) ((((w.alloc (.cells #[.slice a0 m0 c0, .slice a1 m1 c1] 34)).alloc (.cells #[.slice a2 m2 c2, .slice a3 m3 c3] 34)).alloc (.cells #[.func (.func tid) #[] #[]] 54)).alloc (.cells #[.slice none 0 0, .slice none 0 0] 34)) W := hbz.out.trans (hW2.mono hs3)
      have hbw : Below w.heap.size w W := hW.out.trans (hbW.mono (by omega))
      obtain ⟨k1, k2, k3, k4, k5, k6⟩ := KC.out W hbW
      exact bothF_any tid HCF.out g HG.out _ _ _ _ _ _ _ base base' h r h' r' i W (S.out.keep hbw) (S'.out.keep hbw) (by omega) (by omega) (by omega) (by omega) (by omega) k1 k2 k3 k4 k5 (by omega) (by omega) (by omega)))
    rw [← LE1.out]
    go_wp2_with fail
    refine HLIST.out.mono ?_
    rintro e w4 ⟨v4, h4, r4, rfl, hset, hp, hb4⟩
    obtain ⟨p1, p2, p3, p4⟩ := hp
    have p5 : ∀ k : Nat, sq h4 r4 k = g (sq h r k) (sq h' r' k) := fun k => by
      rw [p2]; exact sq_row (fun k => g (sq h r k) (sq h' r' k)) _ _ le2 (by have := comes_both g h r h' r' hr hr' hl; rw [show max h.length h'.length = h.length by omega] at this; exact this) k
    have HP := Lib.hid (And.intro p1 (And.intro p5 (And.intro p3 p4)))
    have hs4 := hb4.size
    clear p1 p2 p3 p4 p5
    obtain ⟨a5, n5, c5, a6, n6, c6, q5, rfl, hv5, hv6, hq5⟩ := hset.open
    have HK := Lib.hid (kept_any _ w3.heap.size h4 r4 w4 hset (by omega) (by have := HP.out.2.2.1; omega) (by have := HP.out.2.2.2; omega))
    clear hv5 hv6 hq5 hset
    go_wp2_with fail
    refine HK.out.mono ?_
    rintro e w5 ⟨v5, er, rfl, hse, hb5⟩
    have hb6 : Below (w.heap.size + 4) ((((w.alloc (.cells #[.slice a0 m0 c0, .slice a1 m1 c1] 34)).alloc (.cells #[.slice a2 m2 c2, .slice a3 m3 c3] 34)).alloc (.cells #[.func (.func tid) #[] #[]] 54)).alloc (.cells #[.slice none 0 0, .slice none 0 0] 34)) w5 := (hbz.out.trans (hb4.mono (by omega))).trans (hb5.mono (by omega))
    have hblk : w5.heap[w.heap.size + 3]? = some (.cells #[.slice none 0 0, .slice none 0 0] 34 (0, 0)) := by
      refine block_below ?_ hb6 (by omega)
      have := heap_alloc_new (((w.alloc (.cells #[.slice a0 m0 c0, .slice a1 m1 c1] 34)).alloc (.cells #[.slice a2 m2 c2, .slice a3 m3 c3] 34)).alloc (.cells #[.func (.func tid) #[] #[]] 54)) (.cells #[.slice none 0 0, .slice none 0 0] 34)
      rwa [World.size_alloc, World.size_alloc, World.size_alloc] at this
    have r0' : w5.cell? ⟨w.heap.size + 3, 0, none⟩ = some (.slice none 0 0) := cell_of_block hblk 0
    have r1' : w5.cell? ⟨w.heap.size + 3, 1, none⟩ = some (.slice none 0 0) := cell_of_block hblk 1
    have f0 := free_of_block hblk 0
    have f1 := free_of_block hblk 1
    have HLT := lt_of_block hblk
    have HB := Lib.hid hb6
    clear hblk hb6 hb5 hb4
    rcases hse with ⟨g1, g2, rfl⟩ | ⟨g1, rfl, g3⟩
    · obtain ⟨a7, n7, c7, a8, n8, c8, q7, rfl, hv7, hv8, hq7⟩ := g2.open
      have G := Lib.hid (And.intro hv7 (And.intro hv8 hq7))
      clear hv7 hv8 hq7 g2
      go_wp2
      refine bodyPost_ret (v := .tuple #[.agg #[.slice a7 n7 c7, .slice a8 n8 c8], .nilIface]) (by simp [results, Try.results32, go_sem, r0', r1', f0, f1]) rfl ?_
      have hq : w.heap.size + 3 < w3.heap.size := by omega
      obtain ⟨p1, p5, p3, p4⟩ := HP.out
      refine ⟨_, _, h4, r4, rfl, .inl ⟨g1, ⟨_, _, q7, rfl, ⟨_, _, _, rfl, ((G.out.1.setCell (by exact hq) _).setCell (by exact hq) _).mono (by omega)⟩, ⟨_, _, _, rfl, ((G.out.2.1.setCell (by exact hq) _).setCell (by exact hq) _).mono (by omega)⟩, G.out.2.2⟩, rfl⟩, p1, p5, p3, p4, ?_⟩
      exact ((hW.out.trans (HB.out.mono (by omega))).setCell (by show _ ≤ w.heap.size + 3; omega) _).setCell (by show _ ≤ w.heap.size + 3; omega) _
    · obtain ⟨b, rfl, g4, g5⟩ := g3
      have G := Lib.hid (show ErrAt w3.heap.size w5 (.iface 65 (.pointer (some ⟨b, 0, none⟩))) 3 0 from ⟨b, rfl, g4, g5⟩)
      clear g5
      go_wp2
      refine bodyPost_ret (v := .tuple #[.agg #[.slice none 0 0, .slice none 0 0], .iface 65 (.pointer (some ⟨b, 0, none⟩))]) (by simp [results, Try.results32, go_sem, r0', r1', f0, f1]) rfl ?_
      obtain ⟨p1, p5, p3, p4⟩ := HP.out
      refine ⟨_, _, h4, r4, rfl, .inr ⟨g1, rfl, ((G.out.setCell (by show w.heap.size + 3 < _; omega) _).setCell (by show w.heap.size + 3 < _; omega) _).mono (by omega)⟩, p1, p5, p3, p4, ?_⟩
      exact ((hW.out.trans (HB.out.mono (by omega))).setCell (by show _ ≤ w.heap.size + 3; omega) _).setCell (by show _ ≤ w.heap.size + 3; omega) _
end Go.Proofs.Ytlbffpojdfhefaa
