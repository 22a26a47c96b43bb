/- Small forms of nth's contracts for the laws over two An+B. -/
import Derived.Test.YtlbffpojdfhefaaNthV
import Derived.Test.YtlbffpojdfhefaaStep
import Derived.Maps.AppendAt
namespace Go.Proofs.Ytlbffpojdfhefaa
open Go.RowKit

theorem satI_le (p q : Int) (hp : 1 ≤ p) (hq : 1 ≤ q) (h : p * q ≤ 4611686018427387904) : satI p q ≤ p * q := by
  have h1 := quo_le p q hp hq
  have h0 := quo_pos p q hp hq
  have h2 : p * (q / gcdI p q) ≤ p * q := Int.mul_le_mul_of_nonneg_left h1 (by omega)
  unfold satI
  split
  · rename_i hc
    exfalso
    have h3 : p ≤ 4611686018427387904 / (q / gcdI p q) := (Int.le_ediv_iff_mul_le (by omega)).2 (by omega)
    omega
  · exact h2
theorem lcmN_le (p q : Nat) (hp : 1 ≤ p) (hq : 1 ≤ q) (hp2 : p ≤ 2000) (hq2 : q ≤ 2000) : lcmN p q ≤ p * q := by
  have hm : p * q ≤ 2000 * 2000 := Nat.mul_le_mul hp2 hq2
  have h := satI_le (p : Int) (q : Int) (by omega) (by omega) (by rw [← Int.natCast_mul]; omega)
  unfold lcmN
  rw [← Int.natCast_mul] at h
  omega
theorem sq_ext_far {s s' : Nat → Bool} {m p : Nat} (hp : 0 < p) (c : Comes s m p) (c' : Comes s' m p) (h : ∀ k, k < m + p → s k = s' k) : ∀ k, s k = s' k := by
  intro k
  by_cases hk : k < m + p
  · exact h k hk
  · have hq := Nat.mod_lt (k - m) hp
    have e2 := Nat.mod_add_div (k - m) p
    rw [Nat.mul_comm] at e2
    have h1 := c.mul ((k - m) / p) (m + (k - m) % p) (by omega)
    have h2 := c'.mul ((k - m) / p) (m + (k - m) % p) (by omega)
    rw [show m + (k - m) % p + (k - m) / p * p = k by omega] at h1 h2
    rw [h1, h2, h _ (by omega)]
/-- Small sets: a head of at most 12, a round of at most 12. -/
def Small (h r : List Bool) : Prop := h.length ≤ 12 ∧ 1 ≤ r.length ∧ r.length ≤ 12
theorem small_both {h r h' r' : List Bool} (s : Small h r) (s' : Small h' r') : 1 ≤ lcmN r.length r'.length ∧ lcmN r.length r'.length ≤ 144 := by
  obtain ⟨_, a, b⟩ := s
  obtain ⟨_, c, d⟩ := s'
  have h1 := lcmN_le r.length r'.length a c (by omega) (by omega)
  have h2 : r.length * r'.length ≤ 12 * 12 := Nat.mul_le_mul b d
  exact ⟨(lcmN_ok _ _ a c).2, by omega⟩
def RetSetN (w : World) (P : List Bool → List Bool → Prop) (e : Ending) (w' : World) : Prop := ∃ a m c a' m' c' h r, e = .returned (.tuple #[.agg #[.slice a m c, .slice a' m' c'], .nilIface]) ∧ SetAt 0 w' (.agg #[.slice a m c, .slice a' m' c']) h r ∧ P h r ∧ Below w.heap.size w w'
theorem of_small (A B : Int) (w : World) (hs : smallB A B 12 = true) :
    Calls Try.prog 14 #[.agg #[.int .i64 A, .int .i64 B]] w (RetSetN w fun h r => Canon h r ∧ (∀ k : Nat, sq h r k = hasB A B ((k : Int) + 1)) ∧ Small h r) := by
  have hb := smallB_bd hs
  refine (of_ok A B w (by omega) (by omega)).mono ?_
  rintro e w' ⟨v, h, r, rfl, s, c, q, l1, l2, _, hbl⟩
  obtain ⟨a0, m0, x0, a1, m1, x1, r0, rfl, -, -, -⟩ := s.open
  refine ⟨_, _, _, _, _, _, h, r, rfl, s.mono (Nat.zero_le _), ⟨c, q, ?_, List.length_pos_iff.2 c.1, ?_⟩, hbl⟩
  · unfold hdOf headI at l1; split at l1 <;> simp only at * <;> omega
  · unfold rdOf at l2; split at l2 <;> omega
theorem both_small {w : World} {f : Nat → Bool} {mh mr : Nat} (hh : mh + mr ≤ 4096) {e : Ending} {w' : World} (h : RetBoth w f mh mr e w') :
    RetSetN w (fun h r => Canon h r ∧ (∀ k, sq h r k = f k) ∧ h.length ≤ mh ∧ r.length ≤ mr) e w' := by
  obtain ⟨v, er, h2, r2, rfl, hse, c, q, l1, l2, hb⟩ := h
  rcases hse with ⟨_, s, rfl⟩ | ⟨l3, _, _⟩
  · obtain ⟨a0, m0, x0, a1, m1, x1, r0, rfl, -, -, -⟩ := s.open
    exact ⟨_, _, _, _, _, _, h2, r2, rfl, s.mono (Nat.zero_le _), ⟨c, q, l1, l2⟩, hb⟩
  · omega
theorem union_small (v u : Value) (h r h' r' : List Bool) (w : World) (s : SetAt 0 w v h r) (s' : SetAt 0 w u h' r') (z : Small h r) (z' : Small h' r') :
    Calls Try.prog 15 #[v, u] w (RetSetN w fun h2 r2 => Canon h2 r2 ∧ (∀ k, sq h2 r2 k = (sq h r k || sq h' r' k)) ∧ h2.length ≤ 12 ∧ r2.length ≤ 144) := by
  have hl := small_both z z'
  obtain ⟨z1, z2, z3⟩ := z
  obtain ⟨y1, y2, y3⟩ := z'
  refine (union_any v u 0 0 h r h' r' w s s' (by omega) z2 (by omega) y2 (by omega) (by omega) (by omega)).mono fun e w' hh => ?_
  obtain ⟨a, m, c, a', m', c', h2, r2, he, hs, ⟨p1, p2, p3, p4⟩, hb⟩ := both_small (by omega) hh
  exact ⟨a, m, c, a', m', c', h2, r2, he, hs, ⟨p1, p2, by omega, by omega⟩, hb⟩
theorem inter_small (v u : Value) (h r h' r' : List Bool) (w : World) (s : SetAt 0 w v h r) (s' : SetAt 0 w u h' r') (z : Small h r) (z' : Small h' r') :
    Calls Try.prog 16 #[v, u] w (RetSetN w fun h2 r2 => Canon h2 r2 ∧ (∀ k, sq h2 r2 k = (sq h r k && sq h' r' k)) ∧ h2.length ≤ 12 ∧ r2.length ≤ 144) := by
  have hl := small_both z z'
  obtain ⟨z1, z2, z3⟩ := z
  obtain ⟨y1, y2, y3⟩ := z'
  refine (inter_any v u 0 0 h r h' r' w s s' (by omega) z2 (by omega) y2 (by omega) (by omega) (by omega)).mono fun e w' hh => ?_
  obtain ⟨a, m, c, a', m', c', h2, r2, he, hs, ⟨p1, p2, p3, p4⟩, hb⟩ := both_small (by omega) hh
  exact ⟨a, m, c, a', m', c', h2, r2, he, hs, ⟨p1, p2, by omega, by omega⟩, hb⟩
/-- The same, and what is made lies in new blocks. -/
def RetSetF (w : World) (P : List Bool → List Bool → Prop) (e : Ending) (w' : World) : Prop := ∃ a m c a' m' c' h r, e = .returned (.tuple #[.agg #[.slice a m c, .slice a' m' c'], .nilIface]) ∧ SetAt w.heap.size w' (.agg #[.slice a m c, .slice a' m' c']) h r ∧ P h r ∧ Below w.heap.size w w'
theorem both_smallF {w : World} {f : Nat → Bool} {mh mr : Nat} (hh : mh + mr ≤ 4096) {e : Ending} {w' : World} (h : RetBoth w f mh mr e w') :
    RetSetF w (fun h r => Canon h r ∧ (∀ k, sq h r k = f k) ∧ h.length ≤ mh ∧ r.length ≤ mr) e w' := by
  obtain ⟨v, er, h2, r2, rfl, hse, c, q, l1, l2, hb⟩ := h
  rcases hse with ⟨_, s, rfl⟩ | ⟨l3, _, _⟩
  · obtain ⟨a0, m0, x0, a1, m1, x1, r0, rfl, -, -, -⟩ := s.open
    exact ⟨_, _, _, _, _, _, h2, r2, rfl, s, ⟨c, q, l1, l2⟩, hb⟩
  · omega
theorem inter_smallF (v u : Value) (h r h' r' : List Bool) (w : World) (s : SetAt 0 w v h r) (s' : SetAt 0 w u h' r') (z : Small h r) (z' : Small h' r') :
    Calls Try.prog 16 #[v, u] w (RetSetF w fun h2 r2 => Canon h2 r2 ∧ (∀ k, sq h2 r2 k = (sq h r k && sq h' r' k)) ∧ h2.length ≤ 12 ∧ r2.length ≤ 144) := by
  have hl := small_both z z'
  obtain ⟨z1, z2, z3⟩ := z
  obtain ⟨y1, y2, y3⟩ := z'
  refine (inter_any v u 0 0 h r h' r' w s s' (by omega) z2 (by omega) y2 (by omega) (by omega) (by omega)).mono fun e w' hh => ?_
  obtain ⟨a, m, c, a', m', c', h2, r2, he, hs, ⟨p1, p2, p3, p4⟩, hb⟩ := both_smallF (by omega) hh
  exact ⟨a, m, c, a', m', c', h2, r2, he, hs, ⟨p1, p2, by omega, by omega⟩, hb⟩
theorem union_smallF (v u : Value) (h r h' r' : List Bool) (w : World) (s : SetAt 0 w v h r) (s' : SetAt 0 w u h' r') (z : Small h r) (z' : Small h' r') :
    Calls Try.prog 15 #[v, u] w (RetSetF w fun h2 r2 => Canon h2 r2 ∧ (∀ k, sq h2 r2 k = (sq h r k || sq h' r' k)) ∧ h2.length ≤ 12 ∧ r2.length ≤ 144) := by
  have hl := small_both z z'
  obtain ⟨z1, z2, z3⟩ := z
  obtain ⟨y1, y2, y3⟩ := z'
  refine (union_any v u 0 0 h r h' r' w s s' (by omega) z2 (by omega) y2 (by omega) (by omega) (by omega)).mono fun e w' hh => ?_
  obtain ⟨a, m, c, a', m', c', h2, r2, he, hs, ⟨p1, p2, p3, p4⟩, hb⟩ := both_smallF (by omega) hh
  exact ⟨a, m, c, a', m', c', h2, r2, he, hs, ⟨p1, p2, by omega, by omega⟩, hb⟩
theorem SetAt.setCell {base w v h r} (s : SetAt base w v h r) {p : Addr} (hp : p.block < base) (u : Value) : SetAt base (w.setCell p u) v h r := by
  obtain ⟨v0, v1, r0, e, ⟨a, n, c, e0, h0⟩, ⟨a', n', c', e1, h1⟩, er⟩ := s
  exact ⟨v0, v1, r0, e, ⟨a, n, c, e0, h0.setCell hp u⟩, ⟨a', n', c', e1, h1.setCell hp u⟩, er⟩
theorem store_two {W c : World} {b : Nat} {x0 x1 p q v : Value} {t : TypeId} {h r : List Bool} (hb : W.heap[b]? = some (.cells #[x0, x1] t (0, 0)) ∧ b < c.heap.size) (s : SetAt c.heap.size W v h r) :
    ((W.setCell ⟨b, 0, none⟩ p).setCell ⟨b, 1, none⟩ q).heap[b]? = some (.cells #[p, q] t (0, 0)) ∧ SetAt 0 ((W.setCell ⟨b, 0, none⟩ p).setCell ⟨b, 1, none⟩ q) v h r := by
  refine ⟨?_, ((s.setCell hb.2 p).setCell hb.2 q).mono (Nat.zero_le _)⟩
  have := setCell_block (setCell_block hb.1 0 p) 1 q
  simpa using this
theorem not_small2 (v : Value) (h r : List Bool) (w : World) (s : SetAt 0 w v h r) (z : Small h r) :
    Calls Try.prog 17 #[v] w fun e w' => ∃ a m c a' m' c' h2 r2, e = .returned (.agg #[.slice a m c, .slice a' m' c']) ∧ SetAt 0 w' (.agg #[.slice a m c, .slice a' m' c']) h2 r2 ∧ (Canon h2 r2 ∧ (∀ k, sq h2 r2 k = !sq h r k) ∧ Small h2 r2) ∧ Below w.heap.size w w' := by
  obtain ⟨z1, z2, z3⟩ := z
  refine (not_any v 0 h r w s z2 (by omega) (by omega)).mono fun e w' hh => ?_
  obtain ⟨v2, h2, r2, he, hs, ⟨p1, p2, p3, p4⟩, hb⟩ := hh
  obtain ⟨a0, m0, x0, a1, m1, x1, r0, rfl, -, -, -⟩ := hs.open
  exact ⟨_, _, _, _, _, _, h2, r2, he, hs.mono (Nat.zero_le _), ⟨p1, p2, by omega, List.length_pos_iff.2 p1.1, by omega⟩, hb⟩
theorem same_small (v u : Value) (h r h' r' : List Bool) (w : World) (s : SetAt 0 w v h r) (s' : SetAt 0 w u h' r') (c : Canon h r) (c' : Canon h' r') (x : Bool) (hx : (x = true ↔ ∀ k, sq h r k = sq h' r' k)) :
    Calls Try.prog 18 #[v, u] w (RetB w x) := by
  have := same_any v u 0 0 h r h' r' w s s'
  have e : (eqB h h' && eqB r r') = x := by
    rw [Bool.eq_iff_iff, hx]
    unfold eqB
    simp only [Bool.and_eq_true, decide_eq_true_eq]
    constructor
    · rintro ⟨rfl, rfl⟩ k; rfl
    · exact canon_unique c c'
  rwa [e] at this
/-- Two rows of bools of the call's own, in two blocks. -/
def Own2 (B : Nat) (w : World) (v1 v2 : Value) (n1 n2 : Nat) (xs ys : List Bool) : Prop :=
  w.ownsRow B 4 1 v1 n1 (xs.map VB) ∧ w.ownsRow B 4 1 v2 n2 (ys.map VB) ∧ v1.ownBlock ≠ v2.ownBlock
theorem Own2.start {w w' : World} {B : Nat} (hB : B ≤ w.heap.size) (h : ((w.alloc (.cells #[] 4)).alloc (.cells #[] 4)) = w') :
    Own2 B w' (.slice (some ⟨w.heap.size, 0, none⟩) 0 0) (.slice (some ⟨w.heap.size + 1, 0, none⟩) 0 0) 0 0 [] [] := by
  subst h
  refine ⟨(World.ownsRow_made w #[] 0 hB (by simp [maxLen]) rfl).alloc _, ?_, by simp [Value.ownBlock]⟩
  have := World.ownsRow_made (w.alloc (.cells #[] 4)) #[] 0 (base := B) (e := 4) (size := 1) (by simp; omega) (by simp [maxLen]) rfl
  rwa [World.size_alloc] at this
/-- Behind an append to the first. -/
theorem Own2.first {w w1 : World} {B : Nat} {v1 v2 v1' : Value} {n1 n2 : Nat} {xs ys : List Bool} {x : Bool} {o : Obj} (h : Own2 B w v1 v2 n1 n2 xs ys)
    (ho : w1.ownsRow B 4 1 v1' (n1 + 1) (xs.map VB ++ [.bool x])) (hg : (w.alloc o).grownBy w1 v1.ownBlock) (hv : v1'.ownBlock = v1.ownBlock ∨ v1'.ownBlock = some (w.alloc o).heap.size) :
    Own2 B w1 v1' v2 (n1 + 1) n2 (xs ++ [x]) ys := by
  obtain ⟨a, b, c⟩ := h
  refine ⟨by rw [List.map_append]; exact ho, (b.alloc o).kept hg (.inr c.symm), ?_⟩
  rcases hv with e | e
  · rw [e]; exact c
  · rw [e]; intro e2
    have := (b.lt _ e2.symm).2
    simp at this
    omega
theorem Own2.second {w w1 : World} {B : Nat} {v1 v2 v2' : Value} {n1 n2 : Nat} {xs ys : List Bool} {x : Bool} {o : Obj} (h : Own2 B w v1 v2 n1 n2 xs ys)
    (ho : w1.ownsRow B 4 1 v2' (n2 + 1) (ys.map VB ++ [.bool x])) (hg : (w.alloc o).grownBy w1 v2.ownBlock) (hv : v2'.ownBlock = v2.ownBlock ∨ v2'.ownBlock = some (w.alloc o).heap.size) :
    Own2 B w1 v1 v2' n1 (n2 + 1) xs (ys ++ [x]) := by
  obtain ⟨a, b, c⟩ := h
  refine ⟨(a.alloc o).kept hg (.inr c), by rw [List.map_append]; exact ho, ?_⟩
  rcases hv with e | e
  · rw [e]; exact c
  · rw [e]; intro e2
    have := (a.lt _ e2).2
    simp at this
    omega
theorem grown_below {w w1 : World} {B : Nat} {v : Value} {e : TypeId} {n : Nat} {xs : List Value} {o : Obj} (hB : B ≤ w.heap.size) (h : w.ownsRow B e 1 v n xs) (hg : (w.alloc o).grownBy w1 v.ownBlock) : Below B w w1 :=
  ((Below.refl _ _).alloc hB o).grown hg (by simp; omega) (fun j hj => (h.lt j hj).1)
def eqTo (f g : Nat → Bool) (k : Nat) : Bool := (List.range k).all fun j => f j == g j
theorem eqTo_succ (f g : Nat → Bool) (k : Nat) : eqTo f g (k + 1) = (eqTo f g k && (f k == g k)) := by simp [eqTo, List.range_succ]
theorem eqTo_iff (f g : Nat → Bool) (k : Nat) : eqTo f g k = true ↔ ∀ j, j < k → f j = g j := by simp [eqTo]
theorem rowOf_succ (f : Nat → Bool) (n : Nat) : rowOf f (n + 1) = rowOf f n ++ [f n] := by simp [rowOf, List.range_succ]
theorem small_ext {h r h' r' : List Bool} (z : Small h r) (z' : Small h' r') (e : ∀ k, k < 400 → sq h r k = sq h' r' k) : ∀ k, sq h r k = sq h' r' k := by
  have hl := small_both z z'
  obtain ⟨z1, z2, z3⟩ := z
  obtain ⟨y1, y2, y3⟩ := z'
  obtain ⟨e1, _⟩ := lcmN_ok r.length r'.length z2 y2
  obtain ⟨d1, d2⟩ := satI_dvd (r.length : Int) (r'.length : Int) (by omega) (by omega) (by omega)
  rw [← e1] at d1 d2
  refine sq_ext_far (m := 12) (p := lcmN r.length r'.length) (by omega) ?_ ?_ (fun k hk => e k (by omega))
  · intro k hk; exact comes_of_dvd (sq_comes h r) (Int.natCast_dvd_natCast.1 d1) k (by omega)
  · intro k hk; exact comes_of_dvd (sq_comes h' r') (Int.natCast_dvd_natCast.1 d2) k (by omega)
theorem sq_all (k : Nat) : sq [] [true] k = true := by simp [sq, per, Nat.mod_one]
theorem canon_all : Canon [] [true] := ⟨by simp, fun m h1 h2 => by simp at h2; omega, fun n hn => by simp at hn⟩
theorem has_all (v : Value) (base : Nat) (h r : List Bool) (w : World) (s : SetAt base w v h r) (hp : h = [] ∧ r = [true]) :
    Calls Try.prog 20 #[v, .int .i64 1] w (RetB w true) := by
  obtain ⟨rfl, rfl⟩ := hp
  have := hasSet_any v base [] [true] 1 w s (by omega) (by omega) (by simp) (by simp)
  have e : (decide ((1 : Int) ≤ 1) && sq [] [true] ((1 : Int) - 1).toNat) = true := by rw [sq_all]; rfl
  rwa [e] at this
theorem same_allx (v u : Value) (b : Nat) (h r h' r' : List Bool) (w : World) (s : SetAt 0 w v h r) (s' : SetAt b w u h' r') (c : Canon h r) (q : ∀ k, sq h r k = true) (hp : h' = [] ∧ r' = [true]) :
    Calls Try.prog 18 #[v, u] w (RetB w true) := by
  obtain ⟨rfl, rfl⟩ := hp
  exact same_small v u h r [] [true] w s (s'.mono (Nat.zero_le _)) c canon_all true (by simp [q, sq_all])
theorem not_wide (v : Value) (h r : List Bool) (w : World) (s : SetAt 0 w v h r) (hc : Canon h r) (z : h.length ≤ 12 ∧ r.length ≤ 144) :
    Calls Try.prog 17 #[v] w fun e w' => ∃ a m c a' m' c' h2 r2, e = .returned (.agg #[.slice a m c, .slice a' m' c']) ∧ SetAt 0 w' (.agg #[.slice a m c, .slice a' m' c']) h2 r2 ∧ (Canon h2 r2 ∧ (∀ k, sq h2 r2 k = !sq h r k)) ∧ Below w.heap.size w w' := by
  refine (not_any v 0 h r w s (List.length_pos_iff.2 hc.1) (by omega) (by omega)).mono fun e w' hh => ?_
  obtain ⟨v2, h2, r2, he, hs, ⟨p1, p2, p3, p4⟩, hb⟩ := hh
  obtain ⟨a0, m0, x0, a1, m1, x1, r0, rfl, -, -, -⟩ := hs.open
  exact ⟨_, _, _, _, _, _, h2, r2, he, hs.mono (Nat.zero_le _), ⟨p1, p2⟩, hb⟩
theorem union_wide (v u : Value) (h r h' r' : List Bool) (w : World) (s : SetAt 0 w v h r) (s' : SetAt 0 w u h' r') (z : Small h r) (c' : Canon h' r') (z' : h'.length ≤ 12 ∧ r'.length ≤ 144) :
    Calls Try.prog 15 #[v, u] w (RetSetF w fun h2 r2 => Canon h2 r2 ∧ (∀ k, sq h2 r2 k = (sq h r k || sq h' r' k))) := by
  obtain ⟨z1, z2, z3⟩ := z
  obtain ⟨y1, y3⟩ := z'
  have y2 := List.length_pos_iff.2 c'.1
  have h1 := lcmN_le r.length r'.length z2 y2 (by omega) (by omega)
  have h2 : r.length * r'.length ≤ 12 * 144 := Nat.mul_le_mul z3 y3
  refine (union_any v u 0 0 h r h' r' w s s' (by omega) z2 (by omega) y2 (by omega) (by omega) (by omega)).mono fun e w' hh => ?_
  obtain ⟨a, m, c, a', m', c', h2, r2, he, hs, ⟨p1, p2, p3, p4⟩, hb⟩ := both_smallF (by omega) hh
  exact ⟨a, m, c, a', m', c', h2, r2, he, hs, ⟨p1, p2⟩, hb⟩
end Go.Proofs.Ytlbffpojdfhefaa
