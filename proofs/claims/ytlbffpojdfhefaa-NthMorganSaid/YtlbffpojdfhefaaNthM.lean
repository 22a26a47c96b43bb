/- Plain law of sets that come round: a head and a ring; least parts; one set has one head and one ring in least parts. No program here, no condition. -/
import Derived.Test.YtlbffpojdfhefaaRows
namespace Go.Proofs.Ytlbffpojdfhefaa

/-- The ring's truth at a place. -/
def per (r : List Bool) (k : Nat) : Bool := r.getD (k % r.length) false
/-- The truth of the number k + 1. -/
def sq (h r : List Bool) (k : Nat) : Bool := if k < h.length then h.getD k false else per r (k - h.length)
def Period (s : Nat → Bool) (m : Nat) : Prop := ∀ k, s (k + m) = s k
def repeatsB (r : List Bool) (n : Nat) : Bool := (List.range r.length).all (fun i => decide (i < n) || (r.getD i false == r.getD (i - n) false)) && decide (r.length % n = 0)
def prim (r : List Bool) : Prop := ∀ m, 1 ≤ m → m < r.length → ¬ Period (per r) m
def Canon (h r : List Bool) : Prop := r ≠ [] ∧ prim r ∧ (∀ n, h.length = n + 1 → h.getD n false ≠ r.getD (r.length - 1) false)

theorem per_period (r : List Bool) : Period (per r) r.length := fun k => by simp [per]
theorem Period.mul {s : Nat → Bool} {m : Nat} (h : Period s m) : ∀ q k, s (k + q * m) = s k := by
  intro q; induction q with
  | zero => intro k; simp
  | succ q ih => intro k; rw [Nat.succ_mul, ← Nat.add_assoc, h]; exact ih k
theorem Period.mod {s : Nat → Bool} {m : Nat} (h : Period s m) (k : Nat) : s (k % m) = s k := by
  have := h.mul (k / m) (k % m)
  rw [← this, Nat.mul_comm, Nat.mod_add_div]
theorem Period.dvd {s : Nat → Bool} {m n : Nat} (h : Period s m) (d : m ∣ n) : Period s n := fun k => by
  obtain ⟨q, rfl⟩ := d; rw [Nat.mul_comm]; exact h.mul q k
/-- Two periods' greatest common divisor is one. -/
theorem Period.gcd {s : Nat → Bool} {n : Nat} : ∀ m, Period s m → Period s n → Period s (Nat.gcd m n) := by
  induction n using Nat.strongRecOn with
  | ind n ih =>
    intro m hm hn
    by_cases h0 : n = 0
    · subst h0; simpa using hm
    · have hr : Period s (m % n) := fun k => by
        have e := hm k
        have e2 := hn.mul (m / n) (k + m % n)
        rw [Nat.add_assoc, Nat.mul_comm, Nat.mod_add_div] at e2
        rw [← e2]; exact e
      have h2 := ih (m % n) (Nat.mod_lt _ (by omega)) n hn hr
      rw [Nat.gcd_comm n, ← Nat.gcd_rec] at h2
      rw [Nat.gcd_comm]; exact h2

theorem repeats_period {r : List Bool} {n : Nat} (hr : r ≠ []) (h : repeatsB r n = true) : r.length % n = 0 ∧ ∀ i, n ≤ i → i < r.length → r.getD i false = r.getD (i - n) false := by
  unfold repeatsB at h
  simp only [Bool.and_eq_true, List.all_eq_true, List.mem_range, Bool.or_eq_true, decide_eq_true_eq, beq_iff_eq] at h
  refine ⟨h.2, fun i h1 h2 => ?_⟩
  rcases h.1 i h2 with h3 | h3
  · omega
  · exact h3
theorem repeats_of {r : List Bool} {n : Nat} (h1 : r.length % n = 0) (h : ∀ i, n ≤ i → i < r.length → r.getD i false = r.getD (i - n) false) : repeatsB r n = true := by
  unfold repeatsB
  simp only [Bool.and_eq_true, List.all_eq_true, List.mem_range, Bool.or_eq_true, decide_eq_true_eq, beq_iff_eq]
  refine ⟨fun i hi => ?_, h1⟩
  by_cases hn : i < n
  · exact .inl hn
  · exact .inr (h i (by omega) hi)
theorem getD_mod {r : List Bool} {n : Nat} (hn : 0 < n) (h : ∀ i, n ≤ i → i < r.length → r.getD i false = r.getD (i - n) false) : ∀ i, i < r.length → r.getD i false = r.getD (i % n) false := by
  intro i
  induction i using Nat.strongRecOn with
  | ind i ih =>
    intro hi
    by_cases hin : i < n
    · rw [Nat.mod_eq_of_lt hin]
    · rw [h i (by omega) hi, ih (i - n) (by omega) (by omega), ← Nat.mod_eq_sub_mod (by omega)]
/-- A ring that comes round within itself is its first part. -/
theorem per_take {r : List Bool} {n : Nat} (hr : r ≠ []) (hn : 0 < n) (h : repeatsB r n = true) : r.take n ≠ [] ∧ (r.take n).length = n ∧ ∀ k, per (r.take n) k = per r k := by
  obtain ⟨h1, h2⟩ := repeats_period hr h
  have hp : 0 < r.length := List.length_pos_iff.2 hr
  have hle : n ≤ r.length := by
    rcases Nat.lt_or_ge r.length n with h | h
    · rw [Nat.mod_eq_of_lt h] at h1; omega
    · exact h
  have hl : (r.take n).length = n := by simp [hle]
  refine ⟨fun e => by rw [e] at hl; simp at hl; omega, hl, fun k => ?_⟩
  unfold per
  rw [hl]
  have hk : k % n < n := Nat.mod_lt _ hn
  have e1 : (r.take n).getD (k % n) false = r.getD (k % n) false := by simp [List.getD_eq_getElem?_getD, List.getElem?_take, hk]
  rw [e1, getD_mod hn h2 (k % r.length) (Nat.mod_lt _ hp)]
  congr 1
  exact (Nat.mod_mod_of_dvd k (Nat.dvd_of_mod_eq_zero h1)).symm
theorem repeats_iff {r : List Bool} {n : Nat} (hr : r ≠ []) (hn : 0 < n) (hd : r.length % n = 0) : repeatsB r n = true ↔ Period (per r) n := by
  have hp : 0 < r.length := List.length_pos_iff.2 hr
  constructor
  · intro h
    obtain ⟨_, hl, he⟩ := per_take hr hn h
    intro k
    rw [← he, ← he]
    have := per_period (r.take n)
    rw [hl] at this
    exact this k
  · intro h
    refine repeats_of hd fun i h1 h2 => ?_
    have := h (i - n)
    rw [Nat.sub_add_cancel h1] at this
    unfold per at this
    rw [Nat.mod_eq_of_lt h2, Nat.mod_eq_of_lt (show i - n < r.length by omega)] at this
    exact this
theorem prim_of {r : List Bool} (hr : r ≠ []) (h : ∀ m, 1 ≤ m → m < r.length → repeatsB r m = false) : prim r := by
  intro m h1 h2 hp
  have hl : 0 < r.length := List.length_pos_iff.2 hr
  have hg := hp.gcd m (per_period r)
  have hgd := Nat.gcd_dvd_right m r.length
  have hg1 : Nat.gcd m r.length ≤ m := Nat.gcd_le_left _ (by omega)
  have hg0 : 0 < Nat.gcd m r.length := Nat.gcd_pos_of_pos_left _ (by omega)
  have := (repeats_iff hr hg0 (Nat.mod_eq_zero_of_dvd hgd)).2 hg
  rw [h _ hg0 (by omega)] at this
  exact absurd this (by simp)
/-- The ring with its last one ahead. -/
def rot (r : List Bool) : List Bool := r.getD (r.length - 1) false :: r.take (r.length - 1)
theorem rot_length {r : List Bool} (hr : r ≠ []) : (rot r).length = r.length := by
  have hl : 0 < r.length := List.length_pos_iff.2 hr
  simp [rot]; omega
theorem rot_ne (r : List Bool) : rot r ≠ [] := by simp [rot]
theorem per_rot {r : List Bool} (hr : r ≠ []) (k : Nat) : per (rot r) (k + 1) = per r k := by
  have hl : 0 < r.length := List.length_pos_iff.2 hr
  unfold per
  rw [rot_length hr]
  have hk : k % r.length < r.length := Nat.mod_lt _ hl
  by_cases h : k % r.length = r.length - 1
  · have e : (k + 1) % r.length = 0 := by
      rw [Nat.add_mod, h]
      by_cases h1 : r.length = 1
      · rw [h1]
      · rw [Nat.mod_eq_of_lt (show 1 < r.length by omega), show r.length - 1 + 1 = r.length by omega, Nat.mod_self]
    rw [e, h]; simp [rot]
  · have e : (k + 1) % r.length = k % r.length + 1 := by
      rw [Nat.add_mod, Nat.mod_eq_of_lt (show 1 < r.length by omega), Nat.mod_eq_of_lt (by omega)]
    have h4 : k % r.length < r.length - 1 := by omega
    rw [e]; simp [rot, List.getD_eq_getElem?_getD, List.getElem?_take, h4]
    rw [List.getElem?_eq_getElem hk]; rfl
theorem per_rot0 {r : List Bool} : per (rot r) 0 = r.getD (r.length - 1) false := by simp [per, rot]
theorem prim_rot {r : List Bool} (hr : r ≠ []) (h : prim r) : prim (rot r) := by
  intro m h1 h2 hp
  rw [rot_length hr] at h2
  refine h m h1 h2 fun k => ?_
  rw [← per_rot hr, ← per_rot hr k]
  have := hp (k + 1)
  rw [← this]; congr 1; omega
theorem sq_rot {h r : List Bool} {n : Nat} (hr : r ≠ []) (hn : h.length = n + 1) (he : h.getD n false = r.getD (r.length - 1) false) : ∀ k, sq (h.take n) (rot r) k = sq h r k := by
  intro k
  have hl : (h.take n).length = n := by simp [hn]
  unfold sq
  rw [hl]
  rcases Nat.lt_trichotomy k n with hk | hk | hk
  · rw [if_pos hk, if_pos (by omega)]
    simp [List.getD_eq_getElem?_getD, List.getElem?_take, hk]
  · subst hk
    rw [if_neg (by omega), if_pos (by omega), Nat.sub_self, per_rot0, he]
  · rw [if_neg (by omega), if_neg (by omega)]
    rw [hn, show k - n = (k - (n + 1)) + 1 by omega, per_rot hr]

/-- Behind its head a set comes round. -/
theorem sq_tail (h r : List Bool) (k : Nat) (hk : h.length ≤ k) : sq h r (k + r.length) = sq h r k := by
  unfold sq
  rw [if_neg (by omega), if_neg (by omega)]
  have := per_period r (k - h.length)
  rw [← this]; congr 1; omega
/-- s comes round from h on, after p. -/
def Comes (s : Nat → Bool) (h p : Nat) : Prop := ∀ k, h ≤ k → s (k + p) = s k
theorem Comes.mul {s : Nat → Bool} {h p : Nat} (c : Comes s h p) (q : Nat) : ∀ k, h ≤ k → s (k + q * p) = s k := by
  induction q with
  | zero => intro k _; simp
  | succ q ih => intro k hk; rw [Nat.succ_mul, ← Nat.add_assoc, c _ (by omega)]; exact ih k hk
theorem sq_comes (h r : List Bool) : Comes (sq h r) h.length r.length := fun k hk => sq_tail h r k hk
/-- In least parts the round is the least one. -/
theorem canon_least {h r : List Bool} (c : Canon h r) {m p : Nat} (hp : 1 ≤ p) (hc : Comes (sq h r) m p) : r.length ≤ p := by
  rcases Nat.lt_or_ge p r.length with hlt | hge
  · exfalso
    obtain ⟨hr, hprim, _⟩ := c
    have hl : 0 < r.length := List.length_pos_iff.2 hr
    refine hprim p hp hlt fun k => ?_
    have key : ∀ j, per r j = sq h r (j + h.length) := fun j => by
      unfold sq; rw [if_neg (by omega), Nat.add_sub_cancel]
    have e1 := (sq_comes h r).mul m (k + h.length) (by omega)
    have e2 := (sq_comes h r).mul m (k + p + h.length) (by omega)
    have hbig : m ≤ k + h.length + m * r.length := by
      have : m * 1 ≤ m * r.length := Nat.mul_le_mul_left m hl
      omega
    have e3 := hc (k + h.length + m * r.length) hbig
    rw [key, key, ← e1, ← e2, ← e3]
    congr 1; omega
  · exact hge
theorem canon_head {h r : List Bool} (c : Canon h r) {m : Nat} (hc : Comes (sq h r) m r.length) : h.length ≤ m := by
  rcases Nat.lt_or_ge m h.length with hlt | hge
  · exfalso
    obtain ⟨hr, _, hne⟩ := c
    have hl : 0 < r.length := List.length_pos_iff.2 hr
    obtain ⟨n, hn⟩ : ∃ n, h.length = n + 1 := ⟨h.length - 1, by omega⟩
    apply hne n hn
    have e := hc n (by omega)
    unfold sq at e
    rw [if_neg (by omega), if_pos (by omega)] at e
    rw [← e]
    unfold per
    rw [show n + r.length - h.length = r.length - 1 by omega, Nat.mod_eq_of_lt (by omega)]
  · exact hge
/-- One set has one head and one ring in least parts. -/
theorem canon_unique {h r h' r' : List Bool} (c : Canon h r) (c' : Canon h' r') (e : ∀ k, sq h r k = sq h' r' k) : h = h' ∧ r = r' := by
  have hs : sq h r = sq h' r' := funext e
  have l1 : 0 < r.length := List.length_pos_iff.2 c.1
  have l2 : 0 < r'.length := List.length_pos_iff.2 c'.1
  have p1 := canon_least c (m := h'.length) (p := r'.length) l2 (by rw [hs]; exact sq_comes h' r')
  have p2 := canon_least c' (m := h.length) (p := r.length) l1 (by rw [← hs]; exact sq_comes h r)
  have hp : r.length = r'.length := by omega
  have h1 := canon_head c (m := h'.length) (by rw [hs, hp]; exact sq_comes h' r')
  have h2 := canon_head c' (m := h.length) (by rw [← hs, ← hp]; exact sq_comes h r)
  have hh : h.length = h'.length := by omega
  constructor
  · refine List.ext_getElem hh fun i i1 i2 => ?_
    have := e i
    unfold sq at this
    rw [if_pos i1, if_pos i2] at this
    simpa [List.getD, i1, i2] using this
  · refine List.ext_getElem hp fun i i1 i2 => ?_
    have := e (i + h.length)
    unfold sq at this
    rw [if_neg (by omega), if_neg (by omega)] at this
    unfold per at this
    rw [show i + h.length - h'.length = i by omega, show i + h.length - h.length = i by omega, Nat.mod_eq_of_lt i1, Nat.mod_eq_of_lt i2] at this
    simpa [List.getD, i1, i2] using this
end Go.Proofs.Ytlbffpojdfhefaa
