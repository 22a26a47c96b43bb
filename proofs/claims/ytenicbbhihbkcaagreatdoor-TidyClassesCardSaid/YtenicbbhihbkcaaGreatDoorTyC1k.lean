/- Part of a proof: the small language, and functions of the program on it. -/
import Derived.Test.YtenicbbhihbkcaaGreatDoorTyC1j
import Derived.Shelf.Strings.Builder1
import Derived.Test.YtenicbbhihbkcaaGreatDoorProg
set_option linter.unusedSimpArgs false
set_option linter.unusedVariables false
namespace Go.Proofs.YtenicbbhihbkcaaGreatDoor
open Go.Shelf Go.RowKit
def ren167 : Go.Shelf.Ren := ⟨fun | 167 => 293 | 240 => 317 | 276 => 337 | n => n, fun | 0 => 0 | 4 => 4 | 5 => 5 | 9 => 9 | 20 => 20 | 37 => 31 | 70 => 384 | 72 => 386 | 75 => 36 | 80 => 388 | 164 => 442 | n => n, fun n => n⟩
theorem lays167 : Go.Proofs.Lays.n167 Tryz.prog ren167 := {
  mixed := by kernel_rfl
  f167 := Tryz.func293.trans (congrArg some (by kernel_rfl))
  f240 := Tryz.func317.trans (congrArg some (by kernel_rfl))
  f276 := Tryz.func337.trans (congrArg some (by kernel_rfl))
  t0 := Tryz.underlying0
  a0 := Tryz.isAgg0
  z0 := Tryz.sizeOf0
  v0 := Tryz.zeroValue0
  t4 := Tryz.underlying4
  a4 := Tryz.isAgg4
  z4 := Tryz.sizeOf4
  v4 := Tryz.zeroValue4
  t5 := Tryz.underlying5
  a5 := Tryz.isAgg5
  z5 := Tryz.sizeOf5
  v5 := Tryz.zeroValue5
  t9 := Tryz.underlying9
  a9 := Tryz.isAgg9
  z9 := Tryz.sizeOf9
  v9 := Tryz.zeroValue9
  t20 := Tryz.underlying20
  a20 := Tryz.isAgg20
  z20 := Tryz.sizeOf20
  v20 := Tryz.zeroValue20
  t37 := Tryz.underlying31
  a37 := Tryz.isAgg31
  z37 := Tryz.sizeOf31
  v37 := Tryz.zeroValue31
  t70 := Tryz.underlying384
  a70 := Tryz.isAgg384
  z70 := Tryz.sizeOf384
  v70 := Tryz.zeroValue384
  t72 := Tryz.underlying386
  a72 := Tryz.isAgg386
  z72 := Tryz.sizeOf386
  v72 := Tryz.zeroValue386
  t75 := Tryz.underlying36
  a75 := Tryz.isAgg36
  z75 := Tryz.sizeOf36
  v75 := Tryz.zeroValue36
  t164 := Tryz.underlying442
  a164 := Tryz.isAgg442
  z164 := Tryz.sizeOf442
  v164 := Tryz.zeroValue442 }
theorem extra167 : Go.Proofs.Builder.Extra Tryz.prog ren167 := {
  sizeBuilder := by kernel_rfl
  liesBuilder := by kernel_rfl
  t5 := Tryz.underlying5
  a5 := Tryz.isAgg5
  z5 := Tryz.sizeOf5
  v5 := Tryz.zeroValue5
  infoByte := by kernel_rfl
  cellsByte := by kernel_rfl
  sizeByte := by kernel_rfl
  neB5 := by decide }
def ren169 : Go.Shelf.Ren := ⟨fun | 169 => 294 | n => n, fun | 0 => 0 | 3 => 3 | 5 => 5 | 9 => 9 | 37 => 31 | 70 => 384 | 72 => 386 | 127 => 414 | n => n, fun n => n⟩
theorem lays169 : Go.Proofs.Lays.n169 Tryz.prog ren169 := {
  mixed := by kernel_rfl
  f169 := Tryz.func294.trans (congrArg some (by kernel_rfl))
  t0 := Tryz.underlying0
  a0 := Tryz.isAgg0
  z0 := Tryz.sizeOf0
  v0 := Tryz.zeroValue0
  t3 := Tryz.underlying3
  a3 := Tryz.isAgg3
  z3 := Tryz.sizeOf3
  v3 := Tryz.zeroValue3
  t9 := Tryz.underlying9
  a9 := Tryz.isAgg9
  z9 := Tryz.sizeOf9
  v9 := Tryz.zeroValue9
  t37 := Tryz.underlying31
  a37 := Tryz.isAgg31
  z37 := Tryz.sizeOf31
  v37 := Tryz.zeroValue31
  t70 := Tryz.underlying384
  a70 := Tryz.isAgg384
  z70 := Tryz.sizeOf384
  v70 := Tryz.zeroValue384
  t72 := Tryz.underlying386
  a72 := Tryz.isAgg386
  z72 := Tryz.sizeOf386
  v72 := Tryz.zeroValue386
  t127 := Tryz.underlying414
  a127 := Tryz.isAgg414
  z127 := Tryz.sizeOf414
  v127 := Tryz.zeroValue414 }
theorem extra169 : Go.Proofs.Builder.Extra Tryz.prog ren169 := {
  sizeBuilder := by kernel_rfl
  liesBuilder := by kernel_rfl
  t5 := Tryz.underlying5
  a5 := Tryz.isAgg5
  z5 := Tryz.sizeOf5
  v5 := Tryz.zeroValue5
  infoByte := by kernel_rfl
  cellsByte := by kernel_rfl
  sizeByte := by kernel_rfl
  neB5 := by decide }
theorem wb : WB := fun B b bs c w h hl hB => Go.Proofs.Any.Builder_WriteByte lays167 extra167 B b bs c w h hl hB
theorem ws_ : WS := fun B b l w h hB => Go.Proofs.Any.Builder_String_any lays169 extra169 B b l w h hB
end Go.Proofs.YtenicbbhihbkcaaGreatDoor
set_option linter.unusedSimpArgs false
set_option linter.unusedVariables false
set_option maxRecDepth 100000
set_option maxHeartbeats 4000000
namespace Go.Proofs.YtenicbbhihbkcaaGreatDoor
open Go.RowKit Go.Ev
def hm (L : List SV) : Nat := (L.map SV.h).foldr max 0
def h3 (L : List SV) : Nat := if L = [] then 0 else hm L + 1
def m3 (ps : List (List SV)) : Nat := (ps.map h3).foldr max 0
def h2 (ps : List (List SV)) : Nat := if ps = [] then 0 else m3 ps + 1
def m2 (qs : List (List (List SV))) : Nat := (qs.map h2).foldr max 0
def h1 (qs : List (List (List SV))) : Nat := if qs = [] then 0 else m2 qs + 1
theorem fr_app : ∀ (a b : List Nat), (a ++ b).foldr max 0 = max (a.foldr max 0) (b.foldr max 0)
  | [], b => by simp
  | x :: a, b => by simp only [List.cons_append, List.foldr_cons, fr_app a b]; omega
theorem hm_app (a b : List SV) : hm (a ++ b) = max (hm a) (hm b) := by simp only [hm, List.map_append, fr_app]
theorem m3_eq : ∀ (ps : List (List SV)), (ps.flatten = [] → m3 ps = 0) ∧ (ps.flatten ≠ [] → m3 ps = hm ps.flatten + 1)
  | [] => ⟨fun _ => rfl, fun h => absurd rfl h⟩
  | L :: ps => by
    obtain ⟨i1, i2⟩ := m3_eq ps
    have e : m3 (L :: ps) = max (h3 L) (m3 ps) := rfl
    rw [e, List.flatten_cons, hm_app]
    by_cases hL : L = []
    · subst hL
      have e3 : h3 [] = 0 := rfl
      have eh : hm [] = 0 := rfl
      rw [List.nil_append, e3, eh]
      exact ⟨fun h => by rw [i1 h]; rfl, fun h => by rw [i2 h]; omega⟩
    · have e3 : h3 L = hm L + 1 := if_neg hL
      rw [e3]
      refine ⟨fun h => absurd (List.append_eq_nil_iff.1 h).1 hL, fun _ => ?_⟩
      by_cases hp : ps.flatten = []
      · rw [i1 hp, hp]; show max (hm L + 1) 0 = max (hm L) (hm []) + 1; have : hm [] = 0 := rfl; omega
      · rw [i2 hp]; omega
theorem m2_eq : ∀ (qs : List (List (List SV))), (qs.flatten.flatten = [] → m2 qs ≤ 1) ∧ (qs.flatten.flatten ≠ [] → m2 qs = hm qs.flatten.flatten + 2)
  | [] => ⟨fun _ => Nat.zero_le _, fun h => absurd rfl h⟩
  | ps :: qs => by
    obtain ⟨i1, i2⟩ := m2_eq qs
    obtain ⟨k1, k2⟩ := m3_eq ps
    have e : m2 (ps :: qs) = max (h2 ps) (m2 qs) := rfl
    rw [e, List.flatten_cons, List.flatten_append, hm_app]
    have hz : hm [] = 0 := rfl
    by_cases hL : ps.flatten = []
    · have e3 : h2 ps ≤ 1 := by
        unfold h2
        split
        · omega
        · rw [k1 hL]; omega
      rw [hL, List.nil_append, hz]
      exact ⟨fun h => by have := i1 h; omega, fun h => by rw [i2 h]; omega⟩
    · have hne : ps ≠ [] := by rintro rfl; exact hL rfl
      have e3 : h2 ps = hm ps.flatten + 2 := by unfold h2; rw [if_neg hne, k2 hL]
      rw [e3]
      refine ⟨fun h => absurd (List.append_eq_nil_iff.1 h).1 hL, fun _ => ?_⟩
      by_cases hp : qs.flatten.flatten = []
      · have := i1 hp; rw [hp, hz]; omega
      · rw [i2 hp]; omega
theorem mx_acc : ∀ (L : List SV), (∀ s ∈ L, s.len = 0 → s.h = 0) → ∀ (n : Nat), L.foldl (fun m x => if 0 < x.len then max m ((x.h + 2) / 3) else m) ((n + 2) / 3) = (max n (hm L) + 2) / 3
  | [], _, n => by
    have : hm [] = 0 := rfl
    rw [this, Nat.max_zero]; rfl
  | x :: L, hL, n => by
    have e : (if 0 < x.len then max ((n + 2) / 3) ((x.h + 2) / 3) else (n + 2) / 3) = (max n x.h + 2) / 3 := by
      split
      · omega
      · have := hL x (List.mem_cons_self ..) (by omega)
        rw [this, Nat.max_zero]
    rw [List.foldl_cons, e, mx_acc L (fun s hs => hL s (List.mem_cons_of_mem _ hs))]
    have e2 : hm (x :: L) = max x.h (hm L) := rfl
    rw [e2]
    congr 2
    omega
theorem mxN_eq (L : List SV) (hL : ∀ s ∈ L, s.len = 0 → s.h = 0) : mxN (fun s => (s.h + 2) / 3) L = (hm L + 2) / 3 := by
  have := mx_acc L hL 0
  rw [Nat.zero_max] at this
  exact this
theorem h1_eq (qs : List (List (List SV))) : max 1 ((h1 qs + 2) / 3) = (hm qs.flatten.flatten + 2) / 3 + 1 := by
  obtain ⟨k1, k2⟩ := m2_eq qs
  unfold h1
  split
  · rename_i h; subst h; rfl
  · by_cases h : qs.flatten.flatten = []
    · have := k1 h; rw [h]; have : hm [] = 0 := rfl; omega
    · rw [k2 h]; omega
section
variable {M : Mem} {ι : Plc} {n0 : Nat} {w : World}
def Held (M : Mem) (n0 : Nat) (w : World) : Prop := ∀ b i u, M b i = some u → b < n0 ∧ w.cell? ⟨b, i, none⟩ = some u
theorem hhs_fr : ∀ (xs : List V), V.hhs xs = (xs.map V.hh).foldr max 0
  | [] => rfl
  | x :: xs => by simp only [V.hhs, List.map_cons, List.foldr_cons, hhs_fr xs]
theorem shpAll_mem {k : Nat} : ∀ {xs : List V}, V.shpAll k xs = true → ∀ x ∈ xs, V.shp k x = true
  | [], _, x, hx => by cases hx
  | y :: xs, h, x, hx => by
    simp only [V.shpAll, Bool.and_eq_true] at h
    rcases List.mem_cons.1 hx with rfl | hx
    · exact h.1
    · exact shpAll_mem h.2 x hx
theorem list_of' {α : Type} (P : Nat → α → Prop) : ∀ n, (∀ i, i < n → ∃ x, P i x) → ∃ xs : List α, xs.length = n ∧ ∀ i x, xs[i]? = some x → P i x := by
  intro n
  induction n with
  | zero => intro _; exact ⟨[], rfl, fun i x hi => by cases hi⟩
  | succ n ih =>
    intro h
    obtain ⟨xs, hl, hx⟩ := ih (fun i hi => h i (by omega))
    obtain ⟨y, hy⟩ := h n (by omega)
    refine ⟨xs ++ [y], by simp [hl], fun i x hi => ?_⟩
    by_cases e : i < xs.length
    · rw [List.getElem?_append_left e] at hi; exact hx i x hi
    · have h1 := (List.getElem?_eq_some_iff.1 hi).1
      have e2 : i = n := by simp at h1; omega
      subst e2
      rw [List.getElem?_append_right (by omega), hl, Nat.sub_self] at hi
      cases hi
      exact hy
theorem flat_cells {xs : List V} {sz : Nat} (hs : ∀ x ∈ xs, x.cells.length = sz) : ∀ (i : Nat) (x : V) (j : Nat), xs[i]? = some x → j < sz → (xs.flatMap V.cells)[i * sz + j]? = x.cells[j]? := by
  induction xs with
  | nil => intro i x j h; simp at h
  | cons y xs ih =>
    intro i x j h hj
    have hy := hs y (List.mem_cons_self ..)
    rw [List.flatMap_cons]
    cases i with
    | zero =>
      simp at h
      subst h
      rw [List.getElem?_append_left (by omega)]
      congr 1; omega
    | succ i =>
      have : (i + 1) * sz + j = sz + (i * sz + j) := by rw [Nat.succ_mul]; omega
      rw [List.getElem?_append_right (by omega), this, hy, Nat.add_sub_cancel_left]
      exact ih (fun z hz => hs z (List.mem_cons_of_mem _ hz)) i x j (by simpa using h) hj
theorem row_els {v : Value} {x : V} (hx : x = .nils ∨ ∃ xs c, x = .sl xs c) (h : Rep M ι v x) (hM : Held M n0 w) :
    ∃ (xs : List V) (a : Option Addr) (cap : Nat), v = .slice a xs.length cap ∧ (x = .nils ∧ xs = [] ∨ ∃ c, x = .sl xs c) ∧
      ∀ i e, xs[i]? = some e → ∃ b off, a = some ⟨b, off, none⟩ ∧ ∀ j c, e.cells[j]? = some c → ∃ u, Rep M ι u c ∧ b < n0 ∧ w.cell? ⟨b, off + (i * e.cells.length + j), none⟩ = some u := by
  rcases hx with rfl | ⟨xs, c, rfl⟩
  · cases h
    exact ⟨[], none, 0, rfl, .inl ⟨rfl, rfl⟩, fun i e he => by cases he⟩
  · rcases h.inv_sl with ⟨b, off, cap, sz, us, rfl, hs, hr, hm, _, _⟩ | ⟨a, rfl, rfl, _⟩
    · refine ⟨xs, _, cap, rfl, .inr ⟨c, rfl⟩, fun i e he => ⟨b, off, rfl, fun j c' hc => ?_⟩⟩
      have hsz := hs e (List.mem_of_getElem? he)
      have hj : j < sz := by rw [← hsz]; exact (List.getElem?_eq_some_iff.1 hc).1
      have h1 := flat_cells hs i e j he hj
      rw [hc] at h1
      obtain ⟨u, hu, hru⟩ := hr.get h1
      have := hM b _ u (hm _ u hu)
      rw [hsz]
      refine ⟨u, hru, this.1, ?_⟩
      rw [← Nat.add_assoc] at this ⊢
      exact this.2
    · exact ⟨[], some a, 0, rfl, .inr ⟨c, rfl⟩, fun i e he => by cases he⟩
theorem shp6 {x : V} (h : V.shp 6 x = true) : ∃ n, x = .int .i64 n := by
  cases x <;> simp [V.shp] at h
  subst h
  exact ⟨_, rfl⟩
theorem shp7 {x : V} (h : V.shp 7 x = true) : ∃ b, x = .bool b := by
  cases x <;> simp [V.shp] at h
  exact ⟨_, rfl⟩
theorem shp8 {x : V} (h : V.shp 8 x = true) : ∃ s, x = .str s := by
  cases x <;> simp [V.shp] at h
  exact ⟨_, rfl⟩
theorem shpR {k : Nat} {x : V} (hk : k = 0 ∨ k = 2 ∨ k = 4) (h : V.shp k x = true) : x = .nils ∨ ∃ xs c, x = .sl xs c ∧ xs.length ≤ 1000000000 ∧ V.shpAll (k + 1) xs = true := by
  rcases hk with rfl | rfl | rfl <;> cases x <;> simp [V.shp] at h <;> first | exact .inl rfl | exact .inr ⟨_, _, rfl, h.1, h.2⟩
def Pd (M : Mem) (ι : Plc) (n0 : Nat) (w : World) (x : V) : Prop := ∀ v, Rep M ι v x → V.shp 0 x = true → Dp n0 w v (max 1 ((V.hh x + 2) / 3))
theorem hh_sl (xs : List V) (c : Cap) : V.hh (.sl xs c) = if xs.isEmpty then 0 else V.hhs xs + 1 := by simp only [V.hh]
theorem mk_s (hM : Held M n0 w) {e : V} (hs : V.shp 5 e = true) (IH : ∀ o, SizeOf.sizeOf o < SizeOf.sizeOf e → Pd M ι n0 w o) {b off i : Nat}
    (he : ∀ j c, e.cells[j]? = some c → ∃ u, Rep M ι u c ∧ b < n0 ∧ w.cell? ⟨b, off + (i * e.cells.length + j), none⟩ = some u) :
    ∃ s : SV, b < n0 ∧ (∀ j u, s.cs[j]? = some u → w.cell? ⟨b, off + i * 11 + j, none⟩ = some u) ∧ (0 < s.len → Dp n0 w s.of ((s.h + 2) / 3)) ∧ (s.len = 0 → s.h = 0) ∧ s.h = V.hh e := by
  cases e <;> simp [V.shp] at hs
  rename_i cs
  match cs, hs with
  | [], hs => simp [V.shpEach] at hs
  | [_], hs => simp [V.shpEach] at hs
  | [_, _], hs => simp [V.shpEach] at hs
  | [_, _, _], hs => simp [V.shpEach] at hs
  | [_, _, _, _], hs => simp [V.shpEach] at hs
  | [_, _, _, _, _], hs => simp [V.shpEach] at hs
  | [_, _, _, _, _, _], hs => simp [V.shpEach] at hs
  | [_, _, _, _, _, _, _], hs => simp [V.shpEach] at hs
  | [_, _, _, _, _, _, _, _], hs => simp [V.shpEach] at hs
  | [_, _, _, _, _, _, _, _, _], hs => simp [V.shpEach] at hs
  | [_, _, _, _, _, _, _, _, _, _], hs => simp [V.shpEach] at hs
  | _ :: _ :: _ :: _ :: _ :: _ :: _ :: _ :: _ :: _ :: _ :: _ :: _, hs => simp [V.shpEach] at hs
  | [y0, y1, y2, y3, y4, y5, y6, y7, y8, y9, o], hs =>
    simp only [V.shpEach, Bool.and_eq_true, and_true, List.isEmpty_nil] at hs
    obtain ⟨p0, p1, p2, p3, p4, p5, p6, p7, p8, p9, po⟩ := hs
    obtain ⟨v0, rfl⟩ := shp6 p0
    obtain ⟨v1, rfl⟩ := shp6 p1
    obtain ⟨v2, rfl⟩ := shp8 p2
    obtain ⟨v3, rfl⟩ := shp8 p3
    obtain ⟨v4, rfl⟩ := shp6 p4
    obtain ⟨v5, rfl⟩ := shp8 p5
    obtain ⟨v6, rfl⟩ := shp7 p6
    obtain ⟨v7, rfl⟩ := shp6 p7
    obtain ⟨v8, rfl⟩ := shp6 p8
    obtain ⟨v9, rfl⟩ := shp6 p9
    obtain ⟨u0, r0, hb, g0⟩ := he 0 _ rfl
    obtain ⟨u1, r1, _, g1⟩ := he 1 _ rfl
    obtain ⟨u2, r2, _, g2⟩ := he 2 _ rfl
    obtain ⟨u3, r3, _, g3⟩ := he 3 _ rfl
    obtain ⟨u4, r4, _, g4⟩ := he 4 _ rfl
    obtain ⟨u5, r5, _, g5⟩ := he 5 _ rfl
    obtain ⟨u6, r6, _, g6⟩ := he 6 _ rfl
    obtain ⟨u7, r7, _, g7⟩ := he 7 _ rfl
    obtain ⟨u8, r8, _, g8⟩ := he 8 _ rfl
    obtain ⟨u9, r9, _, g9⟩ := he 9 _ rfl
    obtain ⟨u10, r10, _, g10⟩ := he 10 _ rfl
    cases r0.inv_int; cases r1.inv_int; cases r4.inv_int; cases r7.inv_int; cases r8.inv_int; cases r9.inv_int; cases r6.inv_bool
    obtain ⟨s2, rfl, _⟩ := r2.inv_str
    obtain ⟨s3, rfl, _⟩ := r3.inv_str
    obtain ⟨s5, rfl, _⟩ := r5.inv_str
    have hd := IH o (by simp; omega) u10 r10 po
    have hz : (∃ a l c, u10 = .slice a l c ∧ (0 < l → 1 ≤ V.hh o) ∧ (l = 0 → V.hh o = 0)) := by
      rcases shpR (.inl rfl) po with rfl | ⟨xs, c, rfl, _, _⟩
      · cases r10; exact ⟨_, _, _, rfl, fun h => absurd h (by omega), fun _ => rfl⟩
      · rw [hh_sl]
        rcases r10.inv_sl with ⟨b, off, cap, sz, us, rfl, _⟩ | ⟨a, rfl, rfl, _⟩
        · refine ⟨_, _, _, rfl, fun h => ?_, fun h => ?_⟩
          · rw [if_neg (by cases xs with | nil => simp at h | cons _ _ => simp)]; omega
          · rw [if_pos (by rw [List.length_eq_zero_iff.1 h]; rfl)]
        · exact ⟨_, _, _, rfl, fun h => absurd h (by omega), fun _ => rfl⟩
    obtain ⟨a, l, c, rfl, z1, z2⟩ := hz
    have hhe : ∀ a b c d e f g h i j, V.hh (.agg [.int .i64 a, .int .i64 b, .str c, .str d, .int .i64 e, .str f, .bool g, .int .i64 h, .int .i64 i, .int .i64 j, o]) = V.hh o := fun a b c d e f g h i j => by simp [V.hh, V.hhs]
    refine ⟨⟨v0, v1, s2, s3, v4, s5, v6, v7, v8, v9, a, l, c, V.hh o⟩, hb, ?_, ?_, z2, (hhe _ _ _ _ _ _ _ _ _ _).symm⟩
    · intro j u hu
      match j, hu with
      | 0, hu => cases hu; exact g0
      | 1, hu => cases hu; exact g1
      | 2, hu => cases hu; exact g2
      | 3, hu => cases hu; exact g3
      | 4, hu => cases hu; exact g4
      | 5, hu => cases hu; exact g5
      | 6, hu => cases hu; exact g6
      | 7, hu => cases hu; exact g7
      | 8, hu => cases hu; exact g8
      | 9, hu => cases hu; exact g9
      | 10, hu => cases hu; exact g10
      | j + 11, hu => simp [SV.cs] at hu
    · intro hl
      have := z1 hl
      rw [show max 1 ((V.hh o + 2) / 3) = (V.hh o + 2) / 3 by omega] at hd
      exact hd
theorem size_mem {xs : List V} {x : V} {c : Cap} (h : x ∈ xs) : SizeOf.sizeOf x < SizeOf.sizeOf (V.sl xs c) := by
  have := List.sizeOf_lt_of_mem h
  simp; omega
theorem mk3 (hM : Held M n0 w) {v : Value} {x : V} (hr : Rep M ι v x) (hs : V.shp 4 x = true) (IH : ∀ o, SizeOf.sizeOf o < SizeOf.sizeOf x → Pd M ι n0 w o) :
    ∃ L : List SV, R3 n0 w v L ∧ (∀ s ∈ L, 0 < s.len → Dp n0 w s.of ((s.h + 2) / 3)) ∧ (∀ s ∈ L, s.len = 0 → s.h = 0) ∧ V.hh x = h3 L := by
  have hx := shpR (.inr (.inr rfl)) hs
  obtain ⟨xs, a, cap, rfl, hxx, hel⟩ := row_els (by rcases hx with h | ⟨xs, c, h, _⟩; exact .inl h; exact .inr ⟨xs, c, h⟩) hr hM
  have hxs : (∀ e ∈ xs, V.shp 5 e = true ∧ SizeOf.sizeOf e < SizeOf.sizeOf x) ∧ xs.length ≤ 1000000000 ∧ V.hh x = if xs = [] then 0 else V.hhs xs + 1 := by
    rcases hxx with ⟨rfl, rfl⟩ | ⟨c, rfl⟩
    · exact ⟨fun e he => (by cases he), by simp, rfl⟩
    · rcases hx with h | ⟨ys, c', h, h1, h2⟩
      · cases h
      · cases h
        refine ⟨fun e he => ⟨shpAll_mem h2 e he, size_mem he⟩, h1, ?_⟩
        rw [hh_sl]; cases xs <;> rfl
  obtain ⟨h1, h2, h3'⟩ := hxs
  obtain ⟨L, hL, hLe⟩ := list_of' (fun i (s : SV) => ∃ b off, a = some ⟨b, off, none⟩ ∧ b < n0 ∧ (∀ j u, s.cs[j]? = some u → w.cell? ⟨b, off + i * 11 + j, none⟩ = some u) ∧ (0 < s.len → Dp n0 w s.of ((s.h + 2) / 3)) ∧ (s.len = 0 → s.h = 0) ∧ (xs[i]?).map V.hh = some s.h) xs.length (fun i hi => by
    obtain ⟨e, he⟩ : ∃ e, xs[i]? = some e := ⟨_, List.getElem?_eq_getElem hi⟩
    obtain ⟨g1, g2⟩ := h1 e (List.mem_of_getElem? he)
    obtain ⟨b, off, ha, hc⟩ := hel i e he
    obtain ⟨s, k1, k2, k3, k4, k5⟩ := mk_s hM g1 (fun o ho => IH o (by omega)) hc
    exact ⟨s, b, off, ha, k1, k2, k3, k4, by rw [he, k5]; rfl⟩)
  refine ⟨L, ⟨a, cap, by rw [hL], by omega, fun i s hs => ?_⟩, fun s hs => ?_, fun s hs => ?_, ?_⟩
  · obtain ⟨b, off, k1, k2, k3, _⟩ := hLe i s hs
    exact ⟨b, off, k1, k2, k3⟩
  · obtain ⟨i, hi⟩ := List.getElem?_of_mem hs
    obtain ⟨b, off, k1, k2, k3, k4, _⟩ := hLe i s hi
    exact k4
  · obtain ⟨i, hi⟩ := List.getElem?_of_mem hs
    obtain ⟨b, off, k1, k2, k3, k4, k5, _⟩ := hLe i s hi
    exact k5
  · have e : xs.map V.hh = L.map SV.h := by
      apply List.ext_getElem?
      intro i
      rw [List.getElem?_map, List.getElem?_map]
      cases hi : L[i]? with
      | none =>
        have : xs[i]? = none := by rw [List.getElem?_eq_none_iff] at hi ⊢; omega
        rw [this]; rfl
      | some s =>
        obtain ⟨b, off, k1, k2, k3, k4, k5, k6⟩ := hLe i s hi
        rw [k6]; rfl
    rw [h3', hhs_fr, e]
    unfold h3 hm
    have : xs = [] ↔ L = [] := by rw [← List.length_eq_zero_iff, ← List.length_eq_zero_iff, hL]
    by_cases hz : L = []
    · rw [if_pos (this.2 hz), if_pos hz]
    · rw [if_neg (fun h => hz (this.1 h)), if_neg hz]
theorem cells1 {e : V} (h : V.shp 1 e = true) : ∃ l, e = .agg [l] ∧ V.shp 2 l = true := by
  cases e <;> simp [V.shp] at h
  rename_i cs
  match cs, h with
  | [], h => simp [V.shpEach] at h
  | [l], h => simp only [V.shpEach, Bool.and_eq_true] at h; exact ⟨l, rfl, h.1⟩
  | _ :: _ :: _, h => simp [V.shpEach] at h
theorem cells3 {e : V} (h : V.shp 3 e = true) : ∃ n l, e = .agg [.int .i64 n, l] ∧ V.shp 4 l = true := by
  cases e <;> simp [V.shp] at h
  rename_i cs
  match cs, h with
  | [], h => simp [V.shpEach] at h
  | [_], h => simp [V.shpEach] at h
  | [x, l], h =>
    simp only [V.shpEach, Bool.and_eq_true] at h
    obtain ⟨n, rfl⟩ := shp6 h.1
    exact ⟨n, l, rfl, h.2.1⟩
  | _ :: _ :: _ :: _, h => simp [V.shpEach] at h
theorem mk2 (hM : Held M n0 w) {v : Value} {x : V} (hr : Rep M ι v x) (hs : V.shp 2 x = true) (IH : ∀ o, SizeOf.sizeOf o < SizeOf.sizeOf x → Pd M ι n0 w o) :
    ∃ ps : List (List SV), R2 n0 w v ps ∧ (∀ L ∈ ps, (∀ s ∈ L, 0 < s.len → Dp n0 w s.of ((s.h + 2) / 3)) ∧ (∀ s ∈ L, s.len = 0 → s.h = 0)) ∧ V.hh x = h2 ps := by
  have hx := shpR (.inr (.inl rfl)) hs
  obtain ⟨xs, a, cap, rfl, hxx, hel⟩ := row_els (by rcases hx with h | ⟨xs, c, h, _⟩; exact .inl h; exact .inr ⟨xs, c, h⟩) hr hM
  have hxs : (∀ e ∈ xs, V.shp 3 e = true ∧ SizeOf.sizeOf e < SizeOf.sizeOf x) ∧ xs.length ≤ 1000000000 ∧ V.hh x = if xs = [] then 0 else V.hhs xs + 1 := by
    rcases hxx with ⟨rfl, rfl⟩ | ⟨c, rfl⟩
    · exact ⟨fun e he => (by cases he), by simp, rfl⟩
    · rcases hx with h | ⟨ys, c', h, h1, h2⟩
      · cases h
      · cases h
        refine ⟨fun e he => ⟨shpAll_mem h2 e he, size_mem he⟩, h1, ?_⟩
        rw [hh_sl]; cases xs <;> rfl
  obtain ⟨g1, g2, g3⟩ := hxs
  obtain ⟨ps, hL, hLe⟩ := list_of' (fun i (L : List SV) => ∃ b off c u, a = some ⟨b, off, none⟩ ∧ b < n0 ∧ w.cell? ⟨b, off + i * 2, none⟩ = some (.int .i64 c) ∧ w.cell? ⟨b, off + i * 2 + 1, none⟩ = some u ∧ R3 n0 w u L ∧ (∀ s ∈ L, 0 < s.len → Dp n0 w s.of ((s.h + 2) / 3)) ∧ (∀ s ∈ L, s.len = 0 → s.h = 0) ∧ (xs[i]?).map V.hh = some (h3 L)) xs.length (fun i hi => by
    obtain ⟨e, he⟩ : ∃ e, xs[i]? = some e := ⟨_, List.getElem?_eq_getElem hi⟩
    obtain ⟨q1, q2⟩ := g1 e (List.mem_of_getElem? he)
    obtain ⟨n, l, rfl, hl⟩ := cells3 q1
    obtain ⟨b, off, ha, hc⟩ := hel i _ he
    obtain ⟨u0, r0, hb, c0⟩ := hc 0 _ rfl
    obtain ⟨u1, r1, _, c1⟩ := hc 1 _ rfl
    cases r0.inv_int
    obtain ⟨L, k1, k2, k3, k4⟩ := mk3 hM r1 hl (fun o ho => IH o (by simp at q2; omega))
    refine ⟨L, b, off, n, u1, ha, hb, c0, c1, k1, k2, k3, ?_⟩
    rw [he, ← k4]
    simp [V.hh, V.hhs])
  refine ⟨ps, ⟨a, cap, by rw [hL], by omega, fun i s hs => ?_⟩, fun L hs => ?_, ?_⟩
  · obtain ⟨b, off, c, u, k1, k2, k3, k4, k5, _⟩ := hLe i s hs
    exact ⟨b, off, c, u, k1, k2, k3, k4, k5⟩
  · obtain ⟨i, hi⟩ := List.getElem?_of_mem hs
    obtain ⟨b, off, c, u, k1, k2, k3, k4, k5, k6, k7, _⟩ := hLe i L hi
    exact ⟨k6, k7⟩
  · have e : xs.map V.hh = ps.map h3 := by
      apply List.ext_getElem?
      intro i
      rw [List.getElem?_map, List.getElem?_map]
      cases hi : ps[i]? with
      | none =>
        have : xs[i]? = none := by rw [List.getElem?_eq_none_iff] at hi ⊢; omega
        rw [this]; rfl
      | some s =>
        obtain ⟨b, off, c, u, k1, k2, k3, k4, k5, k6, k7, k8⟩ := hLe i s hi
        rw [k8]; rfl
    rw [g3, hhs_fr, e]
    unfold h2 m3
    have : xs = [] ↔ ps = [] := by rw [← List.length_eq_zero_iff, ← List.length_eq_zero_iff, hL]
    by_cases hz : ps = []
    · rw [if_pos (this.2 hz), if_pos hz]
    · rw [if_neg (fun h => hz (this.1 h)), if_neg hz]
theorem mk1 (hM : Held M n0 w) {v : Value} {x : V} (hr : Rep M ι v x) (hs : V.shp 0 x = true) (IH : ∀ o, SizeOf.sizeOf o < SizeOf.sizeOf x → Pd M ι n0 w o) :
    ∃ qs : List (List (List SV)), R1 n0 w v qs ∧ (∀ ps ∈ qs, ∀ L ∈ ps, (∀ s ∈ L, 0 < s.len → Dp n0 w s.of ((s.h + 2) / 3)) ∧ (∀ s ∈ L, s.len = 0 → s.h = 0)) ∧ V.hh x = h1 qs := by
  have hx := shpR (.inl rfl) hs
  obtain ⟨xs, a, cap, rfl, hxx, hel⟩ := row_els (by rcases hx with h | ⟨xs, c, h, _⟩; exact .inl h; exact .inr ⟨xs, c, h⟩) hr hM
  have hxs : (∀ e ∈ xs, V.shp 1 e = true ∧ SizeOf.sizeOf e < SizeOf.sizeOf x) ∧ xs.length ≤ 1000000000 ∧ V.hh x = if xs = [] then 0 else V.hhs xs + 1 := by
    rcases hxx with ⟨rfl, rfl⟩ | ⟨c, rfl⟩
    · exact ⟨fun e he => (by cases he), by simp, rfl⟩
    · rcases hx with h | ⟨ys, c', h, h1, h2⟩
      · cases h
      · cases h
        refine ⟨fun e he => ⟨shpAll_mem h2 e he, size_mem he⟩, h1, ?_⟩
        rw [hh_sl]; cases xs <;> rfl
  obtain ⟨g1, g2, g3⟩ := hxs
  obtain ⟨qs, hL, hLe⟩ := list_of' (fun i (ps : List (List SV)) => ∃ b off u, a = some ⟨b, off, none⟩ ∧ b < n0 ∧ w.cell? ⟨b, off + i, none⟩ = some u ∧ R2 n0 w u ps ∧ (∀ L ∈ ps, (∀ s ∈ L, 0 < s.len → Dp n0 w s.of ((s.h + 2) / 3)) ∧ (∀ s ∈ L, s.len = 0 → s.h = 0)) ∧ (xs[i]?).map V.hh = some (h2 ps)) xs.length (fun i hi => by
    obtain ⟨e, he⟩ : ∃ e, xs[i]? = some e := ⟨_, List.getElem?_eq_getElem hi⟩
    obtain ⟨q1, q2⟩ := g1 e (List.mem_of_getElem? he)
    obtain ⟨l, rfl, hl⟩ := cells1 q1
    obtain ⟨b, off, ha, hc⟩ := hel i _ he
    obtain ⟨u0, r0, hb, c0⟩ := hc 0 _ rfl
    obtain ⟨ps, k1, k2, k3⟩ := mk2 hM r0 hl (fun o ho => IH o (by simp at q2; omega))
    refine ⟨ps, b, off, u0, ha, hb, by simpa [V.cells] using c0, k1, k2, ?_⟩
    rw [he, ← k3]
    simp [V.hh, V.hhs])
  refine ⟨qs, ⟨a, cap, by rw [hL], by omega, fun i s hs => ?_⟩, fun ps hs => ?_, ?_⟩
  · obtain ⟨b, off, u, k1, k2, k3, k4, _⟩ := hLe i s hs
    exact ⟨b, off, u, k1, k2, k3, k4⟩
  · obtain ⟨i, hi⟩ := List.getElem?_of_mem hs
    obtain ⟨b, off, u, k1, k2, k3, k4, k5, _⟩ := hLe i ps hi
    exact k5
  · have e : xs.map V.hh = qs.map h2 := by
      apply List.ext_getElem?
      intro i
      rw [List.getElem?_map, List.getElem?_map]
      cases hi : qs[i]? with
      | none =>
        have : xs[i]? = none := by rw [List.getElem?_eq_none_iff] at hi ⊢; omega
        rw [this]; rfl
      | some s =>
        obtain ⟨b, off, u, k1, k2, k3, k4, k5, k6⟩ := hLe i s hi
        rw [k6]; rfl
    rw [g3, hhs_fr, e]
    unfold h1 m2
    have : xs = [] ↔ qs = [] := by rw [← List.length_eq_zero_iff, ← List.length_eq_zero_iff, hL]
    by_cases hz : qs = []
    · rw [if_pos (this.2 hz), if_pos hz]
    · rw [if_neg (fun h => hz (this.1 h)), if_neg hz]
theorem all_pd (hM : Held M n0 w) : ∀ (n : Nat) (x : V), SizeOf.sizeOf x < n → Pd M ι n0 w x
  | 0, x, h => by omega
  | n + 1, x, h => fun v hr hs => by
    obtain ⟨qs, k1, k2, k3⟩ := mk1 hM hr hs (fun o ho => all_pd hM n o (by omega))
    have hz : ∀ s ∈ qs.flatten.flatten, s.len = 0 → s.h = 0 := fun s hs => by
      obtain ⟨L, hL, hs⟩ := List.mem_flatten.1 hs
      obtain ⟨ps, hps, hL⟩ := List.mem_flatten.1 hL
      exact (k2 ps hps L hL).2 s hs
    rw [k3, h1_eq, ← mxN_eq _ hz]
    refine .mk v qs _ k1 fun s hs hl => ?_
    obtain ⟨L, hL, hs⟩ := List.mem_flatten.1 hs
    obtain ⟨ps, hps, hL⟩ := List.mem_flatten.1 hL
    exact (k2 ps hps L hL).1 s hs hl
end
theorem deepP_sound (G : GV) : Sound Tryz.prog G 44 deepP := by
  refine Sound.of_below fun args σ r σ' he => ?_
  have hrun : ∀ vs w, (callFunc 44 vs).run Tryz.prog w = .ok (.enter 44 vs) w := fun vs w => run_callFunc Tryz.func44 rfl (by kernel_rfl) vs
  unfold deepP at he
  rw [Option.map_eq_some_iff] at he
  obtain ⟨v0, hv0, he⟩ := he
  cases he
  unfold deepG at hv0
  split at hv0
  · rename_i x
    split at hv0
    · rename_i hc
      cases hv0
      simp only [Bool.and_eq_true, decide_eq_true_eq] at hc
      refine ⟨rfl, rfl, fun M ι X κ w vs h hG => ⟨hrun _ _, _, .int _ _, ?_⟩⟩
      have hl := h.rep.1
      obtain ⟨v, hv⟩ : ∃ v, vs.toList = [v] := List.length_eq_one_iff.1 (by simpa using hl)
      have hvs : vs = #[v] := by apply Array.ext'; simpa using hv
      have hr : Rep M ι v x := by have := h.rep; rw [hv] at this; exact this.head
      subst hvs
      have hM : Held M w.heap.size w := fun b i u hb => ⟨h.wd.lt hb, h.wd.mem b i u hb⟩
      exact deep_calls (all_pd hM _ x (Nat.lt_succ_self _) v hr hc.1) (by omega) w (.refl _ _) (Nat.le_refl _)
    · cases hv0
  · cases hv0
end Go.Proofs.YtenicbbhihbkcaaGreatDoor
set_option linter.unusedSimpArgs false
set_option linter.unusedVariables false
set_option maxRecDepth 100000
set_option maxHeartbeats 1000000
namespace Go.Proofs.YtenicbbhihbkcaaGreatDoor
open Go.RowKit Go.Ev
theorem prim0_sound : ∀ f h, cx0.prim f = some h → Sound Tryz.prog cx0.G f h := by
  intro f h he
  have he' : prim0 f = some h := he
  unfold prim0 at he'
  split at he'
  · rename_i e
    cases he'
    subst e
    exact deepP_sound _
  · split at he'
    · rename_i e
      cases he'
      subst e
      exact ixP_sound _
    · cases he'
theorem holds_calls {y n : V} {t : Bool} (h : holdsR y n = some t) (W : World) {v u : Value} (hv : Rep (memOf W) noPlc v y) (hu : Rep (memOf W) noPlc u n) (hy : y.ng = y) (hn : n.ng = n) :
    Calls Tryz.prog 151 #[v, u] W fun e w' => e = .returned (.bool t) ∧ Below W.heap.size W w' := by
  have hE : E cx0 151 [y, n] [] = some (.bool t, []) := by
    unfold holdsR at h
    split at h
    · rename_i b hr
      cases h
      exact E_run treeTyC_ok hr
    · cases h
  obtain ⟨k, hev⟩ := ev_of_E hE
  exact calls_of_ev (by kernel_rfl) cx0 prim0_sound okTyC (F := c_Z2l) (by kernel_rfl) W (.cons hv (.cons hu .nil)) (by intro x hx; simp only [List.mem_cons, List.not_mem_nil, or_false] at hx; rcases hx with rfl | rfl <;> assumption) ⟨fun g => .any _, fun p hp => by cases hp⟩ hev
theorem rowGo_some {ys : List V} {n : V} : ∀ {zv : List V} {s : List UInt8}, rowGo ys n zv = some s →
    ∃ (zs : List Int) (bits : List Bool), zv = zs.map (V.int .i64) ∧ s = tx01 bits ∧ bits.length = zs.length ∧ ∀ (i : Nat) z t, zs[i]? = some z → bits[i]? = some t → 0 ≤ z ∧ ∃ y, ys[z.toNat]? = some y ∧ atS y = true ∧ holdsR y n = some t
  | [], s, h => by
    cases h
    exact ⟨[], [], rfl, rfl, rfl, fun i z t hz => by cases hz⟩
  | x :: r, s, h => by
    unfold rowGo at h
    split at h
    · cases ‹x :: r = []›
    · rename_i i r' e
      cases e
      split at h
      · rename_i hi
        obtain ⟨y, hy, h⟩ := Option.bind_eq_some_iff.1 h
        split at h
        · rename_i ha
          obtain ⟨b, hb, h⟩ := Option.bind_eq_some_iff.1 h
          obtain ⟨s', hs', h⟩ := Option.map_eq_some_iff.1 h
          obtain ⟨zs, bits, rfl, rfl, hl, hz⟩ := rowGo_some hs'
          refine ⟨i :: zs, b :: bits, rfl, h.symm, by simp [hl], fun j z t hj ht => ?_⟩
          cases j with
          | zero => simp at hj ht; subst hj ht; exact ⟨hi, y, hy, ha, hb⟩
          | succ j => exact hz j z t (by simpa using hj) (by simpa using ht)
        · cases h
      · cases h
    · cases h
theorem lsV_eq {x : V} {xs : List V} (h : lsV x = some xs) : (x = .nils ∧ xs = []) ∨ ∃ c, x = .sl xs c := by
  unfold lsV at h
  split at h
  · cases h; exact .inl ⟨rfl, rfl⟩
  · cases h; exact .inr ⟨_, rfl⟩
  · cases h
section
variable {M : Mem} {ι : Plc} {w : World}
theorem rep_slice {x : V} (hx : slS x = true) {v : Value} (h : Rep M ι v x) : ∃ a l c, v = .slice a l c := by
  unfold slS at hx
  split at hx
  · cases h; exact ⟨_, _, _, rfl⟩
  · rcases h.inv_sl with ⟨b, off, cap, sz, us, rfl, _⟩ | ⟨a, rfl, rfl, _⟩ <;> exact ⟨_, _, _, rfl⟩
  · cases hx
theorem nd_of {n : V} (hn : ndS n = true) {v : Value} (h : Rep M ι v n) : ∃ x : NV, v = x.v := by
  unfold ndS at hn
  split at hn
  · rename_i p k sp nm a s tx
    simp only [Bool.and_eq_true] at hn
    cases h with
    | agg vs cs hl hr =>
      have hr' : Reps M ι vs.toList [.int .i64 p, .int .i64 k, .str sp, .str nm, a, s, .str tx] := ⟨by simpa using hl, fun i u c hu hc => hr i u c (by simpa using hu) hc⟩
      obtain ⟨v0, v1, v2, v3, v4, v5, v6, hv⟩ : ∃ v0 v1 v2 v3 v4 v5 v6, vs.toList = [v0, v1, v2, v3, v4, v5, v6] := by
        match hq : vs.toList, hr'.1 with
        | [a, b, c, d, e, f, g], _ => exact ⟨a, b, c, d, e, f, g, rfl⟩
      have hvs : vs = #[v0, v1, v2, v3, v4, v5, v6] := by apply Array.ext'; simpa using hv
      rw [hv] at hr'
      have h0 := hr'.2 0 _ _ rfl rfl
      have h1 := hr'.2 1 _ _ rfl rfl
      obtain ⟨s2, rfl, _⟩ := (hr'.2 2 _ _ rfl rfl).inv_str
      obtain ⟨s3, rfl, _⟩ := (hr'.2 3 _ _ rfl rfl).inv_str
      obtain ⟨a4, l4, c4, rfl⟩ := rep_slice hn.1 (hr'.2 4 _ _ rfl rfl)
      obtain ⟨a5, l5, c5, rfl⟩ := rep_slice hn.2 (hr'.2 5 _ _ rfl rfl)
      obtain ⟨s6, rfl, _⟩ := (hr'.2 6 _ _ rfl rfl).inv_str
      obtain rfl := h0.inv_int
      obtain rfl := h1.inv_int
      exact ⟨⟨p, k, s2, s3, a4, l4, c4, a5, l5, c5, s6⟩, by rw [hvs]⟩
  · cases hn
theorem at_of {y : V} (hy : atS y = true) (hM : Held M w.heap.size w) {b off i : Nat}
    (he : ∀ j c, y.cells[j]? = some c → ∃ u, Rep M ι u c ∧ b < w.heap.size ∧ w.cell? ⟨b, off + (i * y.cells.length + j), none⟩ = some u) :
    ∃ x : AV, b < w.heap.size ∧ (∀ j u, x.cs[j]? = some u → w.cell? ⟨b, off + i * 7 + j, none⟩ = some u) ∧ (∀ W, Rep (memOf W) noPlc x.v y) ∧ y.ng = y := by
  unfold atS at hy
  split at hy
  · rename_i k h sp nm op tx fd
    obtain ⟨u0, r0, hb, g0⟩ := he 0 _ rfl
    obtain ⟨u1, r1, _, g1⟩ := he 1 _ rfl
    obtain ⟨u2, r2, _, g2⟩ := he 2 _ rfl
    obtain ⟨u3, r3, _, g3⟩ := he 3 _ rfl
    obtain ⟨u4, r4, _, g4⟩ := he 4 _ rfl
    obtain ⟨u5, r5, _, g5⟩ := he 5 _ rfl
    obtain ⟨u6, r6, _, g6⟩ := he 6 _ rfl
    cases r0.inv_int; cases r1.inv_bool; cases r4.inv_int; cases r6.inv_bool
    obtain ⟨s2, rfl, h2⟩ := r2.inv_str
    obtain ⟨s3, rfl, h3⟩ := r3.inv_str
    obtain ⟨s5, rfl, h5⟩ := r5.inv_str
    refine ⟨⟨k, h, s2, s3, op, s5, fd⟩, hb, ?_, fun W => ?_, rfl⟩
    · intro j u hu
      match j, hu with
      | 0, hu => cases hu; exact g0
      | 1, hu => cases hu; exact g1
      | 2, hu => cases hu; exact g2
      | 3, hu => cases hu; exact g3
      | 4, hu => cases hu; exact g4
      | 5, hu => cases hu; exact g5
      | 6, hu => cases hu; exact g6
      | j + 7, hu => simp [AV.cs] at hu
    · exact Rep.agg_iff.2 (.cons (.int _ _) (.cons (.bool _) (.cons (.str _ _ h2) (.cons (.str _ _ h3) (.cons (.int _ _) (.cons (.str _ _ h5) (.cons (.bool _) .nil)))))))
  · cases hy
end
theorem rowP_sound (G : GV) : Sound Tryz.prog G 266 rowP := by
  refine Sound.of_below fun args σ r σ' he => ?_
  have hrun : ∀ vs w, (callFunc 266 vs).run Tryz.prog w = .ok (.enter 266 vs) w := fun vs w => run_callFunc Tryz.func266 rfl (by kernel_rfl) vs
  unfold rowP at he
  rw [Option.map_eq_some_iff] at he
  obtain ⟨v0, hv0, he⟩ := he
  cases he
  unfold rowG at hv0
  split at hv0
  · rename_i o off n z
    obtain ⟨cs, hcs, hv0⟩ := Option.bind_eq_some_iff.1 hv0
    obtain ⟨a, ha, hv0⟩ := Option.bind_eq_some_iff.1 hv0
    obtain ⟨ys, hys, hv0⟩ := Option.bind_eq_some_iff.1 hv0
    obtain ⟨zv, hzv, hv0⟩ := Option.bind_eq_some_iff.1 hv0
    split at hv0
    · rename_i hc
      simp only [Bool.and_eq_true, decide_eq_true_eq] at hc
      obtain ⟨⟨⟨⟨c1, c2⟩, c3⟩, c4⟩, c5⟩ := hc
      obtain ⟨s, hs, hv0⟩ := Option.map_eq_some_iff.1 hv0
      subst hv0
      obtain ⟨zs, bits, rfl, rfl, hbl, hg⟩ := rowGo_some hs
      refine ⟨rfl, rfl, fun M ι X κ w vs h hG => ⟨hrun _ _, .string ⟨(tx01 bits).toArray⟩, .str _ _ rfl, ?_⟩⟩
      have hl := h.rep.1
      obtain ⟨v0, v1, v2, hv⟩ : ∃ v0 v1 v2, vs.toList = [v0, v1, v2] := by
        match hq : vs.toList, hl with
        | [a, b, c], _ => exact ⟨a, b, c, rfl⟩
      have hvs : vs = #[v0, v1, v2] := by apply Array.ext'; simpa using hv
      have hr := h.rep
      rw [hv] at hr
      subst hvs
      obtain ⟨vb, rfl, hio⟩ := hr.head.inv_ptr
      obtain ⟨x, rfl⟩ := nd_of c3 hr.tail.head
      have hM : Held M w.heap.size w := fun b i u hb => ⟨h.wd.lt hb, h.wd.mem b i u hb⟩
      obtain ⟨zs', za, zc, rfl, hzx, hze⟩ := row_els (by rcases lsV_eq hzv with ⟨rfl, _⟩ | ⟨c, rfl⟩; exact .inl rfl; exact .inr ⟨_, _, rfl⟩) hr.tail.tail.head hM
      obtain rfl : zs' = zs.map (V.int .i64) := by
        rcases lsV_eq hzv with ⟨rfl, e⟩ | ⟨c, rfl⟩ <;> rcases hzx with ⟨e1, e2⟩ | ⟨c', e1⟩
        · rw [e, e2]
        · cases e1
        · cases e1
        · cases e1; rfl
      obtain ⟨O, hO, hor⟩ := h.wd.obj o vb hio
      have hO' : O = .cells cs := by
        unfold Objs.get at hcs
        rw [hO] at hcs
        cases O <;> simp at hcs
        rw [hcs]
      subst hO'
      obtain ⟨ws, T, fz, h1, h2, _⟩ := hor
      obtain ⟨u, hu, hru⟩ := h2.get ha
      have hoff : off < cs.length := (List.getElem?_eq_some_iff.1 ha).1
      rw [List.getElem?_take, if_pos hoff] at hu
      have hcell : w.cell? ⟨vb, off, none⟩ = some u := by
        unfold World.cell?
        simp only [h1]
        simpa using hu
      obtain ⟨ys', aa, ac, rfl, hyx, hye⟩ := row_els (by rcases lsV_eq hys with ⟨rfl, _⟩ | ⟨c, rfl⟩; exact .inl rfl; exact .inr ⟨_, _, rfl⟩) hru hM
      obtain rfl : ys' = ys := by
        rcases lsV_eq hys with ⟨rfl, e⟩ | ⟨c, rfl⟩ <;> rcases hyx with ⟨e1, e2⟩ | ⟨c', e1⟩
        · rw [e, e2]
        · cases e1
        · cases e1
        · cases e1; rfl
      have hc4 : zs.length ≤ 1000 := by simpa using c4
      have hlen : (zs.map (V.int .i64)).length = zs.length := by simp
      rw [hlen]
      refine row_calls wb ws_ w vb off x aa ys'.length ac za zc zs bits hcell (h.wd.olt o vb hio) hc4 hbl (by omega) (fun i z hz => ?_) (fun i z t hz ht => ?_)
      · obtain ⟨b, off, e, hh⟩ := hze i (.int .i64 z) (by rw [List.getElem?_map, hz]; rfl)
        obtain ⟨u, ru, hb, hcl⟩ := hh 0 _ rfl
        obtain rfl := ru.inv_int
        exact ⟨b, off, e, hb, by simpa [V.cells] using hcl⟩
      · obtain ⟨hz0, y, hy, hay, hho⟩ := hg i z t hz ht
        obtain ⟨b, off, e, hh⟩ := hye z.toNat y hy
        obtain ⟨av, hb, hcl, hrep, hng⟩ := at_of hay hM hh
        refine ⟨av, b, off, z.toNat, by omega, (List.getElem?_eq_some_iff.1 hy).1, e, hb, hcl, fun W hW => ?_⟩
        have hn : n.ng = n := by
          unfold ndS at c3
          split at c3
          · rfl
          · cases c3
        exact holds_calls hho W (hrep W) (hr.tail.head.rb (n := 0) ⟨fun b i u hb => (hW.cell (hM b i u hb).1).trans (hM b i u hb).2⟩ (fun o b ho => absurd ho (Nat.not_lt_zero _)) c2) hng hn
    · cases hv0
  · cases hv0
theorem cx_prim : ∀ f h, cx.prim f = some h → Sound Tryz.prog cx.G f h := by
  intro f h he
  have he' : primTy f = some h := he
  unfold primTy at he'
  split at he'
  · rename_i e
    cases he'
    subst e
    exact rowP_sound _
  · exact prim0_sound f h he'
end Go.Proofs.YtenicbbhihbkcaaGreatDoor
