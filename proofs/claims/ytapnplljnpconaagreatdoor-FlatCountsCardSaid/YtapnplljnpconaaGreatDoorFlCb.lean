/- Part of a proof: the small language, and functions of the program on it. -/
import Derived.Test.YtapnplljnpconaaGreatDoorFlCa
import Derived.Laws.Sem
set_option linter.unusedSimpArgs false
set_option linter.unusedVariables false
set_option linter.unusedSectionVars false
namespace Go.Ev
open Go
def Ins.args : Ins → List Arg
 | .mv x _ => [x]
 | .pick c a b => [c, a, b]
 | .alloc _ => []
 | .box x => [x]
 | .build _ ps => ps.map (·.2.2)
 | .buildSl _ _ _ _ ps _ => ps.map (·.2)
 | .load _ _ x => [x]
 | .loadT x => [x]
 | .store _ p x _ => [p, x]
 | .nilc x => [x]
 | .bin _ _ x y => [x, y]
 | .un _ x => [x]
 | .conv _ x => [x]
 | .cutS x lo hi => x :: (lo.toList ++ hi.toList)
 | .cut _ x lo hi mx => x :: (lo.toList ++ hi.toList ++ mx.toList)
 | .cutA _ _ _ x lo hi => x :: (lo.toList ++ hi.toList)
 | .faddr _ x => [x]
 | .field _ _ _ x => [x]
 | .iaddr _ x i => [x, i]
 | .iaddrA _ _ x i => [x, i]
 | .idx x i => [x, i]
 | .idxA _ _ _ x i => [x, i]
 | .lenS x => [x]
 | .len x => [x]
 | .app _ _ _ _ x y _ => [x, y]
 | .appH _ _ _ _ x y => [x, y]
 | .bytesH x => [x]
 | .call _ as => as
 | .callv x as => x :: as
 | .mkfn _ a b => a ++ b
 | .mkif _ x => [x]
 | .extr x _ => [x]
 | .mkSl _ _ _ _ l c _ => [l, c]
 | .mm _ as => as
 | .mkmp => []
 | .mset m k x => [m, k, x]
 | .mget _ m k _ => [m, k]
 | .buildG _ _ _ _ ps => ps.map (·.2)
 | .mark x => [x]
theorem Qgy {α β : Type} {f g : α → β} {o : Option α} (h : ∀ x ∈ o.toList, f x = g x) : o.map f = o.map g := by
 cases o with
 | none => rfl
 | some x => simp [h x (by simp)]
theorem Qnu {A A' : Arg → V} {σ : Objs} {i : Ins} (h : ∀ x ∈ i.args, A x = A' x) : Qay A σ i = Qay A' σ i := by
 cases i
 case build z ps =>
  simp only [Qay]
  rw [List.map_congr_left (f := fun p : Nat × Nat × Arg => (p.1, p.2.1, A p.2.2)) (g := fun p => (p.1, p.2.1, A' p.2.2)) fun p hp => by rw [h p.2.2 (List.mem_map.2 ⟨p, hp, rfl⟩)]]
 case cutS x lo hi =>
  simp only [Qay]
  rw [h x (by simp [Ins.args]), Qgy (f := A) (g := A') fun y hy => h y (by simp only [Ins.args, List.mem_cons, List.mem_append]; exact .inr (.inl hy)), Qgy (f := A) (g := A') fun y hy => h y (by simp only [Ins.args, List.mem_cons, List.mem_append]; exact .inr (.inr hy))]
 case cut sz x lo hi mx =>
  simp only [Qay]
  rw [h x (by simp [Ins.args]), Qgy (f := A) (g := A') fun y hy => h y (by simp only [Ins.args, List.mem_cons, List.mem_append]; exact .inr (.inl (.inl hy))), Qgy (f := A) (g := A') fun y hy => h y (by simp only [Ins.args, List.mem_cons, List.mem_append]; exact .inr (.inl (.inr hy))), Qgy (f := A) (g := A') fun y hy => h y (by simp only [Ins.args, List.mem_cons, List.mem_append]; exact .inr (.inr hy))]
 case cutA n sz ag x lo hi =>
  simp only [Qay]
  rw [h x (by simp [Ins.args]), Qgy (f := A) (g := A') fun y hy => h y (by simp only [Ins.args, List.mem_cons, List.mem_append]; exact .inr (.inl hy)), Qgy (f := A) (g := A') fun y hy => h y (by simp only [Ins.args, List.mem_cons, List.mem_append]; exact .inr (.inr hy))]
 case mkfn f a b =>
  simp only [Qay]
  rw [List.map_congr_left fun y hy => h y (List.mem_append_left _ hy), List.map_congr_left fun y hy => h y (List.mem_append_right _ hy)]
 case mm mx as =>
  have hm : as.map A = as.map A' := List.map_congr_left fun y hy => h y hy
  simp only [Qay, hm]
 all_goals first | rfl | (simp only [Qay]; simp only [Ins.args, List.mem_cons, List.not_mem_nil, or_false, forall_eq_or_imp, forall_eq] at h; simp only [h])
theorem Qpl {call : FuncId → List V → Objs → Option (V × Objs)} {A A' T T' : Arg → V} {σ : Objs} {i : Ins} (h : ∀ x ∈ i.args, A x = A' x) (k : ∀ x ∈ i.args, T x = T' x) : Qaw call A T σ i = Qaw call A' T' σ i := by
 have hp := Qnu (σ := σ) h
 cases i
 case buildSl ag sz len z ps hh =>
  simp only [Qaw]
  rw [List.map_congr_left (f := fun p : Nat × Arg => (p.1, A p.2)) (g := fun p => (p.1, A' p.2)) fun p hp => by rw [h p.2 (List.mem_map.2 ⟨p, hp, rfl⟩)]]
 case buildG ag sz len z ps =>
  simp only [Qaw]
  rw [List.map_congr_left (f := fun p : Nat × Arg => (p.1, A p.2)) (g := fun p => (p.1, A' p.2)) fun p hp => by rw [h p.2 (List.mem_map.2 ⟨p, hp, rfl⟩)]]
 case call f as =>
  have hm : as.map A = as.map A' := List.map_congr_left fun y hy => h y hy
  simp only [Qaw, hm]
 case callv x as =>
  have hm : as.map A = as.map A' := List.map_congr_left fun y hy => h y (List.mem_cons_of_mem _ hy)
  simp only [Qaw, hm, h x (List.mem_cons_self ..)]
 case conv c x =>
  cases c <;> first | (simp only [Qaw]; rw [hp]) | (simp only [Qaw]; rw [h x (List.mem_cons_self ..)])
 all_goals first
  | rfl
  | (simp only [Qaw]; rw [hp])
  | (simp only [Qaw]; simp only [Ins.args, List.mem_cons, List.not_mem_nil, or_false, forall_eq_or_imp, forall_eq] at h k; simp only [h, k])
def Step.wr (s : Step) : List Nat := s.dst.toList ++ (match s.ins.takes with | (.t n, true) => [n] | _ => [])
def Arg.slot : Arg → Option Nat
 | .t n => some n
 | _ => none
def Step.rd (s : Step) : List Nat := s.ins.args.filterMap Arg.slot ++ (s.gd.map Prod.fst).toList
theorem Qur (i : Ins) {n : Nat} (h : i.takes = (.t n, true)) : .t n ∈ i.args := by
 cases i <;> simp [Ins.takes] at h <;> simp [Ins.args, h]
section
variable {G : GV} {call : FuncId → List V → Objs → Option (V × Objs)} {ρ ρ' τ : List V} {σ σ1 : Objs} {s : Step}
theorem Qld {x : Arg} (h : ∀ n, x.slot = some n → ρ'.getD n .undef = ρ.getD n .undef) : argT G ρ' x = argT G ρ x := by
 cases x <;> first | rfl | exact h _ rfl
theorem Qiy {gd : Option (Nat × Bool)} (h : ∀ n ∈ (gd.map Prod.fst).toList, ρ'.getD n .undef = ρ.getD n .undef) : wanted ρ' gd = wanted ρ gd := by
 cases gd with
 | none => rfl
 | some p =>
  obtain ⟨g, b⟩ := p
  simp only [wanted]
  rw [h g (by simp)]
theorem Qh9 (d : Option Nat) (x : V) (t : Nat) : (put ρ d x)[t]? = if d = some t then (if t < ρ.length then some x else none) else ρ[t]? := by
 cases d with
 | none => simp [put]
 | some d =>
  simp only [put, List.getElem?_set, Option.some.injEq]
  by_cases hd : d = t
  ·subst hd; rfl
  ·rw [if_neg hd, if_neg hd]
theorem Ql8 (d : Option Nat) (x : V) : (put ρ d x).length = ρ.length := by cases d <;> simp [put]
theorem Qf4 (x : Arg) (tk : Bool) : (unslot ρ x tk).length = ρ.length := by
 unfold unslot; split <;> simp
def Qel (x : Arg) (tk : Bool) (t : Nat) : Bool := tk && x.slot == some t
theorem Qcc {x : Arg} {tk : Bool} {t : Nat} : Qel x tk t = true ↔ x = .t t ∧ tk = true := by
 unfold Qel
 cases tk <;> cases x <;> simp [Arg.slot]
theorem Qia (x : Arg) (tk : Bool) (t : Nat) : (unslot ρ x tk)[t]? = if Qel x tk t = true then (ρ[t]?).map V.ng else ρ[t]? := by
 by_cases hx : Qel x tk t = true
 ·rw [if_pos hx]
  obtain ⟨rfl, rfl⟩ := Qcc.1 hx
  simp only [unslot, List.getElem?_set, if_true]
  by_cases hl : t < ρ.length
  ·rw [if_pos hl]; simp [List.getD, List.getElem?_eq_getElem hl]
  ·rw [if_neg hl]; simp [List.getElem?_eq_none (Nat.not_lt.1 hl)]
 ·rw [if_neg hx]
  unfold unslot
  split
  ·rename_i n
   rw [List.getElem?_set_ne (fun e => hx (Qcc.2 ⟨by rw [e], rfl⟩))]
  ·rfl
theorem Waz {t : Nat} (h : s.dst = some t) : t ∈ s.wr := by simp [Step.wr, h]
theorem Wcs {t : Nat} (h : Qel s.ins.takes.1 s.ins.takes.2 t = true) : t ∈ s.wr := by
 obtain ⟨h1, h2⟩ := Qcc.1 h
 have : s.ins.takes = (Arg.t t, true) := Prod.ext h1 h2
 simp [Step.wr, this]
theorem Qq7 {t : Nat} (h : t ∈ s.wr) : s.dst = some t ∨ Qel s.ins.takes.1 s.ins.takes.2 t = true := by
 simp only [Step.wr, List.mem_append] at h
 rcases h with h | h
 ·cases hq : s.dst with
  | none => rw [hq] at h; simp at h
  | some d => rw [hq] at h; simp at h; rw [h]; exact .inl rfl
 ·split at h
  ·rename_i n heq
   simp at h
   subst h
   exact .inr (Qcc.2 ⟨by rw [heq], by rw [heq]⟩)
  ·simp at h
theorem Qff (h : Qbq G call s ρ σ = some (τ, σ1)) : τ.length = ρ.length ∧ ∀ t, t ∉ s.wr → τ[t]? = ρ[t]? := by
 unfold Qbq ev1 at h
 simp only [Option.bind_eq_bind, Option.bind_eq_some_iff] at h
 obtain ⟨b, _, h⟩ := h
 cases b with
 | true =>
  simp only [if_true, Option.bind_eq_some_iff, Option.some.injEq, Prod.mk.injEq] at h
  obtain ⟨⟨v, σ2⟩, _, rfl, rfl⟩ := h
  refine ⟨by rw [Ql8, Qf4], fun t ht => ?_⟩
  rw [Qh9, if_neg (fun e => ht (Waz e)), Qia, if_neg (fun e => ht (Wcs e))]
 | false =>
  simp only [Bool.false_eq_true, if_false, Option.some.injEq, Prod.mk.injEq] at h
  obtain ⟨rfl, rfl⟩ := h
  refine ⟨Ql8 .., fun t ht => ?_⟩
  rw [Qh9, if_neg (fun e => ht (Waz e))]
theorem Qd4 (h : Qbq G call s ρ σ = some (τ, σ1)) (hl : ρ'.length = ρ.length) (hr : ∀ t ∈ s.rd, ρ'[t]? = ρ[t]?) :
  ∃ τ', Qbq G call s ρ' σ = some (τ', σ1) ∧ ∀ t ∈ s.wr, τ'[t]? = τ[t]? := by
 have hr' : ∀ t ∈ s.rd, ρ'.getD t .undef = ρ.getD t .undef := fun t ht => by simp only [List.getD, hr t ht]
 have hw : wanted ρ' s.gd = wanted ρ s.gd := Qiy fun n hn => hr' n (List.mem_append_right _ hn)
 have hT : ∀ x ∈ s.ins.args, argT G ρ' x = argT G ρ x := fun x hx => Qld fun n hn => hr' n (List.mem_append_left _ (List.mem_filterMap.2 ⟨x, hx, hn⟩))
 have hA : ∀ x ∈ s.ins.args, arg G ρ' x = arg G ρ x := fun x hx => by unfold arg; rw [hT x hx]
 unfold Qbq ev1 at h ⊢
 simp only [Option.bind_eq_bind, Option.bind_eq_some_iff] at h
 obtain ⟨b, hb, h⟩ := h
 simp only [Option.bind_eq_bind, hw, hb, Option.bind_some]
 have take : ∀ t, s.ins.takes = (Arg.t t, true) → ρ'[t]? = ρ[t]? := fun t ht => hr t (List.mem_append_left _ (List.mem_filterMap.2 ⟨_, Qur _ ht, rfl⟩))
 cases b with
 | true =>
  simp only [if_true, Option.bind_eq_some_iff, Option.some.injEq, Prod.mk.injEq] at h ⊢
  obtain ⟨⟨v, σ2⟩, hi, rfl, rfl⟩ := h
  refine ⟨_, ⟨(v, σ2), by rw [Qpl hA hT]; exact hi, rfl, rfl⟩, fun t ht => ?_⟩
  simp only
  rw [Qh9, Qh9, Qf4, Qf4, hl]
  by_cases hd : s.dst = some t
  ·rw [if_pos hd, if_pos hd]
  ·have htk := (Qq7 ht).resolve_left hd
   obtain ⟨h1, h2⟩ := Qcc.1 htk
   rw [if_neg hd, if_neg hd, Qia, Qia, if_pos htk, if_pos htk, take t (Prod.ext h1 h2)]
 | false =>
  simp only [Bool.false_eq_true, if_false, Option.some.injEq, Prod.mk.injEq] at h ⊢
  obtain ⟨rfl, rfl⟩ := h
  refine ⟨_, ⟨rfl, rfl⟩, fun t ht => ?_⟩
  rw [Qh9, Qh9, hl]
  by_cases hd : s.dst = some t
  ·rw [if_pos hd, if_pos hd]
  ·have htk := (Qq7 ht).resolve_left hd
   obtain ⟨h1, h2⟩ := Qcc.1 htk
   rw [if_neg hd, if_neg hd, take t (Prod.ext h1 h2)]
end
end Go.Ev
namespace Go.Ev
open Go
def neutral : Ins → Bool
 | .mv .. | .pick .. | .build .. | .nilc _ | .bin .. | .un .. | .cutS .. | .cut .. | .cutA .. | .faddr .. | .field .. | .iaddr .. | .iaddrA .. | .idx .. | .idxA .. | .lenS _ | .len _ | .mkfn .. | .mkif .. | .extr .. | .mm .. => true
 | .conv .bytesStr _ => false
 | .conv .. => true
 | .buildSl _ _ _ _ _ h => !h
 | .mkSl _ _ _ _ _ _ h => !h
 | .buildG .. => true
 | _ => false
def dly : Ins → Bool
 | .load .. | .loadT _ | .alloc _ | .box _ => true
 | i => neutral i
theorem Qhi {call : FuncId → List V → Objs → Option (V × Objs)} {A T : Arg → V} {σ σ' σ2 : Objs} {i : Ins} {v : V} (hn : neutral i = true) (h : Qaw call A T σ i = some (v, σ')) : σ' = σ ∧ Qaw call A T σ2 i = some (v, σ2) := by
 have pure : ∀ (x : Option V), (do let v ← x; some (v.ng, σ)) = some (v, σ') → σ' = σ ∧ (do let v ← x; some (v.ng, σ2)) = some (v, σ2) := by
  intro x hx
  cases x with
  | none => cases hx
  | some y =>
   simp only [Option.bind_eq_bind, Option.bind_some, Option.some.injEq, Prod.mk.injEq, and_true] at hx ⊢
   exact ⟨hx.2.symm, hx.1⟩
 cases i <;> (try (cases hn; done)) <;> (try (exact pure _ h))
 case mv x tk =>
  simp only [Qaw, Option.some.injEq, Prod.mk.injEq, and_true] at h ⊢
  exact ⟨h.2.symm, h.1⟩
 case conv k x =>
  have hq : ∀ k, k ≠ .bytesStr → eC σ k (A x) = eC σ2 k (A x) := fun k hk => by
   cases k <;> first | (unfold eC; cases A x <;> rfl) | exact absurd rfl hk
  cases k
  case bytesStr => cases hn
  case strBytes =>
   simp only [Qaw] at h ⊢
   rw [hq _ (by simp)] at h
   cases hv : eC σ2 .strBytes (A x) with
   | none => rw [hv] at h; cases h
   | some y =>
    rw [hv] at h
    simp only [Option.bind_eq_bind, Option.bind_some, Option.some.injEq, Prod.mk.injEq, and_true] at h ⊢
    exact ⟨h.2.symm, h.1⟩
  all_goals
   simp only [Qaw, Qay] at h ⊢
   rw [hq _ (by simp)] at h
   exact pure _ h
 case buildSl ag sz len z ps hh =>
  cases hh with
  | true => cases hn
  | false =>
   simp only [Qaw, Option.bind_eq_bind, Option.bind_eq_some_iff, Bool.false_eq_true, if_false] at h ⊢
   obtain ⟨xs, hx, h⟩ := h
   split at h
   ·cases h; exact ⟨rfl, xs, hx, by rw [if_pos (by assumption)]⟩
   ·cases h
 case buildG ag sz len z ps =>
  simp only [Qaw, Option.bind_eq_bind, Option.bind_eq_some_iff] at h ⊢
  obtain ⟨xs, hx, h⟩ := h
  split at h
  ·cases h; exact ⟨rfl, xs, hx, by rw [if_pos (by assumption)]⟩
  ·cases h
 case mkSl ag sz bytes z l c hh =>
  cases hh with
  | true => cases hn
  | false =>
   simp only [Qaw, Option.bind_eq_bind, Option.bind_eq_some_iff, Bool.false_eq_true, if_false] at h ⊢
   obtain ⟨l, hl, c, hc, h⟩ := h
   split at h
   ·cases h; exact ⟨rfl, l, hl, c, hc, by rw [if_pos (by assumption)]⟩
   ·cases h
section
variable (P : Program) (ops : Array Oper) (l : List DS)
def dsAt (l : List DS) (p : Nat) : DS := l.getD p ⟨⟨none, none, .mkmp⟩, 0, []⟩
def place (l : List DS) (i : Nat) : Nat := l.findIdx (·.op == i)
def edges (ops : Array Oper) (l : List DS) (p : Nat) : List Nat :=
 match ops[(dsAt l p).op]? with
 | some o => (o.after.toList.filter (Region.binds .any)).map fun e => place l e.on
 | none => []
def Qus (ops : Array Oper) (l : List DS) : Nat → List (List Nat) → List (List Nat)
 | 0, acc => acc
 | n + 1, acc =>
  let es := edges ops l acc.length
  Qus ops l n (acc ++ [(List.range acc.length).filter fun q => es.contains q || es.any fun r => (acc.getD r []).contains q])
def apart (a b : Step) : Bool := a.wr.all (fun t => !b.wr.contains t && !b.rd.contains t) && b.wr.all (fun t => !a.rd.contains t)
structure DrwOK (P : Program) (ops : Array Oper) (l : List DS) (dp : List (List Nat)) : Prop where
 len : l.length = ops.size
 step : ∀ p, p < l.length → ∃ o, ops[(dsAt l p).op]? = some o ∧ Qed P ops o (dsAt l p).s = true
 inj : ∀ p q, p < l.length → q < l.length → (dsAt l p).op = (dsAt l q).op → p = q
 all : ∀ i, i < ops.size → place l i < l.length
 edge : ∀ p, p < l.length → ∀ q ∈ edges ops l p, q < p
 dep : ∀ p, p < l.length → ∀ q ∈ dp.getD p [], q ∈ edges ops l p ∨ ∃ r ∈ edges ops l p, q ∈ dp.getD r []
 pair : ∀ p, p < l.length → ∀ q, q < p → q ∈ dp.getD p [] ∨ (apart (dsAt l q).s (dsAt l p).s = true ∧ dly (dsAt l q).s.ins = true ∧ (dly (dsAt l p).s.ins = true ∨ neutral (dsAt l q).s.ins = true ∨ q ∈ (dsAt l p).un))
 un : ∀ p, p < l.length → dly (dsAt l p).s.ins = true → (dsAt l p).un = []
 unlt : ∀ p, p < l.length → ∀ k ∈ (dsAt l p).un, k < p
 sub : ∀ p, p < l.length → ∀ q ∈ edges ops l p, q ∈ dp.getD p []
def Qq8 (P : Program) (ops : Array Oper) (l : List DS) : Bool :=
 let dp := Qus ops l l.length []
 let r := List.range l.length
 decide (l.length = ops.size) &&
 r.all (fun p => match ops[(dsAt l p).op]? with | some o => Qed P ops o (dsAt l p).s | none => false) &&
 r.all (fun p => decide (place l (dsAt l p).op = p)) &&
 (List.range ops.size).all (fun i => decide (place l i < l.length)) &&
 r.all (fun p => (edges ops l p).all fun q => decide (q < p)) &&
 r.all (fun p => (dp.getD p []).all fun q => (edges ops l p).contains q || (edges ops l p).any fun r => (dp.getD r []).contains q) &&
 r.all (fun p => (List.range p).all fun q => (dp.getD p []).contains q || (apart (dsAt l q).s (dsAt l p).s && dly (dsAt l q).s.ins && (dly (dsAt l p).s.ins || neutral (dsAt l q).s.ins || (dsAt l p).un.contains q))) &&
 r.all (fun p => !dly (dsAt l p).s.ins || (dsAt l p).un.isEmpty) &&
 r.all (fun p => (dsAt l p).un.all fun k => decide (k < p)) &&
 r.all (fun p => (edges ops l p).all fun q => (dp.getD p []).contains q)
theorem Qut {P : Program} {ops : Array Oper} {l : List DS} (h : Qq8 P ops l = true) : ∃ dp, DrwOK P ops l dp := by
 unfold Qq8 at h
 simp only [Bool.and_eq_true, decide_eq_true_eq, List.all_eq_true, List.mem_range] at h
 obtain ⟨⟨⟨⟨⟨⟨⟨⟨⟨h1, h2⟩, h3⟩, h4⟩, h5⟩, h6⟩, h7⟩, h8⟩, h9⟩, h10⟩ := h
 refine ⟨Qus ops l l.length [], h1, fun p hp => ?_, fun p q hp hq e => ?_, h4, h5, fun p hp q hq => ?_, fun p hp q hq => ?_, fun p hp hd => ?_, h9, fun p hp q hq => by have := h10 p hp q hq; rwa [List.contains_iff_mem] at this⟩
 ·have := h2 p hp
  split at this
  ·exact ⟨_, by assumption, this⟩
  ·cases this
 ·rw [← h3 p hp, ← h3 q hq, e]
 ·have := h6 p hp q hq
  simp only [Bool.or_eq_true, List.contains_iff_mem, List.any_eq_true] at this
  exact this
 ·have := h7 p hp q hq
  simp only [Bool.or_eq_true, Bool.and_eq_true, List.contains_iff_mem] at this
  rcases this with h | ⟨⟨h, k⟩, m⟩
  ·exact .inl h
  ·exact .inr ⟨h, k, by rcases m with (m | m) | m <;> simp [m]⟩
 ·have := h8 p hp
  rw [hd] at this
  simpa using this
theorem Qf5 {a b : Step} (h : apart a b = true) : (∀ t ∈ a.wr, t ∉ b.wr ∧ t ∉ b.rd) ∧ ∀ t ∈ b.wr, t ∉ a.rd := by
 unfold apart at h
 simp only [Bool.and_eq_true, List.all_eq_true, Bool.not_eq_true', List.contains_eq_mem, decide_eq_false_iff_not] at h
 exact h
theorem Wct {P : Program} {ops : Array Oper} {l : List DS} {dp : List (List Nat)} (hk : DrwOK P ops l dp) {L : Nat → Prop} (hL : ∀ p, L p → p < l.length → ∀ q ∈ edges ops l p, L q) :
  ∀ p, p < l.length → (∀ q ∈ edges ops l p, L q) → ∀ q ∈ dp.getD p [], L q := by
 intro p
 induction p using Nat.strongRecOn with
 | _ p ih =>
  intro hp he q hq
  rcases hk.dep p hp q hq with hq | ⟨r, hr, hq⟩
  ·exact he q hq
  ·have hrp := hk.edge p hp r hr
   exact ih r hrp (by omega) (hL r (he r hr) (by omega)) q hq
end
section
variable (G : GV) (call : FuncId → List V → Objs → Option (V × Objs))
def rdAt (l : List DS) (R : Nat → List V) (S : Nat → Objs) (k : Nat) : Rd :=
 if (wanted (R k) (dsAt l k).s.gd).getD false then reads (arg G (R k)) (S k) (dsAt l k).s.ins else .none
def Qpm (past : Nat → Rd) (d : DS) (ρ ρ' : List V) (σ σ' : Objs) : Prop :=
 ∃ σ0 σ1, Qgg σ ((d.un.map past).filterMap Rd.cell) = some σ0 ∧ Qbq G call d.s ρ σ0 = some (ρ', σ1) ∧ Qef σ1 ((d.un.map past).filterMap Rd.cell) = some σ' ∧ ∀ k ∈ d.un, stable σ σ' (past k) = true
theorem Qq9 : ∀ (l : List DS) (past : List Rd) (ρ : List V) (σ : Objs) (ρn : List V) (σn : Objs), Qgh G call past l ρ σ = some (ρn, σn) →
  ∃ (R : Nat → List V) (S : Nat → Objs), R 0 = ρ ∧ S 0 = σ ∧ R l.length = ρn ∧ S l.length = σn ∧
   ∀ j, j < l.length → Qpm G call (fun k => (past ++ (List.range j).map (rdAt G l R S)).getD k .none) (dsAt l j) (R j) (R (j + 1)) (S j) (S (j + 1))
 | [], past, ρ, σ, ρn, σn, h => by
  simp only [Qgh, Option.some.injEq, Prod.mk.injEq] at h
  obtain ⟨rfl, rfl⟩ := h
  exact ⟨fun _ => ρ, fun _ => σ, rfl, rfl, rfl, rfl, fun j hj => absurd hj (by simp)⟩
 | d :: l, past, ρ, σ, ρn, σn, h => by
  simp only [Qgh, Option.bind_eq_bind, Option.bind_eq_some_iff] at h
  obtain ⟨σ0, h0, ⟨ρ1, σ1⟩, h1, σ', h2, h3⟩ := h
  split at h3
  ·rename_i hst
   obtain ⟨R, S, hR, hS, hRn, hSn, hrest⟩ := Qq9 l _ _ _ _ _ h3
   refine ⟨fun | 0 => ρ | j + 1 => R j, fun | 0 => σ | j + 1 => S j, rfl, rfl, hRn, hSn, fun j hj => ?_⟩
   cases j with
   | zero =>
    refine ⟨σ0, σ1, ?_, ?_, ?_, ?_⟩
    ·show Qgg σ ((d.un.map _).filterMap Rd.cell) = some σ0
     simpa using h0
    ·show Qbq G call d.s ρ σ0 = some (R 0, σ1)
     rw [hR]; exact h1
    ·show Qef σ1 _ = some (S 0)
     rw [hS]
     show Qef σ1 ((d.un.map _).filterMap Rd.cell) = some σ'
     simpa using h2
    ·intro k hk
     show stable σ (S 0) _ = true
     rw [hS]
     have := List.all_eq_true.1 hst (past.getD k .none) (List.mem_map.2 ⟨k, hk, rfl⟩)
     simpa using this
   | succ j =>
    have := hrest j (by simpa using hj)
    have e : (fun k => ((past ++ [if (wanted ρ d.s.gd).getD false = true then reads (arg G ρ) σ d.s.ins else .none]) ++ (List.range j).map (rdAt G l R S)).getD k .none) =
      fun k => (past ++ (List.range (j + 1)).map (rdAt G (d :: l) (fun | 0 => ρ | j + 1 => R j) (fun | 0 => σ | j + 1 => S j))).getD k .none := by
     rw [List.range_succ_eq_map, List.map_cons, List.map_map, List.append_assoc]
     rfl
    rw [e] at this
    exact this
  ·cases h3
end
end Go.Ev
namespace Go.Ev
open Go
mutual
theorem V.beq_eq : ∀ (x y : V), V.beq x y = true → x = y
 | .any, y, h => by cases y <;> simp [V.beq] at h <;> rfl
 | .undef, y, h => by cases y <;> simp [V.beq] at h <;> rfl
 | .nilp, y, h => by cases y <;> simp [V.beq] at h <;> rfl
 | .nils, y, h => by cases y <;> simp [V.beq] at h <;> rfl
 | .nili, y, h => by cases y <;> simp [V.beq] at h <;> rfl
 | .nilf, y, h => by cases y <;> simp [V.beq] at h <;> rfl
 | .nilm, y, h => by cases y <;> simp [V.beq] at h <;> rfl
 | .bool a, y, h => by cases y <;> simp [V.beq] at h; rw [h]
 | .int k a, y, h => by cases y <;> simp [V.beq] at h; rw [h.1, h.2]
 | .str a, y, h => by cases y <;> simp [V.beq] at h; rw [h]
 | .ptr a i, y, h => by cases y <;> simp [V.beq] at h; rw [h.1, h.2]
 | .eptr a i, y, h => by
  cases y <;> simp [V.beq] at h
  rw [V.beqs_eq _ _ h.1, h.2]
 | .sl a i, y, h => by
  cases y <;> simp [V.beq] at h
  rw [V.beqs_eq _ _ h.1, h.2]
 | .hs a b c d e, y, h => by cases y <;> simp [V.beq] at h; obtain ⟨⟨⟨⟨h1, h2⟩, h3⟩, h4⟩, h5⟩ := h; rw [h1, h2, h3, h4, h5]
 | .agg a, y, h => by
  cases y <;> simp [V.beq] at h
  rw [V.beqs_eq _ _ h]
 | .tup a, y, h => by
  cases y <;> simp [V.beq] at h
  rw [V.beqs_eq _ _ h]
 | .ifc t a, y, h => by
  cases y <;> simp [V.beq] at h
  rw [h.1, V.beq_eq _ _ h.2]
 | .fn f a b, y, h => by
  cases y <;> simp [V.beq] at h
  rw [h.1.1, V.beqs_eq _ _ h.1.2, V.beqs_eq _ _ h.2]
 | .mp a, y, h => by cases y <;> simp [V.beq] at h; rw [h]
theorem V.beqs_eq : ∀ (x y : List V), V.beqs x y = true → x = y
 | [], [], _ => rfl
 | [], _ :: _, h => by simp [V.beqs] at h
 | _ :: _, [], h => by simp [V.beqs] at h
 | x :: xs, y :: ys, h => by
  simp only [V.beqs, Bool.and_eq_true] at h
  rw [V.beq_eq x y h.1, V.beqs_eq xs ys h.2]
end
section
variable {P : Program} {M : Mem} {ι : Plc} {X : Nat → Prop} {κ : Own} {w : World} {us : List Value} {ρ : List V} {σ : Objs}
theorem Quu {v : Value} {xs : List V} {c c' : Cap} (h : Rep M ι v (.sl xs c)) (hc : c' ≠ .fx) (hg : ∀ s, c' ≠ .gr s) : Rep M ι v (.sl xs c') := by
 cases h with
 | sl0 a _ _ => exact .sl0 a c' hg
 | sl _ _ b off cap sz us h1 h2 h3 h4 h5 h6 => exact .sl xs c' b off cap sz us h1 h2 h3 h4 h5 (fun e => absurd e hc)
theorem Qib {σ : Objs} {o o' : Nat} {x : O} (h : o ≠ o') : (σ.set o x)[o']? = σ[o']? := List.getElem?_set_ne h
theorem Qjc {cs : List V} {o off : Nat} {y : V} (ho : σ[o]? = some (.cells cs)) {o' i : Nat} : lkAt (σ.set o (.cells (cs.set off y))) o' i ↔ if (o', i) = (o, off) then (y.isLk = true ∧ off < cs.length) else lkAt σ o' i := by
 have hol : o < σ.length := (List.getElem?_eq_some_iff.1 ho).1
 by_cases hoo : o = o'
 ·subst hoo
  by_cases hi : off = i
  ·subst hi
   rw [if_pos rfl]
   constructor
   ·rintro ⟨ds, x, h1, h2, h3⟩
    rw [List.getElem?_set_self hol] at h1
    cases h1
    rw [List.getElem?_set] at h2
    rw [if_pos rfl] at h2
    split at h2
    ·cases h2; exact ⟨h3, by assumption⟩
    ·cases h2
   ·rintro ⟨h1, h2⟩
    exact ⟨_, y, List.getElem?_set_self hol, by rw [List.getElem?_set_self h2], h1⟩
  ·rw [if_neg (fun e => hi (by cases e; rfl))]
   constructor
   ·rintro ⟨ds, x, h1, h2, h3⟩
    rw [List.getElem?_set_self hol] at h1
    cases h1
    rw [List.getElem?_set_ne hi] at h2
    exact ⟨cs, x, ho, h2, h3⟩
   ·rintro ⟨ds, x, h1, h2, h3⟩
    rw [ho] at h1; cases h1
    exact ⟨_, x, List.getElem?_set_self hol, by rw [List.getElem?_set_ne hi]; exact h2, h3⟩
 ·rw [if_neg (fun e => hoo (by cases e; rfl))]
  unfold lkAt
  rw [Qib hoo]
theorem Qnv : ∀ (l : List (Nat × Nat)) (σ σ0 : Objs), Qgg σ l = some σ0 → (St M ι X κ w us ρ σ → St M ι X κ w us ρ σ0) ∧ σ0.length = σ.length ∧ ∀ o i, lkAt σ0 o i → lkAt σ o i ∨ (o, i) ∈ l
 | [], σ, σ0, h => by
  simp only [Qgg, Option.some.injEq] at h
  subst h
  exact ⟨id, rfl, fun o i h => .inl h⟩
 | (o, off) :: r, σ, σ0, h => by
  simp only [Qgg] at h
  split at h
  ·rename_i cs hcs
   split at h
   ·rename_i xs c hc
    obtain ⟨h1, h2, h3⟩ := Qnv r _ _ h
    have ho := Qbh hcs
    refine ⟨fun hs => h1 (hs.weakCell ho hc rfl (fun v hr => Quu hr (by simp) (by simp)) (fun v => ?_)), by rw [h2, List.length_set], fun o' i hl => ?_⟩
    ·exact Qh8 (fun xs s e => by cases e)
    ·rcases h3 o' i hl with hl | hl
     ·rw [Qjc ho] at hl
      split at hl
      ·rename_i e; right; rw [e]; exact List.mem_cons_self ..
      ·exact .inl hl
     ·exact .inr (List.mem_cons_of_mem _ hl)
   ·cases h
  ·cases h
theorem Qnw : ∀ (l : List (Nat × Nat)) (σ σ0 : Objs), Qef σ l = some σ0 → (St M ι X κ w us ρ σ → St M ι X κ w us ρ σ0) ∧ σ0.length = σ.length ∧ (∀ o i, lkAt σ0 o i → lkAt σ o i ∧ (o, i) ∉ l) ∧ ∀ p ∈ l, lkAt σ p.1 p.2
 | [], σ, σ0, h => by
  simp only [Qef, Option.some.injEq] at h
  subst h
  exact ⟨id, rfl, fun o i h => ⟨h, by simp⟩, fun p hp => by simp at hp⟩
 | (o, off) :: r, σ, σ0, h => by
  simp only [Qef] at h
  split at h
  ·rename_i cs hcs
   split at h
   ·rename_i xs hc
    obtain ⟨h1, h2, h3, h4⟩ := Qnw r _ _ h
    have ho := Qbh hcs
    refine ⟨fun hs => h1 (hs.weakCell ho hc rfl (fun v hr => Quu hr (by simp) (by simp)) (fun v => ?_)), by rw [h2, List.length_set], fun o' i hl => ?_, fun p hp => ?_⟩
    ·exact Qh8 (fun xs s e => by cases e)
    ·obtain ⟨hl, hn⟩ := h3 o' i hl
     rw [Qjc ho] at hl
     split at hl
     ·exact absurd hl.1 (by simp [V.isLk])
     ·rename_i hne
      exact ⟨hl, fun hm => by
       rcases List.mem_cons.1 hm with hm | hm
       ·exact hne hm
       ·exact hn hm⟩
    ·rcases List.mem_cons.1 hp with rfl | hp
     ·exact ⟨cs, _, ho, hc, rfl⟩
     ·have := h4 p hp
      rw [Qjc ho] at this
      split at this
      ·exact absurd this.1 (by simp [V.isLk])
      ·exact this
   ·cases h
  ·cases h
theorem St.snoc (h : St M ι X κ w us ρ σ) (O : O) : St M ι X κ w us ρ (σ ++ [O]) := by
 have key : ∀ p v x, At ι w us ρ (σ ++ [O]) p v x → At ι w us ρ σ p v x := by
  intro p v x ha
  cases p with
  | s i => exact ha
  | c o i =>
   obtain ⟨b, ws, T, fz, cs, h1, h2, h3, h4, h5⟩ := ha
   rw [List.getElem?_append_left (h.wd.lt_of h1)] at h3
   exact ⟨b, ws, T, fz, cs, h1, h2, h3, h4, h5⟩
 exact ⟨⟨h.wd.mem, fun o b hi => by
  obtain ⟨O', hO, hr⟩ := h.wd.obj o b hi
  exact ⟨O', by rw [List.getElem?_append_left (h.wd.lt_of hi)]; exact hO, hr⟩, h.wd.olt, h.wd.inj, h.wd.xlt, h.wd.xobj, h.wd.kap⟩, h.rep, fun p v x b ha hb => h.own p v x b (key p v x ha) hb, fun p v x ha => h.gr p v x (key p v x ha)⟩
theorem St.mapO (h : St M ι X κ w us ρ σ) {q : Nat} {cs : List V} (hι0 : ι q = none) (hq : σ[q]? = some (.cells cs)) (as : Array Value) (T : TypeId) (fz : Nat × Nat) (hr : Reps M ι (as.toList.take cs.length) cs)
  (hfz : ∀ i, i < cs.length → Qbd fz i = false) (hone : ∀ c ∈ cs, c.one = true) (hno : ∀ c ∈ cs, ∀ v, ownB v c = none) :
  ∃ M' ι', Ext X M ι w M' ι' (Qca w (.cells as T fz)) ∧ ι' q = some w.heap.size ∧ St M' ι' X κ (Qca w (.cells as T fz)) us ρ σ ∧ ∀ o, o ≠ q → ι' o = ι o := by
 have hst := h.push (.cells as T fz) [] (fun i u hu => by simp at hu)
 have hM := h.wd.pushM_le []
 have hι : PlcLe ι (fun o => if o = q then some w.heap.size else ι o) := ⟨fun o b hb => by
  by_cases ho : o = q
  ·subst ho; rw [hι0] at hb; cases hb
  ·simp only [ho, if_false]; exact hb⟩
 refine ⟨Qh5 M w.heap.size [], fun o => if o = q then some w.heap.size else ι o, ⟨hM, hι, fun b i hx => Qc0 (by have := h.wd.xlt b hx; omega), by rw [Qb1]; omega, fun b hx => Qcp w _ (h.wd.xlt b hx), rfl, rfl, rfl⟩, by simp, ⟨⟨hst.wd.mem, ?_, ?_, ?_, hst.wd.xlt, ?_, ?_⟩, hst.rep.mono (.refl _) hι, ?_, ?_⟩, fun o ho => by simp [ho]⟩
 ·intro o b hb
  by_cases ho : o = q
  ·subst ho
   simp only [if_true] at hb
   cases hb
   refine ⟨.cells cs, hq, as, T, fz, Qg9 w _, hr.mono hM hι, hfz, fun i => by rw [Qfa]; simp, hone⟩
  ·simp only [ho, if_false] at hb
   obtain ⟨O, hO, hor⟩ := h.wd.obj o b hb
   exact ⟨O, hO, hor.push h.wd hM (fun b i hb => Qc0 (by omega)) hι _ (h.wd.olt o b hb)⟩
 ·intro o b hb
  by_cases ho : o = q
  ·simp only [ho, if_true] at hb; cases hb; rw [Qb1]; omega
  ·simp only [ho, if_false] at hb; exact hst.wd.olt o b hb
 ·intro o o' b hb hb'
  by_cases ho : o = q
  ·by_cases ho' : o' = q
   ·rw [ho, ho']
   ·simp only [ho, if_true] at hb; simp only [ho', if_false] at hb'
    cases hb; exact absurd hb' (inew h.wd o')
  ·by_cases ho' : o' = q
   ·simp only [ho, if_false] at hb; simp only [ho', if_true] at hb'
    cases hb'; exact absurd hb (inew h.wd o)
   ·simp only [ho, if_false] at hb; simp only [ho', if_false] at hb'
    exact h.wd.inj o o' b hb hb'
 ·intro o b hb
  by_cases ho : o = q
  ·simp only [ho, if_true] at hb; cases hb; intro hx; have := h.wd.xlt _ hx; omega
  ·simp only [ho, if_false] at hb; exact h.wd.xobj o b hb
 ·intro b p hp
  obtain ⟨h1, h2, h3⟩ := h.wd.kap b p hp
  refine ⟨h1, fun o ho => ?_, by rw [Qb1]; omega⟩
  by_cases hoo : o = q
  ·simp only [hoo, if_true] at ho; cases ho; omega
  ·simp only [hoo, if_false] at ho; exact h2 o ho
 all_goals
  have key : ∀ p v x, At (fun o => if o = q then some w.heap.size else ι o) (Qca w (.cells as T fz)) us ρ σ p v x → At ι (Qca w (.cells as T fz)) us ρ σ p v x ∨ ownB v x = none := by
   intro p v x ha
   cases p with
   | s i => exact .inl ha
   | c o i =>
    obtain ⟨b, ws, T', fz', cs', h1, h2, h3, h4, h5⟩ := ha
    by_cases ho : o = q
    ·subst ho
     rw [hq] at h3
     cases h3
     exact .inr (hno x (List.mem_of_getElem? h5) v)
    ·simp only [ho, if_false] at h1
     exact .inl ⟨b, ws, T', fz', cs', h1, h2, h3, h4, h5⟩
 ·intro p v x b ha hb
  rcases key p v x ha with ha | hn
  ·exact hst.own p v x b ha hb
  ·rw [hn] at hb; cases hb
 ·intro p v x ha
  rcases key p v x ha with ha | hn
  ·exact hst.gr p v x ha
  ·exact .of_none hn
end
end Go.Ev
namespace Go.Ev
open Go
section
variable {P : Program} {ops : Array Oper} {l : List DS} {dp : List (List Nat)} {G : GV} {call : FuncId → List V → Objs → Option (V × Objs)} {R : Nat → List V} {S : Nat → Objs}
def Canon (G : GV) (call : FuncId → List V → Objs → Option (V × Objs)) (l : List DS) (R : Nat → List V) (S : Nat → Objs) : Prop :=
 ∀ j, j < l.length → Qpm G call (rdAt G l R S) (dsAt l j) (R j) (R (j + 1)) (S j) (S (j + 1))
theorem Qys (hk : DrwOK P ops l dp) (h : ∀ j, j < l.length → Qpm G call (fun k => (([] : List Rd) ++ (List.range j).map (rdAt G l R S)).getD k .none) (dsAt l j) (R j) (R (j + 1)) (S j) (S (j + 1))) : Canon G call l R S := by
 intro j hj
 obtain ⟨σ0, σ1, h1, h2, h3, h4⟩ := h j hj
 have e : ∀ k ∈ (dsAt l j).un, (([] : List Rd) ++ (List.range j).map (rdAt G l R S)).getD k .none = rdAt G l R S k := fun k hk' => by
  have hlt := hk.unlt j hj k hk'
  simp [List.getD, hlt]
 have em : (dsAt l j).un.map (fun k => (([] : List Rd) ++ (List.range j).map (rdAt G l R S)).getD k .none) = (dsAt l j).un.map (rdAt G l R S) := List.map_congr_left e
 rw [em] at h1 h3
 exact ⟨σ0, σ1, h1, h2, h3, fun k hk' => by rw [← e k hk']; exact h4 k hk'⟩
theorem Canon.frame (h : Canon G call l R S) {p : Nat} (hp : p < l.length) : (R (p + 1)).length = (R p).length ∧ ∀ t, t ∉ (dsAt l p).s.wr → (R (p + 1))[t]? = (R p)[t]? := by
 obtain ⟨σ0, σ1, _, h2, _⟩ := h p hp
 exact Qff h2
theorem Canon.len (h : Canon G call l R S) : ∀ p, p ≤ l.length → (R p).length = (R 0).length
 | 0, _ => rfl
 | p + 1, hp => (h.frame (by omega)).1.trans (h.len p (by omega))
def Qle (l : List DS) (R : Nat → List V) (L : Nat → Prop) (ρ : List V) : Prop :=
 ρ.length = (R 0).length ∧ ∀ t m, m ≤ l.length → (∀ q, q < m → t ∈ (dsAt l q).s.wr → L q) → (∀ q, m ≤ q → q < l.length → t ∈ (dsAt l q).s.wr → ¬ L q) → ρ[t]? = (R m)[t]?
structure Closed (l : List DS) (dp : List (List Nat)) (L : Nat → Prop) : Prop where
 lt : ∀ p, L p → p < l.length
 dep : ∀ p, L p → ∀ q ∈ dp.getD p [], L q
variable {L : Nat → Prop} {ρ : List V}
theorem Quv (hk : DrwOK P ops l dp) (hL : Closed l dp L) (hs : Qle l R L ρ) {p : Nat} (hp : p < l.length) (hn : ¬ L p) (hd : ∀ q ∈ dp.getD p [], L q) {t : Nat} (ht : t ∈ (dsAt l p).s.rd ∨ t ∈ (dsAt l p).s.wr) : ρ[t]? = (R p)[t]? := by
 refine hs.2 t p (by omega) (fun q hq hw => ?_) (fun q hq hql hw hLq => ?_)
 ·rcases hk.pair p hp q hq with h | ⟨h, _⟩
  ·exact hd q h
  ·have := (Qf5 h).1 t hw
   rcases ht with ht | ht
   ·exact absurd ht this.2
   ·exact absurd ht this.1
 ·rcases Nat.lt_or_ge p q with hpq | hpq
  ·rcases hk.pair q hql p hpq with h | ⟨h, _⟩
   ·exact hn (hL.dep q hLq p h)
   ·rcases ht with ht | ht
    ·exact (Qf5 h).2 t hw ht
    ·exact ((Qf5 h).1 t ht).1 hw
  ·have : q = p := by omega
   subst this
   exact hn hLq
theorem Quw (hk : DrwOK P ops l dp) (hc : Canon G call l R S) (hL : Closed l dp L) (hs : Qle l R L ρ) {p : Nat} (hp : p < l.length) (hn : ¬ L p) {ρ' : List V} (hlen : ρ'.length = ρ.length)
  (hw : ∀ t ∈ (dsAt l p).s.wr, ρ'[t]? = (R (p + 1))[t]?) (hnw : ∀ t, t ∉ (dsAt l p).s.wr → ρ'[t]? = ρ[t]?) : Qle l R (fun q => L q ∨ q = p) ρ' := by
 refine ⟨hlen.trans hs.1, fun t m hm h1 h2 => ?_⟩
 by_cases ht : t ∈ (dsAt l p).s.wr
 ·have hpm : p < m := by
   rcases Nat.lt_or_ge p m with h | h
   ·exact h
   ·exact absurd (.inr rfl) (h2 p h hp ht)
  rw [hw t ht]
  have key : ∀ k, p + 1 + k ≤ m → (R (p + 1))[t]? = (R (p + 1 + k))[t]? := by
   intro k
   induction k with
   | zero => intro _; rfl
   | succ k ih =>
    intro hkm
    have hj : p + 1 + k < l.length := by omega
    rw [ih (by omega), show p + 1 + (k + 1) = (p + 1 + k) + 1 from rfl, (hc.frame hj).2 t ?_]
    intro hwj
    have hLj := (h1 (p + 1 + k) (by omega) hwj).resolve_right (by omega)
    rcases hk.pair (p + 1 + k) hj p (by omega) with h | ⟨h, _⟩
    ·exact hn (hL.dep _ hLj p h)
    ·exact ((Qf5 h).1 t ht).1 hwj
  have := key (m - (p + 1)) (by omega)
  rwa [show p + 1 + (m - (p + 1)) = m from by omega] at this
 ·rw [hnw t ht]
  refine hs.2 t m hm (fun q hq hwq => ?_) (fun q hq hql hwq hLq => h2 q hq hql hwq (.inl hLq))
  rcases h1 q hq hwq with h | rfl
  ·exact h
  ·exact absurd hwq ht
def noGr (x : V) : Prop := ∀ xs s, x ≠ .sl xs (.gr s)
def Same (σ σ' : Objs) : Rd → Prop
 | .same ex o off n => ∃ cs ds, Objs.get σ o = some cs ∧ Objs.get σ' o = some ds ∧ cs.length = ds.length ∧ (if ex then (cs.drop off).take n = (ds.drop off).take n else ((cs.drop off).take n).map V.ng = ((ds.drop off).take n).map V.ng)
 | .made o => ∃ cs, Objs.get σ o = some cs ∧ Objs.get σ' o = some cs
 | _ => True
def Quiet (σ : Objs) : Rd → Prop
 | .same true o off n => ∀ cs, Objs.get σ o = some cs → ∀ x ∈ (cs.drop off).take n, noGr x
 | .made o => ∀ cs, Objs.get σ o = some cs → ∀ x ∈ cs, noGr x
 | _ => True
theorem Qpn {σ σ' : Objs} {r : Rd} (h : stable σ σ' r = true) : Same σ σ' r := by
 cases r with
 | none => trivial
 | took => trivial
 | same ex o off n =>
  simp only [stable] at h
  split at h
  ·rename_i cs ds h1 h2
   simp only [Bool.and_eq_true, decide_eq_true_eq] at h
   refine ⟨cs, ds, h1, h2, h.1, ?_⟩
   cases ex
   ·simp only [Bool.false_eq_true, if_false] at h ⊢; exact V.beqs_eq _ _ h.2
   ·simp only [if_true] at h ⊢; exact V.beqs_eq _ _ h.2
  ·cases h
 | made o =>
  simp only [stable] at h
  split at h
  ·rename_i cs ds h1 h2
   have := V.beqs_eq _ _ h
   subst this
   exact ⟨cs, h1, h2⟩
  ·cases h
theorem Same.trans {σ σ' σ'' : Objs} {r : Rd} (h : Same σ σ' r) (k : Same σ' σ'' r) : Same σ σ'' r := by
 cases r with
 | none => trivial
 | took => trivial
 | same ex o off n =>
  obtain ⟨cs, ds, h1, h2, h3, h4⟩ := h
  obtain ⟨ds', es, k1, k2, k3, k4⟩ := k
  rw [h2] at k1; cases k1
  refine ⟨cs, es, h1, k2, h3.trans k3, ?_⟩
  cases ex <;> simp only [Bool.false_eq_true, if_false, if_true] at h4 k4 ⊢ <;> exact h4.trans k4
 | made o =>
  obtain ⟨cs, h1, h2⟩ := h
  obtain ⟨ds, k1, k2⟩ := k
  rw [h2] at k1; cases k1
  exact ⟨cs, h1, k2⟩
theorem Quiet.same {σ σ' : Objs} {r : Rd} (h : Quiet σ r) (k : Same σ σ' r) : Quiet σ' r := by
 cases r with
 | none => trivial
 | took => trivial
 | same ex o off n =>
  cases ex with
  | false => trivial
  | true =>
   obtain ⟨cs, ds, k1, k2, k3, k4⟩ := k
   intro es he x hx
   rw [k2] at he; cases he
   simp only [if_true] at k4
   rw [← k4] at hx
   exact h cs k1 x hx
 | made o =>
  obtain ⟨cs, k1, k2⟩ := k
  intro es he x hx
  rw [k2] at he; cases he
  exact h cs k1 x hx
inductive Late (σ : Objs) : Objs → Prop
 | stay : Late σ σ
 | took (o off : Nat) (cs xs : List V) (s : Nat) (h : σ[o]? = some (.cells cs)) (hx : cs[off]? = some (.sl xs (.gr s))) : Late σ (σ.set o (.cells (cs.set off (.sl xs .no))))
 | made (cs : List V) : Late σ (σ ++ [.cells cs])
theorem Qjx {σ : Objs} {o : Nat} {cs : List V} (h : σ[o]? = some (.cells cs)) : Objs.get σ o = some cs := by unfold Objs.get; rw [h]
theorem Ql9 {cs : List V} {off n i : Nat} {y : V} : (((cs.set i y).drop off).take n) = if off ≤ i ∧ i < off + n then ((cs.drop off).take n).set (i - off) y else (cs.drop off).take n := by
 apply List.ext_getElem?
 intro j
 split
 ·rename_i h
  rw [List.getElem?_take, List.getElem?_set, List.getElem?_take, List.getElem?_drop, List.getElem?_drop, List.getElem?_set]
  by_cases hj : j < n
  ·rw [if_pos hj, if_pos hj]
   by_cases hij : i = off + j
   ·subst hij
    rw [show off + j - off = j from by omega]
    simp only [if_true, List.length_take, List.length_drop]
    by_cases hl : off + j < cs.length
    ·rw [if_pos hl, if_pos (by omega)]
    ·rw [if_neg hl, if_neg (by omega)]
   ·rw [if_neg hij, if_neg (by omega)]
  ·rw [if_neg hj, if_neg hj]
   split
   ·rw [if_neg (by simp; omega)]
   ·rfl
 ·rename_i h
  rw [List.getElem?_take, List.getElem?_take, List.getElem?_drop, List.getElem?_drop, List.getElem?_set]
  by_cases hj : j < n
  ·rw [if_pos hj, if_pos hj, if_neg (by omega)]
  ·rw [if_neg hj, if_neg hj]
theorem Qpo {α : Type} {l : List α} {i : Nat} {x : α} (h : l[i]? = some x) : l.set i x = l := by
 apply List.ext_getElem?
 intro j
 rw [List.getElem?_set]
 split
 ·rename_i hij
  subst hij
  rw [if_pos (List.getElem?_eq_some_iff.1 h).1, h]
 ·rfl
theorem Qux {σ σ' : Objs} {r : Rd} (hl : Late σ σ') (hq : Quiet σ r) (hs : ∃ σ0, Same σ0 σ r) : Same σ σ' r := by
 obtain ⟨σ0, hs⟩ := hs
 cases r with
 | none => trivial
 | took => trivial
 | same ex o off n =>
  obtain ⟨_, cs, _, hcs, _, _⟩ := hs
  cases hl with
  | stay => exact ⟨cs, cs, hcs, hcs, rfl, by split <;> rfl⟩
  | made ds =>
   have h1 := Qbh hcs
   refine ⟨cs, cs, hcs, Qjx ?_, rfl, by split <;> rfl⟩
   rw [List.getElem?_append_left (List.getElem?_eq_some_iff.1 h1).1]; exact h1
  | took o' off' ds xs s h hx =>
   by_cases ho : o' = o
   ·subst ho
    have h1 := Qbh hcs
    rw [h] at h1; cases h1
    have hol := (List.getElem?_eq_some_iff.1 h).1
    refine ⟨cs, _, hcs, Qjx (List.getElem?_set_self hol), by simp, ?_⟩
    rw [Ql9]
    by_cases hin : off ≤ off' ∧ off' < off + n
    ·rw [if_pos hin]
     have hg : ((cs.drop off).take n)[off' - off]? = some (.sl xs (.gr s)) := by
      rw [List.getElem?_take, if_pos (by omega), List.getElem?_drop, show off + (off' - off) = off' from by omega]; exact hx
     cases ex with
     | true => exact absurd rfl (hq cs hcs _ (List.mem_of_getElem? hg) xs s)
     | false =>
      simp only [Bool.false_eq_true, if_false]
      rw [List.map_set]
      refine (Qpo ?_).symm
      rw [List.getElem?_map, hg]; rfl
    ·rw [if_neg hin]
     split <;> rfl
   ·have h1 := Qbh hcs
    exact ⟨cs, cs, hcs, Qjx (by rw [Qib ho]; exact h1), rfl, by split <;> rfl⟩
 | made o =>
  obtain ⟨cs, _, hcs⟩ := hs
  have h1 := Qbh hcs
  cases hl with
  | stay => exact ⟨cs, hcs, hcs⟩
  | made ds =>
   refine ⟨cs, hcs, Qjx ?_⟩
   rw [List.getElem?_append_left (List.getElem?_eq_some_iff.1 h1).1]; exact h1
  | took o' off' ds xs s h hx =>
   by_cases ho : o' = o
   ·subst ho
    rw [h] at h1; cases h1
    exact absurd rfl (hq cs hcs _ (List.mem_of_getElem? hx) xs s)
   ·exact ⟨cs, hcs, Qjx (by rw [Qib ho]; exact h1)⟩
end
end Go.Ev
namespace Go.Ev
open Go
section
variable {P : Program} {ops : Array Oper} {l : List DS} {dp : List (List Nat)} {G : GV} {call : FuncId → List V → Objs → Option (V × Objs)} {R : Nat → List V} {S : Nat → Objs}
theorem Qf6 (hk : DrwOK P ops l dp) (hc : Canon G call l R S) {p : Nat} (hp : p < l.length) (hd : dly (dsAt l p).s.ins = true) : Qbq G call (dsAt l p).s (R p) (S p) = some (R (p + 1), S (p + 1)) := by
 obtain ⟨σ0, σ1, h1, h2, h3, _⟩ := hc p hp
 rw [hk.un p hp hd] at h1 h3
 simp only [List.map_nil, List.filterMap_nil, Qgg, Qef, Option.some.injEq] at h1 h3
 rw [h1, ← h3]; exact h2
theorem Qhj {A : Arg → V} {σ : Objs} {i : Ins} (h : neutral i = true) : reads A σ i = .none := by
 cases i <;> first | rfl | cases h
inductive LateCase (G : GV) (l : List DS) (R : Nat → List V) (S : Nat → Objs) (p : Nat) : Prop
 | none (h1 : S (p + 1) = S p) (h2 : rdAt G l R S p = .none)
 | same (ex : Bool) (o off n : Nat) (h1 : S (p + 1) = S p) (h2 : rdAt G l R S p = .same ex o off n) (h3 : Same (S p) (S p) (.same ex o off n)) (h4 : Quiet (S p) (.same ex o off n))
 | took (o off : Nat) (cs xs : List V) (s : Nat) (h1 : (S p)[o]? = some (.cells cs)) (h2 : cs[off]? = some (.sl xs (.gr s))) (h3 : S (p + 1) = (S p).set o (.cells (cs.set off (.sl xs .no)))) (h4 : rdAt G l R S p = .took o off)
 | made (cs : List V) (h1 : S (p + 1) = S p ++ [.cells cs]) (h2 : rdAt G l R S p = .made (S p).length) (h3 : ∀ x ∈ cs, noGr x)
theorem Qnx {x : V} (h : x.ng = x) : noGr x := fun xs s e => by subst e; cases h
theorem Qjy (hk : DrwOK P ops l dp) (hc : Canon G call l R S) {p : Nat} (hp : p < l.length) (hd : dly (dsAt l p).s.ins = true) : LateCase G l R S p := by
 have h := Qf6 hk hc hp hd
 obtain ⟨op, hop, hcs⟩ := hk.step p hp
 simp only [Qed, Bool.and_eq_true] at hcs
 have hci := hcs.1.2
 have hrd : ∀ b, wanted (R p) (dsAt l p).s.gd = some b → rdAt G l R S p = if b then reads (arg G (R p)) (S p) (dsAt l p).s.ins else .none := fun b hb => by unfold rdAt; rw [hb]; rfl
 unfold Qbq ev1 at h
 simp only [Option.bind_eq_bind, Option.bind_eq_some_iff] at h
 obtain ⟨b, hb, h⟩ := h
 cases b with
 | false =>
  simp only [Bool.false_eq_true, if_false, Option.some.injEq, Prod.mk.injEq] at h
  exact .none h.2.symm (by rw [hrd _ hb]; rfl)
 | true =>
  simp only [if_true, Option.bind_eq_some_iff, Option.some.injEq, Prod.mk.injEq] at h
  obtain ⟨⟨v, σ2⟩, hi, -, h2⟩ := h
  simp only at h2
  subst h2
  have hr := hrd _ hb
  simp only [if_true] at hr
  by_cases hn : neutral (dsAt l p).s.ins = true
  ·obtain ⟨e, _⟩ := Qhi (σ2 := S p) hn hi
   exact .none e (by rw [hr, Qhj hn])
  ·generalize hins : (dsAt l p).s.ins = ins at *
   cases ins <;> (try (exact absurd hd hn)) <;> (try (cases hd; done))
   case load ag sz x =>
    simp only [Qaw, Qay, Option.bind_eq_bind, Option.bind_eq_some_iff, Option.some.injEq, Prod.mk.injEq] at hi
    obtain ⟨y, hy, _, h2⟩ := hi
    simp only [reads] at hr
    split at hr
    ·rename_i o off ho
     rw [ho] at hy
     simp only [eL, Option.bind_eq_bind, Option.bind_eq_some_iff] at hy
     obtain ⟨cs, hcs, _⟩ := hy
     exact .same false o off _ h2.symm hr ⟨cs, cs, hcs, hcs, rfl, rfl⟩ trivial
    ·exact .none h2.symm hr
   case loadT x =>
    simp only [Qaw] at hi
    simp only [reads] at hr
    split at hi
    ·rename_i o off ho
     rw [ho] at hr
     simp only [Option.bind_eq_bind, Option.bind_eq_some_iff] at hi
     obtain ⟨cs, hcs, c, hcc, hi⟩ := hi
     simp only [hcs, Option.bind_some, hcc] at hr
     split at hi
     ·rename_i xs s
      simp only [Option.some.injEq, Prod.mk.injEq] at hi
      exact .took o off cs xs s (Qbh hcs) hcc hi.2.symm hr
     ·cases hi
     ·rename_i hng _
      simp only [Option.some.injEq, Prod.mk.injEq] at hi
      have hr' : rdAt G l R S p = .same true o off 1 := by
       rw [hr]
       split
       ·rename_i xs s e
        cases e
        exact absurd rfl (hng xs s)
       ·rfl
      refine .same true o off 1 hi.2.symm hr' ⟨cs, cs, hcs, hcs, rfl, rfl⟩ (fun ds hds y hy => ?_)
      rw [hcs] at hds; cases hds
      obtain ⟨j, hj⟩ := List.mem_iff_getElem?.1 hy
      rw [List.getElem?_take] at hj
      split at hj
      ·rename_i hj1
       rw [List.getElem?_drop, show off + j = off from by omega, hcc] at hj
       cases hj
       exact fun xs s e => hng xs s e
      ·cases hj
    ·rename_i cs off ho
     rw [ho] at hr
     simp only [Option.bind_eq_bind, Option.bind_eq_some_iff, Option.some.injEq, Prod.mk.injEq] at hi
     obtain ⟨_, _, _, h2⟩ := hi
     exact .none h2.symm hr
    ·cases hi
   case alloc z =>
    simp only [Qaw] at hi
    split at hi
    ·simp only [Option.some.injEq, Prod.mk.injEq] at hi
     refine .made z hi.2.symm hr (fun y hy => ?_)
     cases hoo : op.op <;> rw [hoo] at hci <;> (try (cases hci; done))
     simp only [Qa1] at hci
     split at hci
     ·exact Qnx ((Qbr (M := fun _ _ => none) (ι := fun _ => none) hci).2.1 y hy).2
     ·cases hci
    ·cases hi
   case box x =>
    simp only [Qaw] at hi
    split at hi
    ·simp only [Option.some.injEq, Prod.mk.injEq] at hi
     refine .made _ hi.2.symm hr (fun y hy => ?_)
     obtain ⟨z, _, rfl⟩ := List.mem_map.1 hy
     exact Qnx (V.nogr_nogr z)
    ·cases hi
theorem LateCase.late {p : Nat} (h : LateCase G l R S p) : Late (S p) (S (p + 1)) := by
 cases h with
 | none h1 => rw [h1]; exact .stay
 | same ex o off n h1 => rw [h1]; exact .stay
 | took o off cs xs s h1 h2 h3 => rw [h3]; exact .took o off cs xs s h1 h2
 | made cs h1 => rw [h1]; exact .made cs
theorem Late.len {σ σ' : Objs} (h : Late σ σ') : σ.length ≤ σ'.length := by cases h <;> simp
def pend (L : Nat → Prop) (c p : Nat) : Prop := p < c ∧ ¬ L p
def XR (X : Nat → Prop) (L : Nat → Prop) (c : Nat) (rs : Nat → Option Nat) (b : Nat) : Prop := X b ∨ ∃ p, pend L c p ∧ rs p = some b
structure Took (S : Nat → Objs) (M : Mem) (ι : Plc) (w : World) (rs : Nat → Option Nat) (p o off : Nat) (xs : List V) (s b bb : Nat) (v : Value) (cs : List V) : Prop where
 i : ι o = some b
 cell : w.cell? ⟨b, off, none⟩ = some v
 rep : Rep M ι v (.sl xs (.gr s))
 own : ownB v (.sl xs (.gr s)) = some bb
 rs : rs p = some bb
 gr : GrOK M w v (.sl xs (.gr s))
 obj : (S p)[o]? = some (.cells cs)
 val : cs[off]? = some (.sl xs (.gr s))
structure Inv (G : GV) (l : List DS) (dp : List (List Nat)) (R : Nat → List V) (S : Nat → Objs) (X : Nat → Prop) (L : Nat → Prop) (c : Nat) (us : List Value) (ρ : List V) (w : World) (M : Mem) (ι : Plc) (κ : Own) (rs : Nat → Option Nat) : Prop where
 cn : c ≤ l.length
 cl : Closed l dp L
 lt : ∀ p, L p → p < c
 eff : ∀ p, p < c → dly (dsAt l p).s.ins = false → L p
 slot : Qle l R L ρ
 st : St M ι (XR X L c rs) κ w us ρ (S c)
 rsx : ∀ p b, pend L c p → rs p = some b → ¬ X b
 rsi : ∀ p q b, pend L c p → pend L c q → rs p = some b → rs q = some b → p = q
 same : ∀ p, pend L c p → Same (S (p + 1)) (S c) (rdAt G l R S p)
 quiet : ∀ p, pend L c p → Quiet (S c) (rdAt G l R S p)
 made : ∀ p o, pend L c p → rdAt G l R S p = .made o → ι o = none
 mdist : ∀ p q o, pend L c p → pend L c q → rdAt G l R S p = .made o → rdAt G l R S q = .made o → p = q
 took : ∀ p o off, pend L c p → rdAt G l R S p = .took o off → o < (S c).length ∧ ((ι o = none ∧ ∀ q, pend L c q → rdAt G l R S q ≠ .made o) ∨ ∃ xs s b bb v cs, Took S M ι w rs p o off xs s b bb v cs)
section
variable {X : Nat → Prop} {L : Nat → Prop} {c : Nat} {us : List Value} {ρ : List V} {w : World} {M : Mem} {ι : Plc} {κ : Own} {rs : Nat → Option Nat}
theorem St.moreX {X' : Nat → Prop} {σ : Objs} (h : St M ι X κ w us ρ σ) (h1 : ∀ b, X' b → b < w.heap.size) (h2 : ∀ o b, ι o = some b → ¬ X' b) (h3 : ∀ b p, κ b = some p → ¬ X' b) : St M ι X' κ w us ρ σ :=
 ⟨⟨h.wd.mem, h.wd.obj, h.wd.olt, h.wd.inj, h1, h2, fun b p hp => ⟨h3 b p hp, (h.wd.kap b p hp).2⟩⟩, h.rep, h.own, h.gr⟩
theorem St.lessX {X' : Nat → Prop} {σ : Objs} (h : St M ι X κ w us ρ σ) (hX : ∀ b, X' b → X b) : St M ι X' κ w us ρ σ :=
 h.moreX (fun b hb => h.wd.xlt b (hX b hb)) (fun o b hi hb => h.wd.xobj o b hi (hX b hb)) (fun b p hp hb => (h.wd.kap b p hp).1 (hX b hb))
theorem Qbf {L : Nat → Prop} {c p : Nat} (h : pend L (c + 1) p) : p = c ∨ pend L c p := by
 rcases Nat.lt_or_ge p c with hlt | hge
 ·exact .inr ⟨hlt, h.2⟩
 ·left; have := h.1; omega
theorem Inv.advance (hk : DrwOK P ops l dp) (hc : Canon G call l R S) (h : Inv G l dp R S X L c us ρ w M ι κ rs) (hcn : c < l.length) (hd : dly (dsAt l c).s.ins = true) : ∃ κ' rs', Inv G l dp R S X L (c + 1) us ρ w M ι κ' rs' := by
 have hLc : ¬ L c := fun hl => by have := h.lt c hl; omega
 have hcase := Qjy hk hc hcn hd
 have hlate := hcase.late
 have hlen := hlate.len
 have hsame : ∀ p, pend L c p → Same (S c) (S (c + 1)) (rdAt G l R S p) := fun p hp => Qux hlate (h.quiet p hp) ⟨_, h.same p hp⟩
 have eff' : ∀ p, p < c + 1 → dly (dsAt l p).s.ins = false → L p := fun p hp hdp => by
  rcases Nat.lt_or_ge p c with hlt | hge
  ·exact h.eff p hlt hdp
  ·have : p = c := by omega
   subst this
   rw [hd] at hdp; cases hdp
 have lt' : ∀ p, L p → p < c + 1 := fun p hp => by have := h.lt p hp; omega
 have old : ∀ (κ' : Own) (rs' : Nat → Option Nat), (∀ p, pend L c p → rs' p = rs p) → St M ι (XR X L (c + 1) rs') κ' w us ρ (S (c + 1)) → (∀ b, rs' c = some b → ¬ X b) → (∀ p b, pend L c p → rs p = some b → rs' c = some b → False) →
   Same (S (c + 1)) (S (c + 1)) (rdAt G l R S c) → Quiet (S (c + 1)) (rdAt G l R S c) → (∀ o, rdAt G l R S c = .made o → ι o = none ∧ o = (S c).length) →
   (∀ o off, rdAt G l R S c = .took o off → o < (S (c + 1)).length ∧ ((ι o = none ∧ ∀ q, pend L c q → rdAt G l R S q ≠ .made o) ∨ ∃ xs s b bb v cs, Took S M ι w rs' c o off xs s b bb v cs)) →
   Inv G l dp R S X L (c + 1) us ρ w M ι κ' rs' := by
  intro κ' rs' hrs hst hx hxx hsm hq hmd htk
  refine ⟨by omega, h.cl, lt', eff', h.slot, hst, fun p b hp hb => ?_, fun p q b hp hq' hb hb' => ?_, fun p hp => ?_, fun p hp => ?_, fun p o hp ho => ?_, fun p q o hp hq' ho ho' => ?_, fun p o off hp ho => ?_⟩
  ·rcases Qbf hp with rfl | hp
   ·exact hx b hb
   ·rw [hrs p hp] at hb; exact h.rsx p b hp hb
  ·rcases Qbf hp with rfl | hp
   ·rcases Qbf hq' with rfl | hq'
    ·rfl
    ·rw [hrs q hq'] at hb'; exact absurd hb (fun e => hxx q b hq' hb' e)
   ·rw [hrs p hp] at hb
    rcases Qbf hq' with rfl | hq'
    ·exact absurd hb' (fun e => hxx p b hp hb e)
    ·rw [hrs q hq'] at hb'; exact h.rsi p q b hp hq' hb hb'
  ·rcases Qbf hp with rfl | hp
   ·exact hsm
   ·exact (h.same p hp).trans (hsame p hp)
  ·rcases Qbf hp with rfl | hp
   ·exact hq
   ·exact (h.quiet p hp).same (hsame p hp)
  ·rcases Qbf hp with rfl | hp
   ·exact (hmd o ho).1
   ·exact h.made p o hp ho
  ·have lt1 : ∀ q o, pend L c q → rdAt G l R S q = .made o → o < (S c).length := fun q o hq ho => by
    have := h.same q hq
    rw [ho] at this
    obtain ⟨cs, _, h2⟩ := this
    exact (List.getElem?_eq_some_iff.1 (Qbh h2)).1
   rcases Qbf hp with rfl | hp
   ·rcases Qbf hq' with rfl | hq'
    ·rfl
    ·have := lt1 q o hq' ho'; have := (hmd o ho).2; omega
   ·rcases Qbf hq' with rfl | hq'
    ·have := lt1 p o hp ho; have := (hmd o ho').2; omega
    ·exact h.mdist p q o hp hq' ho ho'
  ·rcases Qbf hp with rfl | hp
   ·obtain ⟨h1, h2⟩ := htk o off ho
    refine ⟨h1, h2.imp (fun ⟨a, b⟩ => ⟨a, fun q hq' hm => ?_⟩) id⟩
    rcases Qbf hq' with rfl | hq'
    ·rw [ho] at hm; cases hm
    ·exact b q hq' hm
   ·obtain ⟨h1, h2⟩ := h.took p o off hp ho
    refine ⟨by omega, h2.imp (fun ⟨a, b⟩ => ⟨a, fun q hq' hm => ?_⟩) fun ⟨xs, s, b, bb, v, cs, ht⟩ => ⟨xs, s, b, bb, v, cs, ht.i, ht.cell, ht.rep, ht.own, by rw [hrs p hp]; exact ht.rs, ht.gr, ht.obj, ht.val⟩⟩
    rcases Qbf hq' with rfl | hq'
    ·have := (hmd o hm).2; omega
    ·exact b q hq' hm
 have plain : ∀ {σ' : Objs}, S (c + 1) = σ' → St M ι (XR X L c rs) κ w us ρ σ' → St M ι (XR X L (c + 1) (fun p => if p = c then none else rs p)) κ w us ρ (S (c + 1)) := by
  intro σ' e hst
  rw [e]
  refine hst.lessX fun b hb => ?_
  rcases hb with hb | ⟨p, hp, hb⟩
  ·exact .inl hb
  ·rcases Qbf hp with rfl | hp
   ·simp at hb
   ·refine .inr ⟨p, hp, ?_⟩
    have hne : p ≠ c := by have := hp.1; omega
    simpa only [if_neg hne] using hb
 have hrs0 : ∀ p, pend L c p → (fun p => if p = c then none else rs p) p = rs p := fun p hp => by simp only; rw [if_neg (by have := hp.1; omega)]
 cases hcase with
 | none h1 h2 =>
  exact ⟨κ, _, old κ _ hrs0 (plain h1 h.st) (fun b hb => by simp at hb) (fun p b _ _ hb => by simp at hb) (by rw [h2]; trivial) (by rw [h2]; trivial) (fun o ho => by rw [h2] at ho; cases ho) (fun o off ho => by rw [h2] at ho; cases ho)⟩
 | same ex o off n h1 h2 h3 h4 =>
  exact ⟨κ, _, old κ _ hrs0 (plain h1 h.st) (fun b hb => by simp at hb) (fun p b _ _ hb => by simp at hb) (by rw [h2, h1]; exact h3) (by rw [h2, h1]; exact h4) (fun o ho => by rw [h2] at ho; cases ho) (fun o off ho => by rw [h2] at ho; cases ho)⟩
 | made cs h1 h2 h3 =>
  have hget : Objs.get (S (c + 1)) (S c).length = some cs := Qjx (by rw [h1]; simp)
  exact ⟨κ, _, old κ _ hrs0 (plain h1 (h.st.snoc _)) (fun b hb => by simp at hb) (fun p b _ _ hb => by simp at hb) (by rw [h2]; exact ⟨cs, hget, hget⟩) (by
   rw [h2]
   intro ds hds
   rw [hget] at hds; cases hds
   exact h3) (fun o ho => by
   rw [h2] at ho
   cases ho
   exact ⟨h.st.wd.none_of_ge (Nat.le_refl _), rfl⟩) (fun o off ho => by rw [h2] at ho; cases ho)⟩
 | took o off cs xs s h1 h2 h3 h4 =>
  have hol : o < (S c).length := (List.getElem?_eq_some_iff.1 h1).1
  cases hi : ι o with
  | none =>
   have hst : St M ι (XR X L c rs) κ w us ρ ((S c).set o (.cells (cs.set off (.sl xs .no)))) := h.st.dropCell (x := .sl xs (.gr s)) h1 h2 rfl
   refine ⟨κ, _, old κ _ hrs0 (plain h3 hst) (fun b hb => by simp at hb) (fun p b _ _ hb => by simp at hb) (by rw [h4]; trivial) (by rw [h4]; trivial) (fun o ho => by rw [h4] at ho; cases ho) (fun o' off' ho => ?_)⟩
   rw [h4] at ho
   cases ho
   refine ⟨by omega, .inl ⟨hi, fun q hq hm => ?_⟩⟩
   have := h.quiet q hq
   rw [hm] at this
   exact this cs (Qjx h1) _ (List.mem_of_getElem? h2) xs s rfl
  | some b =>
   obtain ⟨O, hO, hor⟩ := h.st.wd.obj o b hi
   rw [h1] at hO; cases hO
   obtain ⟨ws, T, fz, hb, hr2, hfz, hM, hone2⟩ := hor
   obtain ⟨v, hv, hrv⟩ := hr2.get h2
   have hv' : ws[off]? = some v := by
    rw [List.getElem?_take] at hv
    split at hv
    ·simpa using hv
    ·cases hv
   obtain ⟨bb, hbb⟩ : ∃ bb, ownB v (.sl xs (.gr s)) = some bb := by
    cases hrv with
    | sl => exact ⟨_, rfl⟩
    | sl0 a c hg => exact absurd rfl (hg _)
   obtain ⟨κ', hs, hf, hg⟩ := h.st.takeCell hi hb h1 hv' h2 hbb
   refine ⟨κ', fun p => if p = c then some bb else rs p, old κ' _ (fun p hp => if_neg (by have := hp.1; omega)) ?_ (fun b' hb' => ?_) (fun p b' hp hb' hb'' => ?_) (by rw [h4]; trivial) (by rw [h4]; trivial) (fun o ho => by rw [h4] at ho; cases ho) (fun o' off' ho => ?_)⟩
   ·rw [h3]
    have hX : ∀ b', XR X L (c + 1) (fun p => if p = c then some bb else rs p) b' → b' = bb ∨ XR X L c rs b' := fun b' hb' => by
     rcases hb' with hb' | ⟨p, hp, hb'⟩
     ·exact .inr (.inl hb')
     ·rcases Qbf hp with rfl | hp
      ·simp at hb'; exact .inl hb'.symm
      ·have hne : p ≠ c := by have := hp.1; omega
       exact .inr (.inr ⟨p, hp, by simpa only [if_neg hne] using hb'⟩)
    refine hs.moreX (fun b' hb' => ?_) (fun o' b' hi' hb' => ?_) (fun b' p hp hb' => ?_)
    ·rcases hX b' hb' with rfl | hb'
     ·exact hf.lt
     ·exact hs.wd.xlt b' hb'
    ·rcases hX b' hb' with rfl | hb'
     ·exact hf.i o' hi'
     ·exact hs.wd.xobj o' b' hi' hb'
    ·rcases hX b' hb' with rfl | hb'
     ·rw [hf.k] at hp; cases hp
     ·exact (hs.wd.kap b' p hp).1 hb'
   ·simp at hb'
    subst hb'
    exact fun hx => hf.x (.inl hx)
   ·simp at hb''
    subst hb''
    exact hf.x (.inr ⟨p, hp, hb'⟩)
   ·rw [h4] at ho
    cases ho
    exact ⟨by omega, .inr ⟨xs, s, b, bb, v, cs, hi, by rw [Qcm hb]; exact hv', hrv, hbb, by simp, hg, h1, h2⟩⟩
end
end
end Go.Ev
namespace Go.Ev
open Go
section
variable {P : Program} {ops : Array Oper} {l : List DS} {dp : List (List Nat)} {G : GV} {call : FuncId → List V → Objs → Option (V × Objs)} {R : Nat → List V} {S : Nat → Objs} {Q : Exit → Act → World → Prop}
variable {X : Nat → Prop} {L : Nat → Prop} {c : Nat} {us : List Value} {ρ : List V} {w : World} {M : Mem} {ι : Plc} {κ : Own} {rs : Nat → Option Nat} {a : Act}
theorem Qjz {op : Op} {i : Ins} (hd : dly i = true) (hc : Qa1 P op i = true) : ∀ t p x, op ≠ .store t p x := by
 intro t p x e
 subst e
 cases i <;> first | cases hc | cases hd
theorem Qs1 {i : Ins} (hd : dly i = true) : Quo i = false := by
 cases i <;> first | rfl | cases hd
theorem Quy {σ σ' : Objs} (h : St M ι X κ w a.tmps.toList ρ σ) (hG : GOK G M ι) {i : Nat} {o : Oper} {s : Step} (ho : ops[i]? = some o) (hc : Qed P ops o s = true) (hd : dly s.ins = true) {ρ' : List V} (he : Qbq G call s ρ σ = some (ρ', σ')) {K : Act → World → Prop}
  (hn : ∀ a' w' M' ι' κ', a'.defers = a.defers → Ext X M ι w M' ι' w' → Kp ι w σ ι' w' σ' → HK ι w w' → St M' ι' X κ' w' a'.tmps.toList ρ' σ' → K a' w') : wpOp P ops Q i K a w := by
 simp only [Qed, Bool.and_eq_true, beq_iff_eq] at hc
 obtain ⟨⟨hds, hi⟩, hg⟩ := hc
 unfold Qbq at he
 simp only [Option.bind_eq_bind, Option.bind_eq_some_iff] at he
 obtain ⟨b, hb, he⟩ := he
 have hw := Qjw (ops := ops) h.rep hg hb
 unfold wpOp
 simp only [ho, hw]
 cases b with
 | true =>
  simp only [if_true] at he ⊢
  obtain ⟨nx, v, w', M', ι', κ', hrun, hnx, ⟨hx, hk, hh⟩, hst⟩ := Qq5 h hG hds hi (Qs1 hd) he
  rw [← Qdb] at hst
  refine .inl ?_
  unfold Oper.wp
  rw [hrun]
  rcases hnx with rfl | ⟨rfl, rfl⟩
  ·exact hn _ w' M' ι' κ' (Qcs _ _ _) hx hk (hh (Qjz hd hi)) hst
  ·exact hn _ w' M' ι' κ' (Qcs _ _ _) hx hk (hh (Qjz hd hi)) hst
 | false =>
  simp only [Bool.false_eq_true, if_false, Option.some.injEq, Prod.mk.injEq] at he ⊢
  obtain ⟨rfl, rfl⟩ := he
  refine hn _ _ M ι κ (Qcs _ _ _) (Ext.refl ..) (Kp.refl ..) (HK.refl _ _) ?_
  rw [Qdb, ← hds]
  exact h.putNone .undef rfl _
theorem GrOK.keep {M' : Mem} {w' : World} {v : Value} {x : V} {bb : Nat} (h : GrOK M w v x) (ho : ownB v x = some bb) (hm : ∀ i, M' bb i = M bb i) (hw : w'.heap[bb]? = w.heap[bb]?) : GrOK M' w' v x := by
 refine ⟨fun xs sz hxx al len cap hv => ?_⟩
 obtain ⟨g1, g2, ws, T, fz, g3, g4⟩ := h.ok xs sz hxx al len cap hv
 have hbb : al.block = bb := by subst hxx hv; simp only [ownB, Option.some.injEq] at ho; exact ho
 exact ⟨g1, fun j hj => by rw [hbb, hm j, ← hbb]; exact g2 j hj, ws, T, fz, by rw [hbb, hw, ← hbb]; exact g3, g4⟩
def also (L : Nat → Prop) (p q : Nat) : Prop := L q ∨ q = p
theorem Qbt {p q : Nat} (h : pend (also L p) c q) : pend L c q ∧ q ≠ p := ⟨⟨h.1, fun hl => h.2 (.inl hl)⟩, fun e => h.2 (.inr e)⟩
theorem Closed.also {p : Nat} (h : Closed l dp L) (hp : p < l.length) (hd : ∀ q ∈ dp.getD p [], L q) : Closed l dp (also L p) :=
 ⟨fun q hq => by rcases hq with hq | rfl; exact h.lt q hq; exact hp, fun q hq r hr => by
  rcases hq with hq | rfl
  ·exact .inl (h.dep q hq r hr)
  ·exact .inl (hd r hr)⟩
theorem Qpp {p b : Nat} (h : XR X (also L p) c rs b) : XR X L c rs b := by
 rcases h with h | ⟨q, hq, hb⟩
 ·exact .inl h
 ·exact .inr ⟨q, (Qbt hq).1, hb⟩
theorem Inv.ran (h : Inv G l dp R S X L c us ρ w M ι κ rs) {p : Nat} (hp : pend L c p) (hd : ∀ q ∈ dp.getD p [], L q) {us' : List Value} {ρ' : List V} {w' : World} {M' : Mem} {ι' : Plc} {κ' : Own} (hslot : Qle l R (also L p) ρ')
  (hx : Ext (XR X L c rs) M ι w M' ι' w') (hdom : ∀ o, o < (S c).length → rdAt G l R S p ≠ .made o → ι' o = ι o) (hh : HK ι w w') (hst : St M' ι' (XR X (also L p) c rs) κ' w' us' ρ' (S c)) : Inv G l dp R S X (also L p) c us' ρ' w' M' ι' κ' rs := by
 have hpc := h.cn
 refine ⟨h.cn, h.cl.also (by have := hp.1; omega) hd, fun q hq => ?_, fun q hq hdq => .inl (h.eff q hq hdq), hslot, hst, fun q b hq => h.rsx q b (Qbt hq).1, fun q r b hq hr => h.rsi q r b (Qbt hq).1 (Qbt hr).1,
  fun q hq => h.same q (Qbt hq).1, fun q hq => h.quiet q (Qbt hq).1, fun q o hq ho => ?_, fun q r o hq hr => h.mdist q r o (Qbt hq).1 (Qbt hr).1, fun q o off hq ho => ?_⟩
 ·rcases hq with hq | rfl
  ·exact h.lt q hq
  ·exact hp.1
 ·obtain ⟨hq, hne⟩ := Qbt hq
  have hs := h.same q hq
  rw [ho] at hs
  obtain ⟨cs, _, h2⟩ := hs
  rw [hdom o (List.getElem?_eq_some_iff.1 (Qbh h2)).1 (fun e => hne (h.mdist q p o hq hp ho e))]
  exact h.made q o hq ho
 ·obtain ⟨hq, hne⟩ := Qbt hq
  obtain ⟨h1, h2⟩ := h.took q o off hq ho
  refine ⟨h1, ?_⟩
  rcases h2 with ⟨h2, h3⟩ | ⟨xs, s, b, bb, v, cs, ht⟩
  ·exact .inl ⟨by rw [hdom o h1 (h3 p hp)]; exact h2, fun r hr => h3 r (Qbt hr).1⟩
  ·have hXb : XR X L c rs bb := .inr ⟨q, hq, ht.rs⟩
   exact .inr ⟨xs, s, b, bb, v, cs, hx.i.le _ _ ht.i, by unfold World.cell?; rw [hh o b ht.i]; exact ht.cell, ht.rep.mono hx.m hx.i, ht.own, ht.rs, ht.gr.keep ht.own (fun i => hx.mX bb i hXb) (hx.keep bb hXb), ht.obj, ht.val⟩
theorem Qem (hk : DrwOK P ops l dp) (hc : Canon G call l R S) (h : Inv G l dp R S X L c us ρ w M ι κ rs) {p : Nat} (hpl : p < l.length) (hn : ¬ L p) (hd : ∀ q ∈ dp.getD p [], L q) :
  ρ.length = (R p).length ∧ (∀ t ∈ (dsAt l p).s.rd, ρ[t]? = (R p)[t]?) :=
 ⟨h.slot.1.trans (hc.len p (by omega)).symm, fun t ht => Quv hk h.cl h.slot hpl hn hd (.inl ht)⟩
theorem Qjd (hk : DrwOK P ops l dp) (hc : Canon G call l R S) (h : Inv G l dp R S X L c us ρ w M ι κ rs) {p : Nat} (hpl : p < l.length) (hn : ¬ L p) {σ σ' : Objs} {τ : List V} (he : Qbq G call (dsAt l p).s ρ σ = some (τ, σ'))
  (hw : ∀ t ∈ (dsAt l p).s.wr, τ[t]? = (R (p + 1))[t]?) : Qle l R (also L p) τ :=
 Quw hk hc h.cl h.slot hpl hn (Qff he).1 hw (Qff he).2
theorem Inv.exec (hk : DrwOK P ops l dp) (hc : Canon G call l R S) (hG : GOK G M ι) (h : Inv G l dp R S X L c a.tmps.toList ρ w M ι κ rs) {p : Nat} (hp : pend L c p) (hd : ∀ q ∈ dp.getD p [], L q) (hdl : dly (dsAt l p).s.ins = true)
  (hre : ∀ τ, Qbq G call (dsAt l p).s ρ (S p) = some (τ, S (p + 1)) → Qbq G call (dsAt l p).s ρ (S c) = some (τ, S c)) {K : Act → World → Prop}
  (hn : ∀ a' w' M' ι' κ' ρ', a'.defers = a.defers → Ext (XR X L c rs) M ι w M' ι' w' → (∀ o, o < (S c).length → rdAt G l R S p ≠ .made o → ι' o = ι o) → HK ι w w' → Inv G l dp R S X (also L p) c a'.tmps.toList ρ' w' M' ι' κ' rs → K a' w') : wpOp P ops Q (dsAt l p).op K a w := by
 have hpl : p < l.length := by have := hp.1; have := h.cn; omega
 obtain ⟨o, ho, hck⟩ := hk.step p hpl
 obtain ⟨hl, hr⟩ := Qem hk hc h hpl hp.2 hd
 obtain ⟨τ, he, hw⟩ := Qd4 (Qf6 hk hc hpl hdl) hl hr
 have hec := hre τ he
 refine Quy h.st hG ho hck hdl hec fun a' w' M' ι' κ' hdf hx hkp hh hst => ?_
 exact hn a' w' M' ι' κ' τ hdf hx (fun o ho _ => hkp.dom o ho) hh (h.ran hp hd (Qjd hk hc h hpl hp.2 hec hw) hx (fun o ho _ => hkp.dom o ho) hh (hst.lessX fun b hb => Qpp hb))
end
end Go.Ev
namespace Go.Ev
open Go
section
variable {P : Program} {ops : Array Oper} {l : List DS} {dp : List (List Nat)} {G : GV} {call : FuncId → List V → Objs → Option (V × Objs)} {R : Nat → List V} {S : Nat → Objs} {Q : Exit → Act → World → Prop}
variable {X : Nat → Prop} {L : Nat → Prop} {c : Nat} {us : List Value} {ρ : List V} {w : World} {M : Mem} {ι : Plc} {κ : Own} {rs : Nat → Option Nat} {a : Act}
theorem Qpq {A A' : Arg → V} {σ : Objs} {i : Ins} (h : ∀ x ∈ i.args, A x = A' x) : reads A σ i = reads A' σ i := by
 cases i <;> first | rfl | (simp only [reads]; rw [h _ (List.mem_cons_self ..)])
theorem Quz {ag : Bool} {sz off : Nat} {cs ds : List V} {y : V} (hl : cs.length = ds.length) (he : ((cs.drop off).take (if ag then sz else 1)).map V.ng = ((ds.drop off).take (if ag then sz else 1)).map V.ng) (h : part ag sz cs off = some y) : part ag sz ds off = some y := by
 unfold part at h ⊢
 cases ag with
 | true =>
  simp only [if_true] at h he ⊢
  rw [← hl]
  split at h
  ·rename_i hle
   rw [if_pos hle, ← he]
   exact h
  ·cases h
 | false =>
  simp only [Bool.false_eq_true, if_false] at h he ⊢
  split at h
  ·rename_i h1
   rw [if_pos h1]
   have e : ∀ es : List V, (((es.drop off).take 1).map V.ng)[0]? = es[off]?.map V.ng := fun es => by
    rw [List.getElem?_map, List.getElem?_take, if_pos (by omega), List.getElem?_drop, Nat.add_zero]
   rw [← e ds, ← he, e cs]
   exact h
  ·cases h
theorem relook {A T : Arg → V} {σ σ2 σ' : Objs} {i : Ins} {v : V} (hd : dly i = true) (h : Qaw call A T σ i = some (v, σ')) (hs : Same σ σ2 (reads A σ i)) (hnt : ∀ o off, reads A σ i ≠ .took o off) (hnm : ∀ o, reads A σ i ≠ .made o) : Qaw call A T σ2 i = some (v, σ2) := by
 by_cases hn : neutral i = true
 ·exact (Qhi hn h).2
 ·cases i <;> (try (exact absurd hd hn)) <;> (try (cases hd; done))
  case alloc => exact absurd rfl (hnm _)
  case box => exact absurd rfl (hnm _)
  case load ag sz x =>
   simp only [Qaw, Qay, Option.bind_eq_bind, Option.bind_eq_some_iff, Option.some.injEq, Prod.mk.injEq, and_true] at h ⊢
   obtain ⟨y, hy, hv, _⟩ := h
   refine ⟨y, ?_, hv⟩
   simp only [reads] at hs
   unfold eL at hy ⊢
   split at hy
   ·rename_i o off ho
    simp only [ho] at hs ⊢
    obtain ⟨cs, ds, h1, h2, h3, h4⟩ := hs
    simp only [Bool.false_eq_true, if_false] at h4
    simp only [Option.bind_eq_bind, h1, Option.bind_some] at hy
    simp only [Option.bind_eq_bind, h2, Option.bind_some]
    exact Quz h3 h4 hy
   ·exact hy
   ·cases hy
  case loadT x =>
   simp only [Qaw] at h ⊢
   simp only [reads] at hs hnt
   split at h
   ·rename_i o off ho
    simp only [ho] at hs hnt ⊢
    simp only [Option.bind_eq_bind, Option.bind_eq_some_iff] at h
    obtain ⟨cs, hcs, y, hy, h⟩ := h
    simp only [hcs, Option.bind_some, hy] at hs hnt
    split at h
    ·rename_i xs s
     exact absurd rfl (hnt o off)
    ·cases h
    ·rename_i hng hnl
     simp only [Option.some.injEq, Prod.mk.injEq] at h
     have hs' : Same σ σ2 (.same true o off 1) := by
      split at hs
      ·rename_i xs s e
       cases e
       exact absurd rfl (hng xs s)
      ·exact hs
     obtain ⟨cs', ds, h1, h2, h3, h4⟩ := hs'
     rw [hcs] at h1; cases h1
     simp only [if_true] at h4
     have e : ∀ es : List V, ((es.drop off).take 1)[0]? = es[off]? := fun es => by rw [List.getElem?_take, if_pos (by omega), List.getElem?_drop, Nat.add_zero]
     have hy2 : ds[off]? = some y := by rw [← e ds, ← h4, e cs]; exact hy
     simp only [Option.bind_eq_bind, h2, Option.bind_some, hy2]
     rw [← h.1]
   ·simp only [Option.bind_eq_bind, Option.bind_eq_some_iff, Option.some.injEq, Prod.mk.injEq, and_true] at h ⊢
    obtain ⟨y, hy, hv, _⟩ := h
    exact ⟨y, hy, hv⟩
   ·cases h
theorem Qpr (hk : DrwOK P ops l dp) (hc : Canon G call l R S) (h : Inv G l dp R S X L c us ρ w M ι κ rs) {p : Nat} (hp : pend L c p) (hd : ∀ q ∈ dp.getD p [], L q) :
  rdAt G l R S p = if (wanted ρ (dsAt l p).s.gd).getD false then reads (arg G ρ) (S p) (dsAt l p).s.ins else .none := by
 have hpl : p < l.length := by have := hp.1; have := h.cn; omega
 obtain ⟨hl, hr⟩ := Qem hk hc h hpl hp.2 hd
 have hr' : ∀ t ∈ (dsAt l p).s.rd, ρ.getD t .undef = (R p).getD t .undef := fun t ht => by simp only [List.getD, hr t ht]
 unfold rdAt
 rw [Qiy (ρ' := ρ) (ρ := R p) fun n hn => hr' n (List.mem_append_right _ hn)]
 rw [Qpq (A := arg G ρ) (A' := arg G (R p)) fun x hx => by
  unfold arg
  rw [Qld (ρ' := ρ) (ρ := R p) fun n hn => hr' n (List.mem_append_left _ (List.mem_filterMap.2 ⟨x, hx, hn⟩))]]
theorem Inv.exec_same (hk : DrwOK P ops l dp) (hc : Canon G call l R S) (hG : GOK G M ι) (h : Inv G l dp R S X L c a.tmps.toList ρ w M ι κ rs) {p : Nat} (hp : pend L c p) (hd : ∀ q ∈ dp.getD p [], L q) (hdl : dly (dsAt l p).s.ins = true)
  (hS : S (p + 1) = S p) (hnt : ∀ o off, rdAt G l R S p ≠ .took o off) (hnm : ∀ o, rdAt G l R S p ≠ .made o) {K : Act → World → Prop}
  (hn : ∀ a' w' M' ι' κ' ρ', a'.defers = a.defers → Ext (XR X L c rs) M ι w M' ι' w' → (∀ o, o < (S c).length → rdAt G l R S p ≠ .made o → ι' o = ι o) → HK ι w w' → Inv G l dp R S X (also L p) c a'.tmps.toList ρ' w' M' ι' κ' rs → K a' w') : wpOp P ops Q (dsAt l p).op K a w := by
 refine h.exec hk hc hG hp hd hdl (fun τ he => ?_) hn
 have hrd := Qpr hk hc h hp hd
 have hsm := h.same p hp
 rw [hS] at hsm
 unfold Qbq ev1 at he ⊢
 simp only [Option.bind_eq_bind, Option.bind_eq_some_iff] at he
 obtain ⟨b, hb, he⟩ := he
 simp only [Option.bind_eq_bind, hb, Option.bind_some]
 rw [hb] at hrd
 cases b with
 | false =>
  simp only [Bool.false_eq_true, if_false, Option.some.injEq, Prod.mk.injEq] at he ⊢
  exact ⟨he.1, trivial⟩
 | true =>
  simp only [if_true, Option.bind_eq_some_iff, Option.some.injEq, Prod.mk.injEq] at he ⊢
  simp only [Option.getD_some, if_true] at hrd
  obtain ⟨⟨v, σ2⟩, hi, hτ, _⟩ := he
  rw [hrd] at hsm hnt hnm
  exact ⟨(v, S c), relook hdl hi hsm hnt hnm, hτ, rfl⟩
end
end Go.Ev
namespace Go.Ev
open Go
section
variable {P : Program} {ops : Array Oper} {l : List DS} {dp : List (List Nat)} {G : GV} {call : FuncId → List V → Objs → Option (V × Objs)} {R : Nat → List V} {S : Nat → Objs} {Q : Exit → Act → World → Prop}
variable {X : Nat → Prop} {L : Nat → Prop} {c : Nat} {us : List Value} {ρ : List V} {w : World} {M : Mem} {ι : Plc} {κ : Own} {rs : Nat → Option Nat} {a : Act}
theorem Qu0 {o : Oper} {t : TypeId} {x : Operand} {b off : Nat} {u : Value} (ho : o.op = .load t x) (ht : Qeb P t false 1 = true) (hev : a.eval x = .pointer (some ⟨b, off, none⟩)) (hc : w.cell? ⟨b, off, none⟩ = some u) : (execOp a.eval o).run P w = .ok (.value u) w := by
 have hag : agOf P t = some false := by simp only [Qeb, Bool.and_eq_true, beq_iff_eq] at ht; exact ht.1.1
 unfold execOp
 rw [ho]
 simp only [Instr.loadAt, Instr.sureAddr, hev, loadVar, Qab, Qaj, Qdf hag, Result.andThen, Bool.false_eq_true, if_false, Qi8 hc]
theorem Qlf {i : Nat} {o : Oper} {s : Step} {K : Act → World → Prop} {v : Value} {w' : World} (hr : Reps M ι a.tmps.toList ρ) (ho : ops[i]? = some o) (hg : Qyr ops o.guard s.gd = true) (hw : wanted ρ s.gd = some true) (hrun : (execOp a.eval o).run P w = .ok (.value v) w')
  (hK : K (a.put o.dst v) w') : wpOp P ops Q i K a w := by
 have := Qjw (ops := ops) hr hg hw
 unfold wpOp
 simp only [ho, this, if_true]
 refine .inl ?_
 unfold Oper.wp
 rw [hrun]
 exact hK
theorem Inv.exec_took (hk : DrwOK P ops l dp) (hc : Canon G call l R S) (hG : GOK G M ι) (h : Inv G l dp R S X L c a.tmps.toList ρ w M ι κ rs) {p : Nat} (hp : pend L c p) (hd : ∀ q ∈ dp.getD p [], L q) (hdl : dly (dsAt l p).s.ins = true)
  {o off : Nat} (hto : rdAt G l R S p = .took o off) {K : Act → World → Prop}
  (hn : ∀ a' w' M' ι' κ' ρ', a'.defers = a.defers → Ext (XR X L c rs) M ι w M' ι' w' → (∀ o, o < (S c).length → rdAt G l R S p ≠ .made o → ι' o = ι o) → HK ι w w' → Inv G l dp R S X (also L p) c a'.tmps.toList ρ' w' M' ι' κ' rs → K a' w') : wpOp P ops Q (dsAt l p).op K a w := by
 have hpl : p < l.length := by have := hp.1; have := h.cn; omega
 obtain ⟨op, hop, hck⟩ := hk.step p hpl
 obtain ⟨hl, hr⟩ := Qem hk hc h hpl hp.2 hd
 obtain ⟨τ, he, hwr⟩ := Qd4 (Qf6 hk hc hpl hdl) hl hr
 have hslot := Qjd hk hc h hpl hp.2 he hwr
 simp only [Qed, Bool.and_eq_true, beq_iff_eq] at hck
 obtain ⟨⟨hds, hi⟩, hg⟩ := hck
 have hrd := Qpr hk hc h hp hd
 rw [hto] at hrd
 unfold Qbq ev1 at he
 simp only [Option.bind_eq_bind, Option.bind_eq_some_iff] at he
 obtain ⟨b0, hb, he⟩ := he
 rw [hb] at hrd
 cases b0 with
 | false => cases hrd
 | true =>
  simp only [if_true, Option.bind_eq_some_iff, Option.some.injEq, Prod.mk.injEq, Option.getD_some] at he hrd
  obtain ⟨⟨v, σ2⟩, hev, hτ, _⟩ := he
  generalize hins : (dsAt l p).s.ins = ins at *
  cases ins <;> (try (cases hdl; done)) <;> (try (cases hrd; done))
  case load ag sz x => simp only [reads] at hrd; split at hrd <;> cases hrd
  case loadT y =>
   simp only [reads] at hrd
   split at hrd
   ·rename_i o' off' hy
    split at hrd
    ·rename_i xs s hval
     cases hrd
     rw [Option.bind_eq_some_iff] at hval
     obtain ⟨cs, hcs, hcc⟩ := hval
     simp only [Qaw, hy, hcs, hcc, Option.bind_eq_bind, Option.bind_some, Option.some.injEq, Prod.mk.injEq] at hev
     obtain ⟨rfl, _⟩ := hev
     cases hoo : op.op <;> rw [hoo] at hi <;> (try (cases hi; done))
     rename_i t x
     simp only [Qa1, Bool.and_eq_true] at hi
     have hA := Opd.of_state h.st.rep hG
     have hvx := hA.ok _ _ hi.2
     rw [hy] at hvx
     obtain ⟨b, hxb, hib⟩ := hvx.inv_ptr
     obtain ⟨hlen, hcase⟩ := h.took p o off hp hto
     rcases hcase with ⟨hno, _⟩ | ⟨xs', s', b', bb, u, cs', ht⟩
     ·rw [hib] at hno; cases hno
     ·have e1 := ht.i
      rw [hib] at e1; cases e1
      have e2 := ht.obj
      rw [Qbh hcs] at e2; cases e2
      have e3 := ht.val
      rw [hcc] at e3; cases e3
      have hrun := Qu0 (P := P) (w := w) hoo hi.1 hxb ht.cell
      have hXb : XR X L c rs bb := .inr ⟨p, hp, ht.rs⟩
      have hfree : Free M ι (XR X (also L p) c rs) κ w bb := by
       refine ⟨?_, fun hx => ?_, fun o' ho' => h.st.wd.xobj o' bb ho' hXb, h.st.wd.xlt bb hXb⟩
       ·cases hkb : κ bb with
        | none => rfl
        | some q => exact absurd hXb (h.st.wd.kap bb q hkb).1
       ·rcases hx with hx | ⟨q, hq, hb'⟩
        ·exact h.rsx p bb hp ht.rs hx
        ·obtain ⟨hq, hne⟩ := Qbt hq
         exact hne (h.rsi q p bb hq hp hb' ht.rs)
      obtain ⟨κ', hst⟩ := (h.st.lessX (X' := XR X (also L p) c rs) fun b hb => Qpp hb).putOwn ht.rep (fun b hb' => by rw [ht.own] at hb'; cases hb'; exact ⟨hfree, ht.gr⟩) op.dst
      rw [← Qdb] at hst
      have hτ' : τ = put ρ op.dst (.sl xs (.gr s)) := by rw [hds, ← hτ]; rfl
      rw [← hτ'] at hst
      exact Qlf h.st.rep hop hg hb hrun (hn _ w M ι κ' τ (Qcs _ _ _) (Ext.refl ..) (fun _ _ _ => rfl) (HK.refl _ _) (h.ran hp hd hslot (Ext.refl ..) (fun _ _ _ => rfl) (HK.refl _ _) hst))
    ·cases hrd
   ·cases hrd
theorem Inv.exec_made (hk : DrwOK P ops l dp) (hc : Canon G call l R S) (hG : GOK G M ι) (h : Inv G l dp R S X L c a.tmps.toList ρ w M ι κ rs) {p : Nat} (hp : pend L c p) (hd : ∀ q ∈ dp.getD p [], L q) (hdl : dly (dsAt l p).s.ins = true)
  {o : Nat} (hto : rdAt G l R S p = .made o) {K : Act → World → Prop}
  (hn : ∀ a' w' M' ι' κ' ρ', a'.defers = a.defers → Ext (XR X L c rs) M ι w M' ι' w' → (∀ o, o < (S c).length → rdAt G l R S p ≠ .made o → ι' o = ι o) → HK ι w w' → Inv G l dp R S X (also L p) c a'.tmps.toList ρ' w' M' ι' κ' rs → K a' w') : wpOp P ops Q (dsAt l p).op K a w := by
 have hpl : p < l.length := by have := hp.1; have := h.cn; omega
 obtain ⟨op, hop, hck⟩ := hk.step p hpl
 obtain ⟨hl, hr⟩ := Qem hk hc h hpl hp.2 hd
 obtain ⟨τ, he, hwr⟩ := Qd4 (Qf6 hk hc hpl hdl) hl hr
 have hslot := Qjd hk hc h hpl hp.2 he hwr
 simp only [Qed, Bool.and_eq_true, beq_iff_eq] at hck
 obtain ⟨⟨hds, hi⟩, hg⟩ := hck
 have hrd := Qpr hk hc h hp hd
 rw [hto] at hrd
 have hsm := h.same p hp
 rw [hto] at hsm
 obtain ⟨cs, hs1, hs2⟩ := hsm
 have hι0 := h.made p o hp hto
 have fin : ∀ (as : Array Value) (T : TypeId), wanted ρ (dsAt l p).s.gd = some true → (execOp a.eval op).run P w = .ok (.value (.pointer (some ⟨w.heap.size, 0, none⟩))) (Qca w (.cells as T)) → τ = put ρ op.dst (.ptr o 0) → Reps M ι as.toList cs → (∀ x ∈ cs, x.one = true) → (∀ x ∈ cs, x.ng = x) → wpOp P ops Q (dsAt l p).op K a w := by
  intro as T hb hrun hτ hrep hone hng
  have hcl : cs.length = as.size := by have := hrep.1; simpa using this.symm
  obtain ⟨M', ι', hx, hi', hst, hdm⟩ := h.st.mapO hι0 (Qbh hs2) as T (0, 0) (by rw [hcl, ← Array.length_toList, List.take_length]; exact hrep) (fun i _ => by unfold Qbd; simp) hone (fun x hx v => by rw [← hng x hx]; exact Qa6 _ _)
  have hst2 := (hst.lessX (X' := XR X (also L p) c rs) fun b hb => Qpp hb).putNone (.ptr o 0 _ hi') rfl op.dst
  rw [← Qdb, ← hτ] at hst2
  have hdom : ∀ o', o' < (S c).length → rdAt G l R S p ≠ .made o' → ι' o' = ι o' := fun o' _ hne => hdm o' (fun e => hne (by rw [hto, e]))
  exact Qlf h.st.rep hop hg hb hrun (hn _ _ M' ι' κ τ (Qcs _ _ _) hx hdom (h.st.wd.hkPush' _) (h.ran hp hd hslot hx hdom (h.st.wd.hkPush' _) hst2))
 unfold Qbq ev1 at he
 simp only [Option.bind_eq_bind, Option.bind_eq_some_iff] at he
 obtain ⟨b0, hb, he⟩ := he
 rw [hb] at hrd
 cases b0 with
 | false => cases hrd
 | true =>
  simp only [if_true, Option.bind_eq_some_iff, Option.some.injEq, Prod.mk.injEq, Option.getD_some] at he hrd
  obtain ⟨⟨v, σ2⟩, hev, hτ, hσ⟩ := he
  simp only at hσ
  subst hσ
  have hA := Opd.of_state h.st.rep hG
  generalize hins : (dsAt l p).s.ins = ins at *
  have last : ∀ z, v = .ptr (S p).length 0 → S (p + 1) = S p ++ [.cells z] → cs = z := fun z _ hz => by
   cases ins <;> (try (cases hdl; done)) <;> (try (cases hrd; done))
   case load => simp only [reads] at hrd; split at hrd <;> cases hrd
   case loadT => simp only [reads] at hrd; split at hrd <;> (try (cases hrd; done)); split at hrd <;> cases hrd
   all_goals
    cases hrd
    have := Qbh hs1
    rw [hz] at this
    simp at this
    exact this.symm
  cases ins <;> (try (cases hdl; done)) <;> (try (cases hrd; done))
  case load => simp only [reads] at hrd; split at hrd <;> cases hrd
  case loadT => simp only [reads] at hrd; split at hrd <;> (try (cases hrd; done)); split at hrd <;> cases hrd
  case alloc z =>
   simp only [Qaw] at hev
   split at hev
   ·simp only [Option.some.injEq, Prod.mk.injEq] at hev
    have hcz := last z hev.1.symm hev.2.symm
    subst hcz
    cases hoo : op.op <;> rw [hoo] at hi <;> (try (cases hi; done))
    rename_i e
    simp only [Qa1] at hi
    split at hi
    ·rename_i zv hzv
     obtain ⟨hr1, hr2, _⟩ := Qbr (M := M) (ι := ι) hi
     refine fin zv.cells e hb ?_ ?_ hr1 (fun x hx => (hr2 x hx).1) (fun x hx => (hr2 x hx).2)
     ·unfold execOp
      rw [hoo]
      simp only [Instr.alloc, Qab, Qq3 hzv, Result.andThen, Qf3, Qaj]
     ·cases hrd
      rw [hds, ← hτ, ← hev.1]; rfl
    ·cases hi
   ·cases hev
  case box y =>
   simp only [Qaw] at hev
   split at hev
   ·rename_i hok
    simp only [Option.some.injEq, Prod.mk.injEq] at hev
    have hcz := last _ hev.1.symm hev.2.symm
    subst hcz
    cases hoo : op.op <;> rw [hoo] at hi <;> (try (cases hi; done))
    rename_i e x
    simp only [Qa1] at hi
    have hvx := hA.ok _ _ hi
    refine fin (a.eval x).cells e hb ?_ ?_ ((hvx.cells (Qhd hok)).ng) (Qix (Qhd hok)) (fun x hx => by
     obtain ⟨y', _, rfl⟩ := List.mem_map.1 hx
     exact V.nogr_nogr y')
    ·unfold execOp
     rw [hoo]
     simp only [Qab, Qf3, Result.andThen]
     rfl
    ·cases hrd
     rw [hds, ← hτ, ← hev.1]; rfl
   ·cases hev
end
end Go.Ev
namespace Go.Ev
open Go
section
variable {P : Program} {ops : Array Oper} {l : List DS} {dp : List (List Nat)} {G : GV} {call : FuncId → List V → Objs → Option (V × Objs)} {R : Nat → List V} {S : Nat → Objs} {Q : Exit → Act → World → Prop}
variable {X : Nat → Prop} {L : Nat → Prop} {c : Nat} {us : List Value} {ρ : List V} {w w0 : World} {M M0 : Mem} {ι ι0 : Plc} {κ : Own} {rs : Nat → Option Nat} {a : Act}
theorem Kp.late (h : St M ι X κ w us ρ (S c)) {σ' : Objs} (hl : Late (S c) σ') : Kp ι w (S c) ι w σ' := by
 refine ⟨hl.len, fun _ _ => rfl, fun o b i hi hlk => ⟨?_, rfl⟩⟩
 cases hl with
 | stay => exact hlk
 | took o' off cs xs s h1 h2 =>
  rw [Qjc h1] at hlk
  split at hlk
  ·exact absurd hlk.1 (by simp [V.isLk])
  ·exact hlk
 | made cs =>
  obtain ⟨ds, x, h1, h2, h3⟩ := hlk
  rw [List.getElem?_append_left (h.wd.lt_of hi)] at h1
  exact ⟨ds, x, h1, h2, h3⟩
structure Acc (G : GV) (l : List DS) (R : Nat → List V) (S : Nat → Objs) (X : Nat → Prop) (L : Nat → Prop) (c : Nat) (M0 : Mem) (ι0 : Plc) (w0 : World) (M : Mem) (ι : Plc) (w : World) : Prop where
 ext : Ext X M0 ι0 w0 M ι w
 kp : Kp ι0 w0 (S 0) ι w (S c)
 mge : ∀ p o, pend L c p → rdAt G l R S p = .made o → (S 0).length ≤ o
theorem adv (hk : DrwOK P ops l dp) (hc : Canon G call l R S) : ∀ (n c : Nat) (κ : Own) (rs : Nat → Option Nat), l.length - c = n → Inv G l dp R S X L c us ρ w M ι κ rs → Acc G l R S X L c M0 ι0 w0 M ι w →
  ∃ c' κ' rs', Inv G l dp R S X L c' us ρ w M ι κ' rs' ∧ Acc G l R S X L c' M0 ι0 w0 M ι w ∧ (c' < l.length → dly (dsAt l c').s.ins = false)
 | 0, c, κ, rs, hn, h, hA => ⟨c, κ, rs, h, hA, fun hlt => by omega⟩
 | n + 1, c, κ, rs, hn, h, hA => by
  cases hd : dly (dsAt l c).s.ins with
  | false => exact ⟨c, κ, rs, h, hA, fun _ => hd⟩
  | true =>
   have hcn : c < l.length := by omega
   have hcase := Qjy hk hc hcn hd
   obtain ⟨κ', rs', h'⟩ := h.advance hk hc hcn hd
   refine adv hk hc n (c + 1) κ' rs' (by omega) h' ⟨hA.ext, hA.kp.trans hA.ext.i (Kp.late h.st hcase.late), fun p o hp ho => ?_⟩
   rcases Qbf hp with rfl | hp
   ·cases hcase with
    | none _ h2 => rw [h2] at ho; cases ho
    | same _ _ _ _ _ h2 => rw [h2] at ho; cases ho
    | took _ _ _ _ _ _ _ _ h2 => rw [h2] at ho; cases ho
    | made _ _ h2 => rw [h2] at ho; cases ho; exact hA.kp.len
   ·exact hA.mge p o hp ho
theorem Acc.ran (hA : Acc G l R S X L c M0 ι0 w0 M ι w) {p : Nat} (hp : pend L c p) {M' : Mem} {ι' : Plc} {w' : World} (hx : Ext (XR X L c rs) M ι w M' ι' w') (hdom : ∀ o, o < (S c).length → rdAt G l R S p ≠ .made o → ι' o = ι o) (hh : HK ι w w') :
  Acc G l R S X (also L p) c M0 ι0 w0 M' ι' w' := by
 refine ⟨hA.ext.trans (hx.less fun b hb => .inl hb), ⟨hA.kp.len, fun o ho => ?_, fun o b i hi hlk => ?_⟩, fun q o hq ho => hA.mge q o (Qbt hq).1 ho⟩
 ·rw [hdom o (Nat.lt_of_lt_of_le ho hA.kp.len) (fun e => by have := hA.mge p o hp e; omega)]
  exact hA.kp.dom o ho
 ·obtain ⟨h1, h2⟩ := hA.kp.lk o b i hi hlk
  refine ⟨h1, ?_⟩
  have : w'.cell? ⟨b, i, none⟩ = w.cell? ⟨b, i, none⟩ := by unfold World.cell?; rw [hh o b (hA.ext.i.le _ _ hi)]
  rw [this, h2]
theorem Qny {p : Nat} (h : neutral (dsAt l p).s.ins = true) : rdAt G l R S p = .none := by
 unfold rdAt
 rw [Qhj h]
 split <;> rfl
theorem Inv.effect (hk : DrwOK P ops l dp) (hc : Canon G call l R S) (hG : GOK G M ι) (hS : ∀ f, Sound P G f (call f)) (h : Inv G l dp R S X L c a.tmps.toList ρ w M ι κ rs) (hA : Acc G l R S X L c M0 ι0 w0 M ι w) (hcl : c < l.length) (hd : ∀ q ∈ dp.getD c [], L q) (hdl : dly (dsAt l c).s.ins = false)
  {K : Act → World → Prop} (hn : ∀ a' w' M' ι' κ' ρ', a'.defers = a.defers → Inv G l dp R S X (also L c) (c + 1) a'.tmps.toList ρ' w' M' ι' κ' rs → Acc G l R S X (also L c) (c + 1) M0 ι0 w0 M' ι' w' → K a' w') : wpOp P ops Q (dsAt l c).op K a w := by
 have hLc : ¬ L c := fun hl => by have := h.lt c hl; omega
 obtain ⟨op, hop, hck⟩ := hk.step c hcl
 obtain ⟨hl, hr⟩ := Qem hk hc h hcl hLc hd
 obtain ⟨σ0, σ1, h1, h2, h3, h4⟩ := hc c hcl
 obtain ⟨τ, he, hwr⟩ := Qd4 h2 hl hr
 have hslot := Qjd hk hc h hcl hLc he hwr
 obtain ⟨l1, l2, l3⟩ := Qnv (M := M) (ι := ι) (X := XR X L c rs) (κ := κ) (w := w) (us := a.tmps.toList) (ρ := ρ) _ _ _ h1
 refine Qup (l1 h.st) hG hop hck hS he fun a' w' hgot => ?_
 obtain ⟨hdf, M', ι', κ', hx, hkp, hst⟩ := hgot
 obtain ⟨o1, o2, o3, o4⟩ := Qnw (M := M') (ι := ι') (X := XR X L c rs) (κ := κ') (w := w') (us := a'.tmps.toList) (ρ := τ) _ _ _ h3
 have hst' := o1 hst
 have hlen : (S c).length ≤ (S (c + 1)).length := by have := hkp.len; omega
 have hps : ∀ {q}, pend (also L c) (c + 1) q → pend L c q := fun {q} hq => by
  rcases Qbf hq with rfl | hq
  ·exact absurd (.inr rfl) hq.2
  ·exact (Qbt hq).1
 have hsp : ∀ {q}, pend L c q → pend (also L c) (c + 1) q := fun {q} hq => ⟨by have := hq.1; omega, fun hl => by
  rcases hl with hl | rfl
  ·exact hq.2 hl
  ·exact absurd hq.1 (Nat.lt_irrefl _)⟩
 have hun : ∀ q, pend L c q → rdAt G l R S q = .none ∨ q ∈ (dsAt l c).un := fun q hq => by
  rcases hk.pair c hcl q hq.1 with hm | ⟨_, _, hm⟩
  ·exact absurd (hd q hm) hq.2
  ·rcases hm with hm | hm | hm
   ·rw [hdl] at hm; cases hm
   ·exact .inl (Qny hm)
   ·exact .inr hm
 have hsame : ∀ q, pend L c q → Same (S c) (S (c + 1)) (rdAt G l R S q) := fun q hq => by
  rcases hun q hq with hm | hm
  ·rw [hm]; trivial
  ·exact Qpn (h4 q hm)
 have hdom : ∀ o, o < (S c).length → ι' o = ι o := fun o ho => hkp.dom o (by omega)
 have hkp' : Kp ι w (S c) ι' w' (S (c + 1)) := by
  refine ⟨hlen, hdom, fun o b i hi hlk => ?_⟩
  obtain ⟨q1, q2⟩ := o3 o i hlk
  obtain ⟨q3, q4⟩ := hkp.lk o b i hi q1
  exact ⟨(l3 o i q3).resolve_right q2, q4⟩
 refine hn a' w' M' ι' κ' τ hdf ⟨by omega, h.cl.also hcl hd, fun q hq => ?_, fun q hq hdq => ?_, hslot, hst'.lessX fun b hb => ?_, fun q b hq => h.rsx q b (hps hq), fun q r b hq hr => h.rsi q r b (hps hq) (hps hr),
  fun q hq => (h.same q (hps hq)).trans (hsame q (hps hq)), fun q hq => (h.quiet q (hps hq)).same (hsame q (hps hq)), fun q o hq ho => ?_, fun q r o hq hr => h.mdist q r o (hps hq) (hps hr), fun q o off hq ho => ?_⟩ ⟨hA.ext.trans (hx.less fun b hb => .inl hb), hA.kp.trans hA.ext.i hkp', fun q o hq ho => hA.mge q o (hps hq) ho⟩
 ·rcases hq with hq | rfl
  ·have := h.lt q hq; omega
  ·omega
 ·rcases Nat.lt_or_ge q c with hlt | hge
  ·exact .inl (h.eff q hlt hdq)
  ·exact .inr (by omega)
 ·rcases hb with hb | ⟨q, hq, hb⟩
  ·exact .inl hb
  ·exact .inr ⟨q, hps hq, hb⟩
 ·have hs := h.same q (hps hq)
  rw [ho] at hs
  obtain ⟨cs, _, g2⟩ := hs
  rw [hdom o (List.getElem?_eq_some_iff.1 (Qbh g2)).1]
  exact h.made q o (hps hq) ho
 ·obtain ⟨g1, g2⟩ := h.took q o off (hps hq) ho
  refine ⟨by omega, ?_⟩
  rcases g2 with ⟨g2, g3⟩ | ⟨xs, s, b, bb, v, cs, ht⟩
  ·exact .inl ⟨by rw [hdom o g1]; exact g2, fun r hr => g3 r (hps hr)⟩
  ·have hXb : XR X L c rs bb := .inr ⟨q, hps hq, ht.rs⟩
   have hmem : (o, off) ∈ ((dsAt l c).un.map (rdAt G l R S)).filterMap Rd.cell := by
    refine List.mem_filterMap.2 ⟨rdAt G l R S q, List.mem_map.2 ⟨q, (hun q (hps hq)).resolve_left (fun e => by rw [ho] at e; cases e), rfl⟩, ?_⟩
    rw [ho]; rfl
   have hlk := hkp.lk o b off ht.i (o4 _ hmem)
   exact .inr ⟨xs, s, b, bb, v, cs, hx.i.le _ _ ht.i, by rw [hlk.2]; exact ht.cell, ht.rep.mono hx.m hx.i, ht.own, ht.rs, ht.gr.keep ht.own (fun i => hx.mX bb i hXb) (hx.keep bb hXb), ht.obj, ht.val⟩
end
end Go.Ev
namespace Go.Ev
open Go
section
variable {P : Program} {ops : Array Oper} {l : List DS} {dp : List (List Nat)} {G : GV} {call : FuncId → List V → Objs → Option (V × Objs)} {R : Nat → List V} {S : Nat → Objs} {Q : Exit → Act → World → Prop}
variable {X : Nat → Prop} {ρ : List V} {σ : Objs} {w w0 : World} {M M0 : Mem} {ι ι0 : Plc} {κ : Own} {a : Act}
def left (n : Nat) (listed : Array Bool) : Nat := (List.range n).countP fun i => !listed.getD i false
theorem Qj0 {p q : Nat → Bool} {i : Nat} : ∀ (xs : List Nat), (∀ x ∈ xs, q x = true → p x = true) → i ∈ xs → p i = true → q i = false → xs.countP q + 1 ≤ xs.countP p
 | [], _, hi, _, _ => by simp at hi
 | x :: xs, h, hi, hp, hq => by
  have hmono : xs.countP q ≤ xs.countP p := List.countP_mono_left fun y hy => h y (List.mem_cons_of_mem _ hy)
  rw [List.countP_cons, List.countP_cons]
  by_cases hx : x = i
  ·subst hx
   rw [hp, hq]
   simp
   exact hmono
  ·have := Qj0 xs (fun y hy => h y (List.mem_cons_of_mem _ hy)) ((List.mem_cons.1 hi).resolve_left (Ne.symm hx)) hp hq
   have hxx := h x (List.mem_cons_self ..)
   cases hqx : q x
   ·simp only [Bool.false_eq_true, if_false]; split <;> omega
   ·rw [hxx hqx]; simp only [if_true]; omega
theorem Qyt (hk : DrwOK P ops l dp) {i : Nat} (hi : i < ops.size) : (dsAt l (place l i)).op = i := by
 have h := hk.all i hi
 have := List.findIdx_getElem (p := fun d : DS => d.op == i) (xs := l) (w := h)
 unfold dsAt
 rw [List.getD, List.getElem?_eq_getElem h]
 exact beq_iff_eq.1 this
def isIn (l : List DS) (listed : Array Bool) (p : Nat) : Prop := p < l.length ∧ listed.getD (dsAt l p).op false = true
theorem Wcu (hk : DrwOK P ops l dp) {p : Nat} (hp : p < l.length) : (dsAt l p).op < ops.size := by
 obtain ⟨o, ho, _⟩ := hk.step p hp
 exact (Array.getElem?_eq_some_iff.1 ho).1
theorem Qyu (hk : DrwOK P ops l dp) {listed : Array Bool} (hsz : listed.size = ops.size) {p : Nat} (hp : p < l.length) : isIn l (listed.setIfInBounds (dsAt l p).op true) = also (isIn l listed) p := by
 funext q
 apply propext
 unfold isIn also
 constructor
 ·rintro ⟨h1, h2⟩
  by_cases hq : q = p
  ·exact .inr hq
  ·refine .inl ⟨h1, ?_⟩
   rwa [getD_set_ne false (fun e => hq (hk.inj q p h1 hp e.symm))] at h2
 ·rintro (⟨h1, h2⟩ | rfl)
  ·exact ⟨h1, getD_set_true h2⟩
  ·refine ⟨hp, ?_⟩
   have := Wcu hk hp
   simp [Array.getD_eq_getD_getElem?, Array.getElem?_setIfInBounds, hsz, this]
theorem Qra (hk : DrwOK P ops l dp) {listed : Array Bool} {p : Nat} (hp : p < l.length) {o : Oper} (ho : ops[(dsAt l p).op]? = some o) :
  (∀ q ∈ edges ops l p, isIn l listed q) ↔ ∀ e ∈ o.after, Region.binds .any e = true → listed.getD e.on false = true := by
 have hpl : ∀ e ∈ o.after, Region.binds .any e = true → place l e.on ∈ edges ops l p := fun e he hb => by
  unfold edges
  rw [ho]
  exact List.mem_map.2 ⟨e, List.mem_filter.2 ⟨by simpa using he, hb⟩, rfl⟩
 have hop : ∀ e ∈ o.after, Region.binds .any e = true → place l e.on < l.length ∧ (dsAt l (place l e.on)).op = e.on := fun e he hb => by
  have hlt := hk.edge p hp _ (hpl e he hb)
  have hl : place l e.on < l.length := by omega
  refine ⟨hl, ?_⟩
  have := List.findIdx_getElem (p := fun d : DS => d.op == e.on) (xs := l) (w := hl)
  unfold dsAt
  rw [List.getD, List.getElem?_eq_getElem hl]
  exact beq_iff_eq.1 this
 constructor
 ·intro h e he hb
  have := (h _ (hpl e he hb)).2
  rwa [(hop e he hb).2] at this
 ·intro h q hq
  unfold edges at hq
  rw [ho] at hq
  obtain ⟨e, he, rfl⟩ := List.mem_map.1 hq
  obtain ⟨he1, he2⟩ := List.mem_filter.1 he
  have he1' : e ∈ o.after := by simpa using he1
  obtain ⟨h1, h2⟩ := hop e he1' he2
  exact ⟨h1, by rw [h2]; exact h e he1' he2⟩
theorem Qu1 (hk : DrwOK P ops l dp) (hc : Canon G call l R S) (hS : ∀ f, Sound P G f (call f)) (hG0 : GOK G M0 ι0) {df : List Deferred}
  (hQ : ∀ a' w' M' ι' κ', a'.defers = df → Ext X M0 ι0 w0 M' ι' w' → Kp ι0 w0 (S 0) ι' w' (S l.length) → St M' ι' X κ' w' a'.tmps.toList (R l.length) (S l.length) → Q .normal a' w') :
  ∀ (fuel : Nat) (listed : Array Bool) (a : Act) (c : Nat) (ρ : List V) (w : World) (M : Mem) (ι : Plc) (κ : Own) (rs : Nat → Option Nat), listed.size = ops.size → left ops.size listed ≤ fuel → a.defers = df →
   Inv G l dp R S X (isIn l listed) c a.tmps.toList ρ w M ι κ rs → Acc G l R S X (isIn l listed) c M0 ι0 w0 M ι w → (c < l.length → dly (dsAt l c).s.ins = false) → wpAny P .any ops Q fuel listed a w := by
 have done : ∀ (listed : Array Bool) (a : Act) (c : Nat) (ρ : List V) (w : World) (M : Mem) (ι : Plc) (κ : Own) (rs : Nat → Option Nat), a.defers = df → (∀ p, p < l.length → isIn l listed p) →
   Inv G l dp R S X (isIn l listed) c a.tmps.toList ρ w M ι κ rs → Acc G l R S X (isIn l listed) c M0 ι0 w0 M ι w → (c < l.length → dly (dsAt l c).s.ins = false) → Q .normal a w := by
  intro listed a c ρ w M ι κ rs hdf hall h hA hce
  have hcn : c = l.length := by
   rcases Nat.lt_or_ge c l.length with hlt | hge
   ·have := h.lt c (hall c hlt); omega
   ·have := h.cn; omega
  subst hcn
  have hρ : ρ = R l.length := List.ext_getElem? fun t => h.slot.2 t l.length (Nat.le_refl _) (fun q hq _ => hall q hq) (fun q h1 h2 _ => by omega)
  subst hρ
  exact hQ a w M ι κ hdf hA.ext hA.kp (h.st.lessX fun b hb => .inl hb)
 intro fuel
 induction fuel with
 | zero =>
  intro listed a c ρ w M ι κ rs hsz hleft hdf h hA hce
  have hall' : ∀ i, i < ops.size → listed.getD i false = true := fun i hi => by
   have h0 : (List.range ops.size).countP (fun i => !listed.getD i false) = 0 := by unfold left at hleft; omega
   have := List.countP_eq_zero.1 h0 i (List.mem_range.2 hi)
   simpa using this
  have hall : ∀ p, p < l.length → isIn l listed p := fun p hp => ⟨hp, hall' _ (Wcu hk hp)⟩
  refine ⟨?_, done listed a c ρ w M ι κ rs hdf hall h hA hce⟩
  cases hrd : Region.ready .any ops listed with
  | nil => rfl
  | cons i r =>
   have hm : i ∈ Region.ready .any ops listed := by rw [hrd]; exact List.mem_cons_self ..
   obtain ⟨h1, o, ho, _⟩ := mem_ready.1 hm
   have hi := (Array.getElem?_eq_some_iff.1 ho).1
   have h2 := hall' i hi
   have hil : i < listed.size := by omega
   simp [Array.getD, hil] at h1 h2
   rw [h1] at h2; cases h2
 | succ fuel ih =>
  intro listed a c ρ w M ι κ rs hsz hleft hdf h hA hce
  have notIn : ∀ {p}, p < l.length → ¬ isIn l listed p → listed.getD (dsAt l p).op true = false := fun {p} hp hn => by
   have hil : (dsAt l p).op < listed.size := by have := Wcu hk hp; omega
   have : ¬ listed.getD (dsAt l p).op false = true := fun e => hn ⟨hp, e⟩
   simp [Array.getD, hil] at this ⊢
   exact this
  refine ⟨fun h0 => ?_, fun i hi => ?_⟩
  ·refine done listed a c ρ w M ι κ rs hdf (fun p => ?_) h hA hce
   induction p using Nat.strongRecOn with
   | _ p ihp =>
    intro hp
    refine Classical.byContradiction fun hn => ?_
    obtain ⟨o, ho, _⟩ := hk.step p hp
    have he := (Qra hk (listed := listed) hp ho).1 (fun q hq => ihp q (hk.edge p hp q hq) (by have := hk.edge p hp q hq; omega))
    have : (dsAt l p).op ∈ Region.ready .any ops listed := mem_ready.2 ⟨notIn hp hn, o, ho, he⟩
    rw [h0] at this
    cases this
  ·obtain ⟨h1, o, ho, h2⟩ := mem_ready.1 hi
   have hio := (Array.getElem?_eq_some_iff.1 ho).1
   have hpl := hk.all i hio
   have hop := Qyt hk hio
   generalize place l i = p at hpl hop
   subst hop
   have hn : ¬ isIn l listed p := fun e => by
    have hil : (dsAt l p).op < listed.size := by omega
    have e2 := e.2
    simp [Array.getD, hil] at h1 e2
    rw [h1] at e2; cases e2
   have hd : ∀ q ∈ dp.getD p [], isIn l listed q := Wct hk (L := isIn l listed) (fun q hq hql r hr => h.cl.dep q hq r (hk.sub q hql r hr)) p hpl ((Qra hk hpl ho).2 h2)
   have hset := Qyu hk hsz hpl
   have hsz' : (listed.setIfInBounds (dsAt l p).op true).size = ops.size := by rw [Array.size_setIfInBounds]; exact hsz
   have hleft' : left ops.size (listed.setIfInBounds (dsAt l p).op true) ≤ fuel := by
    have : left ops.size (listed.setIfInBounds (dsAt l p).op true) + 1 ≤ left ops.size listed := by
     unfold left
     refine Qj0 (i := (dsAt l p).op) _ (fun x _ hx => ?_) (List.mem_range.2 hio) ?_ ?_
     ·cases hxl : listed.getD x false
      ·rfl
      ·rw [getD_set_true hxl] at hx; cases hx
     ·have : ¬ listed.getD (dsAt l p).op false = true := fun e => hn ⟨hpl, e⟩
      simpa using this
     ·have := congrFun hset p
      have hin : isIn l (listed.setIfInBounds (dsAt l p).op true) p := by rw [this]; exact .inr rfl
      rw [hin.2]; rfl
    omega
   have hGc : GOK G M ι := hG0.mono hA.ext.m hA.ext.i
   have next : ∀ a' w' M' ι' κ' ρ', a'.defers = a.defers → Ext (XR X (isIn l listed) c rs) M ι w M' ι' w' → (∀ o, o < (S c).length → rdAt G l R S p ≠ .made o → ι' o = ι o) → HK ι w w' → pend (isIn l listed) c p →
     Inv G l dp R S X (also (isIn l listed) p) c a'.tmps.toList ρ' w' M' ι' κ' rs → wpAny P .any ops Q fuel (listed.setIfInBounds (dsAt l p).op true) a' w' := by
    intro a' w' M' ι' κ' ρ' hdf' hx hdom hh hp' hinv
    have hA' := hA.ran hp' hx hdom hh
    rw [← hset] at hinv hA'
    exact ih _ a' c ρ' w' M' ι' κ' rs hsz' hleft' (hdf'.trans hdf) hinv hA' hce
   rcases Nat.lt_trichotomy p c with hpc | hpc | hpc
   ·have hp : pend (isIn l listed) c p := ⟨hpc, hn⟩
    have hdl : dly (dsAt l p).s.ins = true := by
     cases hq : dly (dsAt l p).s.ins with
     | true => rfl
     | false => exact absurd (h.eff p hpc hq) hn
    have hcase := Qjy hk hc hpl hdl
    cases hcase with
    | none g1 g2 => exact h.exec_same hk hc hGc hp hd hdl g1 (fun o off e => by rw [g2] at e; cases e) (fun o e => by rw [g2] at e; cases e) (fun a' w' M' ι' κ' ρ' q1 q2 q3 q4 q5 => next a' w' M' ι' κ' ρ' q1 q2 q3 q4 hp q5)
    | same ex o off n g1 g2 => exact h.exec_same hk hc hGc hp hd hdl g1 (fun o off e => by rw [g2] at e; cases e) (fun o e => by rw [g2] at e; cases e) (fun a' w' M' ι' κ' ρ' q1 q2 q3 q4 q5 => next a' w' M' ι' κ' ρ' q1 q2 q3 q4 hp q5)
    | took o off cs xs s g1 g2 g3 g4 => exact h.exec_took hk hc hGc hp hd hdl g4 (fun a' w' M' ι' κ' ρ' q1 q2 q3 q4 q5 => next a' w' M' ι' κ' ρ' q1 q2 q3 q4 hp q5)
    | made cs g1 g2 => exact h.exec_made hk hc hGc hp hd hdl g2 (fun a' w' M' ι' κ' ρ' q1 q2 q3 q4 q5 => next a' w' M' ι' κ' ρ' q1 q2 q3 q4 hp q5)
   ·subst hpc
    refine h.effect hk hc hGc hS hA hpl hd (hce hpl) fun a' w' M' ι' κ' ρ' hdf' hinv hA' => ?_
    obtain ⟨c', κ'', rs', hinv', hA'', hce'⟩ := adv hk hc _ _ _ _ rfl hinv hA'
    rw [← hset] at hinv' hA''
    exact ih _ a' c' ρ' w' M' ι' κ'' rs' hsz' hleft' (hdf'.trans hdf) hinv' hA'' hce'
   ·exfalso
    have hcl : c < l.length := by omega
    rcases hk.pair p hpl c hpc with hm | ⟨_, hm, _⟩
    ·have := h.lt c (hd c hm); omega
    ·rw [hce hcl] at hm; cases hm
end
end Go.Ev
namespace Go.Ev
open Go
section
variable {P : Program} {ops : Array Oper} {l : List DS} {G : GV} {call : FuncId → List V → Objs → Option (V × Objs)} {Q : Exit → Act → World → Prop}
variable {X : Nat → Prop} {ρ : List V} {σ : Objs} {w : World} {M : Mem} {ι : Plc} {κ : Own} {a : Act}
theorem Wcv (n : Nat) (listed : Array Bool) : left n listed ≤ n := by
 unfold left
 have := List.countP_le_length (p := fun i => !listed.getD i false) (l := List.range n)
 simpa using this
theorem Qu2 (hm : P.follows .mixedOrders = true) (hS : ∀ f, Sound P G f (call f)) (h : St M ι X κ w a.tmps.toList ρ σ) (hG : GOK G M ι) {id : Nat} (hc : Qq8 P ops l = true) {ρ' : List V} {σ' : Objs}
  (he : Qgh G call [] l ρ σ = some (ρ', σ')) (hQ : ∀ a' w', Got a M ι X w σ ρ' σ' a' w' → Q .normal a' w') : (Code.region id ops true).wp P Q a w := by
 obtain ⟨dp, hk⟩ := Qut hc
 obtain ⟨R, S, hR, hS0, hRn, hSn, htr⟩ := Qq9 G call l [] ρ σ ρ' σ' he
 have hcn := Qys hk htr
 have hnone : ∀ p, ¬ isIn l (Array.replicate ops.size false) p := fun p hp => by
  have := hp.2
  simp [Array.getD_eq_getD_getElem?, Array.getElem?_replicate] at this
  split at this <;> simp at this
 have hpend : ∀ p, ¬ pend (isIn l (Array.replicate ops.size false)) 0 p := fun p hp => by have := hp.1; omega
 have hX : ∀ b, XR X (isIn l (Array.replicate ops.size false)) 0 (fun _ => none) b → X b := fun b hb => by
  rcases hb with hb | ⟨p, hp, _⟩
  ·exact hb
  ·exact absurd hp (hpend p)
 have hinv : Inv G l dp R S X (isIn l (Array.replicate ops.size false)) 0 a.tmps.toList ρ { w with drawn := w.drawn + 1 } M ι κ (fun _ => none) := by
  refine ⟨by omega, ⟨fun p hp => hp.1, fun p hp => absurd hp (hnone p)⟩, fun p hp => absurd hp (hnone p), fun p hp => by omega, ⟨by rw [hR], fun t m hmn h1 h2 => ?_⟩, by rw [hS0]; exact h.drew.lessX hX,
   fun p b hp => absurd hp (hpend p), fun p q b hp => absurd hp (hpend p), fun p hp => absurd hp (hpend p), fun p hp => absurd hp (hpend p), fun p o hp => absurd hp (hpend p), fun p q o hp => absurd hp (hpend p), fun p o off hp => absurd hp (hpend p)⟩
  have key : ∀ m, m ≤ l.length → (∀ q, q < m → t ∉ (dsAt l q).s.wr) → (R m)[t]? = (R 0)[t]? := by
   intro m
   induction m with
   | zero => intro _ _; rfl
   | succ m ih =>
    intro hml hno
    rw [(hcn.frame (by omega : m < l.length)).2 t (hno m (by omega))]
    exact ih (by omega) (fun q hq => hno q (by omega))
  rw [key m hmn (fun q hq hw => hnone q (h1 q hq hw)), hR]
 have hacc : Acc G l R S X (isIn l (Array.replicate ops.size false)) 0 M ι w M ι { w with drawn := w.drawn + 1 } :=
  ⟨Ext.drew .., Kp.same _ _ (fun _ _ _ => rfl), fun p o hp => absurd hp (hpend p)⟩
 obtain ⟨c, κ', rs', hinv', hacc', hce⟩ := adv hk hcn _ _ _ _ rfl hinv hacc
 refine wp_region_any hm ?_
 refine Qu1 hk hcn hS hG (df := a.defers) (fun a' w' M' ι' κ'' hd hx hkp hst => ?_) ops.size _ a c ρ _ M ι κ' rs' (by simp) (Wcv _ _) rfl hinv' hacc' hce
 rw [hRn, hSn] at hst
 rw [hS0, hSn] at hkp
 exact hQ a' w' ⟨hd, M', ι', κ'', hx, hkp, hst⟩
end
end Go.Ev
namespace Go.Ev
open Go
theorem Qgz {n : Nat} : ∀ {xs : List V}, V.rbs n xs = true ↔ ∀ x ∈ xs, V.rb n x = true
 | [] => by simp [V.rbs]
 | x :: xs => by simp [V.rbs, Qgz (xs := xs)]
theorem Qfg {n i : Nat} {xs : List V} {x : V} (h : V.rbs n xs = true) (hx : xs[i]? = some x) : V.rb n x = true := Qgz.1 h x (List.mem_of_getElem? hx)
theorem Qrb {n : Nat} {x : V} (h : V.rb n x = true) : V.rbs n x.cells = true := by
 cases x <;> first | (simpa [V.cells, V.rb] using h) | (simp only [V.cells, V.rbs, Bool.and_true]; exact h)
theorem Qyv {n : Nat} {xs : List V} (h : V.rbs n xs = true) : V.rbs n (xs.flatMap V.cells) = true := Qgz.2 fun y hy => by
 obtain ⟨x, hx, hy⟩ := List.mem_flatMap.1 hy
 exact Qgz.1 (Qrb (Qgz.1 h x hx)) y hy
section
variable {M M' : Mem} {ι ι' : Plc} {n : Nat}
theorem Rep.rb (hm : MemLe M M') (hi : ∀ o b, o < n → ι o = some b → ι' o = some b) {v : Value} {x : V} (h : Rep M ι v x) : V.rb n x = true → Rep M' ι' v x := by
 induction h with
 | any v => intro _; exact .any v
 | undef => intro _; exact .undef
 | bool b => intro _; exact .bool b
 | int k m => intro _; exact .int k m
 | str s l h => intro _; exact .str s l h
 | nilp => intro _; exact .nilp
 | ptr o off b h => intro hr; exact .ptr o off b (hi o b (by simpa [V.rb] using hr) h)
 | eptr cs off b base us hl hmm hr ih =>
  intro hrb
  simp only [V.rb] at hrb
  exact .eptr cs off b base us hl (fun i u hu => hm.le _ _ _ (hmm i u hu)) (fun i u c hu hc => ih i u c hu hc (Qfg hrb hc))
 | nils => intro _; exact .nils
 | sl xs c b off cap sz us hs hl hmm hr hcap hfx ih =>
  intro hrb
  simp only [V.rb] at hrb
  exact .sl xs c b off cap sz us hs hl (fun i u hu => hm.le _ _ _ (hmm i u hu)) (fun i u c hu hc => ih i u c hu hc (Qfg (Qyv hrb) hc)) hcap hfx
 | sl0 a c hg => intro _; exact .sl0 a c hg
 | hs o off len sz ag b cap h hc => intro hr; exact .hs o off len sz ag b cap (hi o b (by simpa [V.rb] using hr) h) hc
 | agg vs cs hl hr ih =>
  intro hrb
  simp only [V.rb] at hrb
  exact .agg vs cs hl (fun i v c hv hc => ih i v c hv hc (Qfg hrb hc))
 | tup vs cs hl hr ih =>
  intro hrb
  simp only [V.rb] at hrb
  exact .tup vs cs hl (fun i v c hv hc => ih i v c hv hc (Qfg hrb hc))
 | ifc t v x h ih => intro hrb; simp only [V.rb] at hrb; exact .ifc t v x (ih hrb)
 | nili => intro _; exact .nili
 | fn f as bs first caps ha hb hra hrb iha ihb =>
  intro hr
  simp only [V.rb, Bool.and_eq_true] at hr
  exact .fn f as bs first caps ha hb (fun i v c hv hc => iha i v c hv hc (Qfg hr.1 hc)) (fun i v c hv hc => ihb i v c hv hc (Qfg hr.2 hc))
 | nilf => intro _; exact .nilf
 | mp o r h => intro hr; exact .mp o r (hi o r (by simpa [V.rb] using hr) h)
 | nilm => intro _; exact .nilm
end
end Go.Ev
namespace Go.Ev
open Go
theorem Qc1 {α β : Type} {g : α → Option β} : ∀ {xs : List α} {ys : List β}, xs.mapM g = some ys → ys.length = xs.length ∧ ∀ (i : Nat) x y, xs[i]? = some x → ys[i]? = some y → g x = some y
 | [], ys, h => by
  simp at h
  subst h
  exact ⟨rfl, fun i x y hx => by simp at hx⟩
 | x :: xs, ys, h => by
  simp only [List.mapM_cons, Option.bind_eq_bind, Option.bind_eq_some_iff] at h
  obtain ⟨y, hy, zs, hzs, he⟩ := h
  cases he
  obtain ⟨h1, h2⟩ := Qc1 hzs
  refine ⟨by simp [h1], fun i a b ha hb => ?_⟩
  cases i with
  | zero => simp at ha hb; subst ha hb; exact hy
  | succ i => exact h2 i a b (by simpa using ha) (by simpa using hb)
theorem Qma {α β : Type} {g : α → Option β} {xs : List α} {ys : List β} (h : xs.mapM g = some ys) {y : β} (hy : y ∈ ys) : ∃ x ∈ xs, g x = some y := by
 obtain ⟨h1, h2⟩ := Qc1 h
 obtain ⟨i, hi⟩ := List.mem_iff_getElem?.1 hy
 have hlt : i < xs.length := by rw [← h1]; exact (List.getElem?_eq_some_iff.1 hi).1
 exact ⟨xs[i], List.getElem_mem hlt, h2 i _ _ (List.getElem?_eq_getElem hlt) hi⟩
section
variable {M M' : Mem} {ι ι' : Plc} {X : Nat → Prop} {κ : Own} {w : World} {σ : Objs} {n : Nat}
structure Fz (M : Mem) (ι : Plc) (M' : Mem) (ι' : Plc) (x y : V) : Prop where
 rep : ∀ v, Rep M ι v x → Rep M' ι' v y
 len : y.cells.length = x.cells.length
 cells : ∀ us, Reps M ι us x.cells → Reps M' ι' us y.cells
 own : ∀ v, ownB v y = ownB v x
 one : y.one = x.one
 lk : y.isLk = x.isLk
 sl : ∀ ys c, y = .sl ys c → c ≠ .no → ∃ xs, x = .sl xs c ∧ (ys.flatMap V.cells).length = (xs.flatMap V.cells).length ∧ ∀ sz, (∀ z ∈ xs, z.cells.length = sz) → ∀ z ∈ ys, z.cells.length = sz
theorem Qg0 {g : V → Option V} (hg : ∀ x y, g x = some y → Fz M ι M' ι' x y) {xs ys : List V} (h : xs.mapM g = some ys) {us : List Value} (hr : Reps M ι us xs) : Reps M' ι' us ys := by
 obtain ⟨h1, h2⟩ := Qc1 h
 refine ⟨by rw [h1]; exact hr.1, fun i u y hu hy => ?_⟩
 obtain ⟨x, hx, hrx⟩ := hr.get' hu
 exact (hg x y (h2 i x y hx hy)).rep u hrx
theorem Qps {g : V → Option V} (hg : ∀ x y, g x = some y → Fz M ι M' ι' x y) : ∀ {xs ys : List V}, xs.mapM g = some ys → ∀ {us : List Value}, Reps M ι us (xs.flatMap V.cells) → Reps M' ι' us (ys.flatMap V.cells)
 | [], ys, h, us, hr => by
  simp at h
  subst h
  have : us = [] := List.length_eq_zero_iff.1 (by simpa using hr.1)
  subst this
  exact Reps.nil
 | x :: xs, ys, h, us, hr => by
  simp only [List.mapM_cons, Option.bind_eq_bind, Option.bind_eq_some_iff] at h
  obtain ⟨y, hy, zs, hzs, he⟩ := h
  cases he
  simp only [List.flatMap_cons] at hr ⊢
  have h1 := hr.take x.cells.length
  have h2 := hr.drop x.cells.length
  rw [List.take_left] at h1
  rw [List.drop_left] at h2
  have := ((hg x y hy).cells _ h1).append (Qps hg hzs h2)
  rwa [List.take_append_drop] at this
theorem Qj1 {g : V → Option V} (hg : ∀ x y, g x = some y → Fz M ι M' ι' x y) : ∀ {xs ys : List V}, xs.mapM g = some ys → (ys.flatMap V.cells).length = (xs.flatMap V.cells).length
 | [], ys, h => by
  simp at h
  subst h
  rfl
 | x :: xs, ys, h => by
  simp only [List.mapM_cons, Option.bind_eq_bind, Option.bind_eq_some_iff] at h
  obtain ⟨y, hy, zs, hzs, he⟩ := h
  cases he
  simp only [List.flatMap_cons, List.length_append, (hg x y hy).len, Qj1 hg hzs]
theorem Wcw (h : Wd M ι X κ w σ) (hm : MemLe M M') (hi : ∀ o b, o < n → ι o = some b → ι' o = some b) (hc : ∀ o b, n ≤ o → ι o = some b → ∀ i u, w.cell? ⟨b, i, none⟩ = some u → M' b i = some u) :
  ∀ (f : Nat) (x y : V), fz n σ f x = some y → Fz M ι M' ι' x y := by
 have same : ∀ x, V.rb n x = true → Fz M ι M' ι' x x := fun x hx => ⟨fun v hr => hr.rb hm hi hx, rfl, fun us hr => ⟨hr.1, fun i u c hu hcc => (hr.2 i u c hu hcc).rb hm hi (Qfg (Qrb hx) hcc)⟩, fun _ => rfl, rfl, rfl, fun ys c e _ => ⟨ys, e, rfl, fun _ hz => hz⟩⟩
 intro f
 induction f with
 | zero =>
  intro x y hf
  simp only [fz] at hf
  split at hf
  ·rename_i hx; cases hf; exact same x hx
  ·cases hf
 | succ f ih =>
  intro x y hf
  simp only [fz] at hf
  split at hf
  ·rename_i hx; cases hf; exact same x hx
  ·rename_i hrb
   have single : x.cells = [x] → y.cells = [y] → (∀ v, Rep M ι v x → Rep M' ι' v y) → (∀ v, ownB v y = ownB v x) → y.one = x.one → y.isLk = x.isLk → (∀ ys c, y = .sl ys c → c ≠ .no → ∃ xs, x = .sl xs c ∧ (ys.flatMap V.cells).length = (xs.flatMap V.cells).length ∧ ∀ sz, (∀ z ∈ xs, z.cells.length = sz) → ∀ z ∈ ys, z.cells.length = sz) → Fz M ι M' ι' x y := fun hx hy hr ho h1 hk hs =>
    ⟨hr, by rw [hx, hy]; rfl, fun us hus => by
     rw [hx] at hus; rw [hy]
     refine ⟨hus.1, fun i u c hu hcc => ?_⟩
     cases i with
     | zero => simp at hcc; subst hcc; exact hr u (hus.2 0 u x hu rfl)
     | succ i => simp at hcc, ho, h1, hk, hs⟩
   split at hf
   ·
    rename_i o off
    simp only [Option.bind_eq_bind, Option.bind_eq_some_iff] at hf
    obtain ⟨cs, hcs, ds, hds, he⟩ := hf
    cases he
    refine single rfl rfl (fun v hv => ?_) (fun v => by unfold ownB; split <;> simp_all) rfl rfl (fun ys c e hn => by first | (cases e; done) | (cases e; exact absurd rfl hn))
    obtain ⟨b, rfl, hib⟩ := hv.inv_ptr
    have hno : n ≤ o := by simpa [V.rb] using hrb
    obtain ⟨O, hO, hor⟩ := h.obj o b hib
    rw [Qbh hcs] at hO; cases hO
    obtain ⟨ws, T, fzz, hb, hr2, _, _, _⟩ := hor
    have hr3 := Qg0 ih hds hr2
    have := Rep.eptr (M := M') (ι := ι') ds off b 0 (ws.toList.take cs.length) hr3.1 (fun i u hu => by
     refine hc o b hno hib (0 + i) u ?_
     rw [Qcm hb, Nat.zero_add]
     rw [List.getElem?_take] at hu
     split at hu
     ·simpa using hu
     ·cases hu) hr3.2
    simpa using this
   ·
    rename_i o off len sz ag
    simp only [Option.bind_eq_bind, Option.bind_eq_some_iff] at hf
    obtain ⟨cs, hcs, xs, hxs, ys, hys, he⟩ := hf
    cases he
    refine single rfl rfl (fun v hv => ?_) (fun v => by unfold ownB; split <;> simp_all) rfl rfl (fun ys c e hn => by first | (cases e; done) | (cases e; exact absurd rfl hn))
    obtain ⟨b, cap, rfl, hib, hlc⟩ := hv.inv_hs
    have hno : n ≤ o := by simpa [V.rb] using hrb
    obtain ⟨O, hO, hor⟩ := h.obj o b hib
    rw [Qbh hcs] at hO; cases hO
    obtain ⟨ws, T, fzz, hb, hr2, _, _, hone⟩ := hor
    obtain ⟨k1, k2, k3⟩ := Qev hone _ _ _ hxs
    have hr3 : Reps M ι (((ws.toList.take cs.length).drop off).take (len * sz)) (xs.flatMap V.cells) := by
     rw [k2]; exact ((hr2.drop off).take (len * sz)).ng
    have hr4 := Qps ih hys hr3
    have hyl : ys.length = len := by rw [(Qc1 hys).1, k1]
    have := Rep.sl (M := M') (ι := ι') ys .no b off cap sz _ (fun y hy => by
     obtain ⟨x, hx, hxy⟩ := Qma hys hy
     rw [(ih x y hxy).len]; exact k3 x hx) hr4.1 (fun i u hu => by
     refine hc o b hno hib (off + i) u ?_
     rw [Qcm hb]
     rw [List.getElem?_take] at hu
     split at hu
     ·rw [List.getElem?_drop, List.getElem?_take] at hu
      split at hu
      ·simpa using hu
      ·cases hu
     ·cases hu) hr4.2 (by omega) (fun e => by cases e)
    rwa [hyl] at this
   ·
    rename_i cs off
    simp only [Option.bind_eq_bind, Option.bind_eq_some_iff] at hf
    obtain ⟨ds, hds, he⟩ := hf
    cases he
    refine single rfl rfl (fun v hv => ?_) (fun v => by unfold ownB; split <;> simp_all) rfl rfl (fun ys c e hn => by first | (cases e; done) | (cases e; exact absurd rfl hn))
    cases hv with
    | eptr _ _ b base us hl hmm hr =>
     have hr3 := Qg0 ih hds (us := us) ⟨hl, hr⟩
     exact .eptr ds off b base us hr3.1 (fun i u hu => hm.le _ _ _ (hmm i u hu)) hr3.2
   ·
    rename_i xs c
    simp only [Option.bind_eq_bind, Option.bind_eq_some_iff] at hf
    obtain ⟨ys, hys, he⟩ := hf
    cases he
    refine single rfl rfl (fun v hv => ?_) (fun v => by cases c <;> cases v <;> first | rfl | (rename_i p _ _; cases p <;> rfl)) rfl (by cases c <;> rfl) (fun zs c' e _ => by
     cases e
     exact ⟨xs, rfl, Qj1 ih hys, fun sz hz y hy => by
      obtain ⟨x, hx, hxy⟩ := Qma hys hy
      rw [(ih x y hxy).len]; exact hz x hx⟩)
    cases hv with
    | sl _ _ b off cap sz us hs hl hmm hr hcap hfx =>
     have hr3 := Qps ih hys (us := us) ⟨hl, hr⟩
     have hyl := (Qc1 hys).1
     have := Rep.sl (M := M') (ι := ι') ys c b off cap sz us (fun y hy => by
      obtain ⟨x, hx, hxy⟩ := Qma hys hy
      rw [(ih x y hxy).len]; exact hs x hx) hr3.1 (fun i u hu => hm.le _ _ _ (hmm i u hu)) hr3.2 (by omega) (fun e => by rw [hyl]; exact hfx e)
     rwa [hyl] at this
    | sl0 a _ hg =>
     obtain rfl : ys = [] := by simpa using hys
     exact .sl0 a c hg
   ·
    rename_i cs
    simp only [Option.bind_eq_bind, Option.bind_eq_some_iff] at hf
    obtain ⟨ds, hds, he⟩ := hf
    cases he
    refine ⟨fun v hv => ?_, (Qc1 hds).1, fun us hus => Qg0 ih hds hus, fun v => by unfold ownB; split <;> simp_all, rfl, rfl, fun ys c e _ => by cases e⟩
    cases hv with
    | agg vs _ hl hr =>
     exact Rep.agg_iff.2 (Qg0 ih hds (Rep.agg_iff.1 (.agg vs cs hl hr)))
   ·
    rename_i cs
    simp only [Option.bind_eq_bind, Option.bind_eq_some_iff] at hf
    obtain ⟨ds, hds, he⟩ := hf
    cases he
    refine single rfl rfl (fun v hv => ?_) (fun v => by unfold ownB; split <;> simp_all) rfl rfl (fun ys c e hn => by first | (cases e; done) | (cases e; exact absurd rfl hn))
    cases hv with
    | tup vs _ hl hr =>
     have hr3 := Qg0 ih hds (us := vs.toList) ⟨by simpa using hl, fun i u x hu hx => hr i u x (by simpa using hu) hx⟩
     exact .tup vs ds (by simpa using hr3.1) (fun i u x hu hx => hr3.2 i u x (by simpa using hu) hx)
   ·
    rename_i t z
    simp only [Option.bind_eq_bind, Option.bind_eq_some_iff] at hf
    obtain ⟨z', hz, he⟩ := hf
    cases he
    refine single rfl rfl (fun v hv => ?_) (fun v => by unfold ownB; split <;> simp_all) rfl rfl (fun ys c e hn => by first | (cases e; done) | (cases e; exact absurd rfl hn))
    cases hv with
    | ifc _ v' _ hr => exact .ifc t v' z' ((ih z z' hz).rep v' hr)
   ·
    rename_i g p q
    simp only [Option.bind_eq_bind, Option.bind_eq_some_iff] at hf
    obtain ⟨p', hp, q', hq, he⟩ := hf
    cases he
    refine single rfl rfl (fun v hv => ?_) (fun v => by unfold ownB; split <;> simp_all) rfl rfl (fun ys c e hn => by first | (cases e; done) | (cases e; exact absurd rfl hn))
    cases hv with
    | fn _ as bs _ _ ha hb hra hrb =>
     have h1 := Qg0 ih hp (us := as.toList) ⟨by simpa using ha, fun i u x hu hx => hra i u x (by simpa using hu) hx⟩
     have h2 := Qg0 ih hq (us := bs.toList) ⟨by simpa using hb, fun i u x hu hx => hrb i u x (by simpa using hu) hx⟩
     exact .fn g as bs p' q' (by simpa using h1.1) (by simpa using h2.1) (fun i u x hu hx => h1.2 i u x (by simpa using hu) hx) (fun i u x hu hx => h2.2 i u x (by simpa using hu) hx)
   ·cases hf
end
end Go.Ev
namespace Go.Ev
open Go
section
variable {M M' : Mem} {ι ι' ι0 : Plc} {X : Nat → Prop} {κ : Own} {w : World} {us : List Value} {ρ : List V} {σ : Objs} {n : Nat}
def Fz1 (M : Mem) (ι : Plc) (M' : Mem) (ι' : Plc) (x y : V) : Prop := y = .any ∨ Fz M ι M' ι' x y
theorem Qfh (hg : ∀ x y, fz n σ fzD x = some y → Fz M ι M' ι' x y) {live : List Nat} : ∀ (i : Nat) (ρ ρ' : List V), Qas n σ live i ρ = some ρ' → ρ'.length = ρ.length ∧ ∀ (j : Nat) x y, ρ[j]? = some x → ρ'[j]? = some y → Fz1 M ι M' ι' x y
 | i, [], ρ', h => by
  simp only [Qas, Option.some.injEq] at h
  subst h
  exact ⟨rfl, fun j x y hx => by simp at hx⟩
 | i, x :: xs, ρ', h => by
  have h' : ∃ y ys, (y = .any ∨ fz n σ fzD x = some y) ∧ Qas n σ live (i + 1) xs = some ys ∧ ρ' = y :: ys := by
   simp only [Qas] at h
   split at h
   ·simp only [Option.bind_eq_bind, Option.bind_eq_some_iff] at h
    obtain ⟨y, hy, ys, hys, he⟩ := h
    cases he
    exact ⟨y, ys, .inr hy, hys, rfl⟩
   ·simp only [Option.bind_eq_bind, Option.bind_eq_some_iff] at h
    obtain ⟨y, hy, ys, hys, he⟩ := h
    cases he
    cases hy
    exact ⟨_, ys, .inl rfl, hys, rfl⟩
  obtain ⟨y, ys, hy, hys, rfl⟩ := h'
  obtain ⟨h1, h2⟩ := Qfh hg (i + 1) xs ys hys
  refine ⟨by simp [h1], fun j a b ha hb => ?_⟩
  cases j with
  | zero =>
   simp at ha hb
   subst ha hb
   exact hy.imp id (hg _ _)
  | succ j => exact h2 j a b (by simpa using ha) (by simpa using hb)
theorem Qnz (hsame : ∀ x, V.rb n x = true → Fz M ι M' ι' x x) (hg : ∀ x y, fz n σ fzD x = some y → Fz M ι M' ι' x y) {cs : List V} {O' : O} (h : fzO n σ (.cells cs) = some O') :
  ∃ ds, O' = .cells ds ∧ ds.length = cs.length ∧ ∀ (i : Nat) c d, cs[i]? = some c → ds[i]? = some d → Fz M ι M' ι' c d := by
 simp only [fzO] at h
 split at h
 ·rename_i hrb
  cases h
  exact ⟨cs, rfl, rfl, fun i c d hc hd => by rw [hc] at hd; cases hd; exact hsame c (Qfg hrb hc)⟩
 ·rw [Option.map_eq_some_iff] at h
  obtain ⟨ds, hds, rfl⟩ := h
  obtain ⟨h1, h2⟩ := Qc1 hds
  exact ⟨ds, rfl, h1, fun i c d hc hd => hg c d (h2 i c d hc hd)⟩
open Classical in
noncomputable def cutM (M : Mem) (ι : Plc) (w : World) (n : Nat) : Mem := fun b i => if ∃ o, n ≤ o ∧ ι o = some b then w.cell? ⟨b, i, none⟩ else M b i
theorem St.cut (h : St M ι X κ w us ρ σ) (h0 : ∀ o, o < n → ι0 o = ι o) (h1 : ∀ o, n ≤ o → ι0 o = none) {live : List Nat} {ρ' : List V} {σ' : Objs} (hs : Qas n σ live 0 ρ = some ρ') (ho : cuO n σ = some σ') :
  MemLe M (cutM M ι w n) ∧ (∀ b i, X b → cutM M ι w n b i = M b i) ∧ St (cutM M ι w n) ι0 X κ w us ρ' σ' ∧ (∀ o i, lkAt σ' o i → lkAt σ o i) ∧ σ'.length = min n σ.length := by
 have hm : MemLe M (cutM M ι w n) := ⟨fun b i u hu => by
  unfold cutM
  split
  ·exact h.wd.mem b i u hu
  ·exact hu⟩
 have hi : ∀ o b, o < n → ι o = some b → ι0 o = some b := fun o b hlt e => by rw [h0 o hlt]; exact e
 have hback : ∀ o b, ι0 o = some b → o < n ∧ ι o = some b := fun o b e => by
  rcases Nat.lt_or_ge o n with hlt | hge
  ·exact ⟨hlt, by rw [← h0 o hlt]; exact e⟩
  ·rw [h1 o hge] at e; cases e
 have hg : ∀ x y, fz n σ fzD x = some y → Fz M ι (cutM M ι w n) ι0 x y := Wcw h.wd hm hi (fun o b hno hb i u hu => by
  unfold cutM
  rw [if_pos ⟨o, hno, hb⟩]; exact hu) fzD
 have hsame : ∀ x, V.rb n x = true → Fz M ι (cutM M ι w n) ι0 x x := fun x hx => Wcw h.wd hm hi (fun o b hno hb i u hu => by
  unfold cutM
  rw [if_pos ⟨o, hno, hb⟩]; exact hu) 0 x x (by simp [fz, hx])
 have hX : ∀ b i, (∀ o, n ≤ o → ι o ≠ some b) → cutM M ι w n b i = M b i := fun b i hn => by
  unfold cutM
  rw [if_neg (fun ⟨o, h1, h2⟩ => hn o h1 h2)]
 obtain ⟨hl, hsl⟩ := Qfh hg 0 ρ ρ' hs
 unfold cuO at ho
 obtain ⟨hol, hog⟩ := Qc1 ho
 have hobj : ∀ {o : Nat} {O' : O}, σ'[o]? = some O' → ∃ O, σ[o]? = some O ∧ fzO n σ O = some O' := fun {o O'} hO' => by
  have hlt : o < (σ.take n).length := by rw [← hol]; exact (List.getElem?_eq_some_iff.1 hO').1
  have hget := List.getElem?_eq_getElem hlt
  refine ⟨(σ.take n)[o], ?_, hog o _ _ hget hO'⟩
  rw [List.getElem?_take] at hget
  split at hget
  ·exact hget
  ·cases hget
 have hcells : ∀ {o : Nat} {ds : List V}, σ'[o]? = some (.cells ds) → ∃ cs, σ[o]? = some (.cells cs) ∧ ds.length = cs.length ∧ ∀ (i : Nat) c d, cs[i]? = some c → ds[i]? = some d → Fz M ι (cutM M ι w n) ι0 c d := fun {o ds} hd => by
  obtain ⟨O, hO, hf⟩ := hobj hd
  cases O with
  | cells cs =>
   obtain ⟨ds', he, q1, q2⟩ := Qnz hsame hg hf
   cases he
   exact ⟨cs, hO, q1, q2⟩
  | mp es => simp only [fzO] at hf; split at hf <;> cases hf
 have key : ∀ p v y, At ι0 w us ρ' σ' p v y → ∃ x, At ι w us ρ σ p v x ∧ Fz1 M ι (cutM M ι w n) ι0 x y := by
  intro p v y ha
  cases p with
  | s i =>
   obtain ⟨q1, q2⟩ := ha
   have hlt : i < ρ.length := by rw [← hl]; exact (List.getElem?_eq_some_iff.1 q2).1
   exact ⟨ρ[i], ⟨q1, List.getElem?_eq_getElem hlt⟩, hsl i _ _ (List.getElem?_eq_getElem hlt) q2⟩
  | c o i =>
   obtain ⟨b, ws, T, fzz, ds, q1, q2, q3, q4, q5⟩ := ha
   obtain ⟨cs, r1, r2, r3⟩ := hcells q3
   have hlt : i < cs.length := by rw [← r2]; exact (List.getElem?_eq_some_iff.1 q5).1
   exact ⟨cs[i], ⟨b, ws, T, fzz, cs, (hback o b q1).2, q2, r1, q4, List.getElem?_eq_getElem hlt⟩, .inr (r3 i _ _ (List.getElem?_eq_getElem hlt) q5)⟩
 refine ⟨hm, fun b i hb => hX b i fun o _ e => h.wd.xobj o b e hb, ⟨⟨fun b i u hu => ?_, fun o b hb => ?_, fun o b hb => h.wd.olt o b (hback o b hb).2, fun o o' b hb hb' => h.wd.inj o o' b (hback o b hb).2 (hback o' b hb').2, h.wd.xlt, fun o b hb => h.wd.xobj o b (hback o b hb).2, fun b p hp => ⟨(h.wd.kap b p hp).1, fun o e => (h.wd.kap b p hp).2.1 o (hback o b e).2, (h.wd.kap b p hp).2.2⟩⟩, ⟨by rw [hl]; exact h.rep.1, fun i u y hu hy => ?_⟩, fun p v y b ha hb => ?_, fun p v y ha => ?_⟩, fun o i hlk => ?_, by rw [hol, List.length_take]⟩
 ·unfold cutM at hu
  split at hu
  ·exact hu
  ·exact h.wd.mem b i u hu
 ·obtain ⟨hlt, hb'⟩ := hback o b hb
  obtain ⟨O, hO, hor⟩ := h.wd.obj o b hb'
  have hlt2 : o < σ'.length := by
   rw [hol, List.length_take]; have := (List.getElem?_eq_some_iff.1 hO).1; omega
  have hO' := List.getElem?_eq_getElem hlt2
  obtain ⟨O2, hO2, hf⟩ := hobj hO'
  rw [hO] at hO2; cases hO2
  refine ⟨σ'[o], hO', ?_⟩
  have hMb : ∀ i, cutM M ι w n b i = M b i := fun i => hX b i fun o' hge e => by
   have := h.wd.inj o o' b hb' e; omega
  cases O with
  | cells cs =>
   obtain ⟨ds, he, q1, q2⟩ := Qnz hsame hg hf
   rw [he]
   obtain ⟨ws, T, fzz, r1, r2, r3, r4, r5⟩ := hor
   refine ⟨ws, T, fzz, r1, ⟨by rw [q1]; exact r2.1, fun i u d hu hd => ?_⟩, fun i hi => r3 i (by omega), fun i => by rw [hMb]; exact r4 i, fun d hd => ?_⟩
   ·rw [q1] at hu
    obtain ⟨c, hc, hrc⟩ := r2.get' hu
    exact (q2 i c d hc hd).rep u hrc
   ·obtain ⟨i, hi⟩ := List.mem_iff_getElem?.1 hd
    have hlt3 : i < cs.length := by rw [← q1]; exact (List.getElem?_eq_some_iff.1 hi).1
    rw [(q2 i _ d (List.getElem?_eq_getElem hlt3) hi).one]
    exact r5 _ (List.getElem_mem hlt3)
  | mp es =>
   simp only [fzO] at hf
   split at hf
   ·rename_i hrb
    simp only [Bool.and_eq_true] at hrb
    have he : σ'[o] = .mp es := (Option.some.inj hf).symm
    rw [he]
    obtain ⟨en, clock, r1, r2, r3⟩ := hor
    refine ⟨en, clock, r1, r2, fun i e p he hp => ?_⟩
    obtain ⟨s1, s2⟩ := r3 i e p he hp
    have hp' := List.mem_of_getElem? hp
    exact ⟨s1.rb hm hi (Qgz.1 hrb.1 _ (List.mem_map.2 ⟨p, hp', rfl⟩)), s2.rb hm hi (Qgz.1 hrb.2 _ (List.mem_map.2 ⟨p, hp', rfl⟩))⟩
   ·cases hf
 ·have hlt : i < ρ.length := by rw [← hl]; exact (List.getElem?_eq_some_iff.1 hy).1
  rcases hsl i _ y (List.getElem?_eq_getElem hlt) hy with rfl | hfz
  ·exact .any u
  ·exact hfz.rep u (h.rep.2 i u _ hu (List.getElem?_eq_getElem hlt))
 ·obtain ⟨x, hx, hf⟩ := key p v y ha
  rcases hf with rfl | hf
  ·unfold ownB at hb; split at hb <;> simp_all
  ·rw [hf.own v] at hb
   exact h.own p v x b hx hb
 ·obtain ⟨x, hx, hf⟩ := key p v y ha
  rcases hf with rfl | hf
  ·exact ⟨fun xs s e => by cases e⟩
  ·refine ⟨fun ys s e a len cap hv => ?_⟩
   obtain ⟨xs, hxs, hfl, hsz⟩ := hf.sl ys (.gr s) e (by simp)
   obtain ⟨g1, g2, ws, T, fzz, g3, g4, g5⟩ := (h.gr p v x hx).ok xs s hxs a len cap hv
   have hk : κ a.block = some p := h.own p v x a.block hx (by rw [hxs, hv]; rfl)
   rw [hfl]
   exact ⟨hsz s g1, fun i hi' => by rw [hX a.block i fun o _ e => (h.wd.kap _ _ hk).2.1 o e]; exact g2 i hi', ws, T, fzz, g3, g4, g5⟩
 ·obtain ⟨ds, y, q1, q2, q3⟩ := hlk
  obtain ⟨cs, r1, r2, r3⟩ := hcells q1
  have hlt : i < cs.length := by rw [← r2]; exact (List.getElem?_eq_some_iff.1 q2).1
  exact ⟨cs, cs[i], r1, List.getElem?_eq_getElem hlt, by rw [← (r3 i _ y (List.getElem?_eq_getElem hlt) q2).lk]; exact q3⟩
end
end Go.Ev
namespace Go.Ev
open Go
def Wfp : Out → Exit
 | .norm => .normal
 | .ex id => .exit id
 | .ret => .ret
def Qic (P : Program) : Code → Cd → Bool
 | .skip, .skip => true
 | .ret, .ret => true
 | .exit id, .exit id' => id == id'
 | .region _ ops false, .ops _ ss => Qhh P ops ops.toList ss
 | .region _ ops true, .drw _ l => Qq8 P ops l
 | .seq a b, .seq a' b' => Qic P a a' && Qic P b b'
 | .cond c a b, .cond c' a' b' => Qat c c' && Qic P a a' && Qic P b b'
 | .block id b, .block id' b' => id == id' && Qic P b b'
 | .loop b, .loop _ _ b' => Qic P b b'
 | _, _ => false
section
variable {P : Program} {G : GV} {call : FuncId → List V → Objs → Option (V × Objs)} {X : Nat → Prop}
theorem Qu3 {c : Code} {Q : Exit → Act → World → Prop} (I : Nat → Act → World → Prop) (round : ∀ k a w, I (k + 1) a w → c.wp P (Exit.then (fun a' w' => I k a' w') Q) a w) (h0 : ∀ a w, ¬ I 0 a w) {k : Nat} {a : Act} {w : World} (h : I k a w) : (Code.loop c).wp P Q a w := by
 intro b kk cs
 have key : ∀ k a w, I k a w → ∃ e a' w', Q e a' w' ∧ Arrives P (lone (b.at a (.code c :: .inLoop c :: kk)) cs w) b kk cs e a' w' := by
  intro k
  induction k with
  | zero => intro a w hI; exact absurd hI (h0 a w)
  | succ k ih =>
   intro a w hI
   obtain ⟨e, a₁, w₁, hq, harr⟩ := round k a w hI b (.inLoop c :: kk) cs
   cases e with
   | normal =>
    obtain ⟨e₂, a₂, w₂, hq₂, harr₂⟩ := ih a₁ w₁ hq
    exact ⟨e₂, a₂, w₂, hq₂, .of_steps (Steps.trans harr (.one step_inLoop)) harr₂⟩
   | exit id => exact ⟨_, a₁, w₁, hq, .pass (x := .inLoop c) rfl (fun _ _ => .inl (by simp)) harr⟩
   | goto l => exact ⟨_, a₁, w₁, hq, .pass (x := .inLoop c) rfl (fun _ _ => .inl (by simp)) harr⟩
   | ret => exact ⟨_, a₁, w₁, hq, .pass (x := .inLoop c) rfl (fun _ _ => .inl (by simp)) harr⟩
   | panic ch => exact ⟨_, a₁, w₁, hq, .pass (x := .inLoop c) rfl (fun _ _ => .inl (by simp)) harr⟩
   | outgrown => exact ⟨_, a₁, w₁, hq, .pass (x := .inLoop c) rfl (fun _ _ => .inl (by simp)) harr⟩
 obtain ⟨e, a', w', hq, harr⟩ := key k a w h
 exact ⟨e, a', w', hq, .of_steps (.one step_loop) harr⟩
theorem St.cutS {M : Mem} {ι : Plc} {κ : Own} {w : World} {us : List Value} {ρ ρ' : List V} {σ : Objs} {n : Nat} {live : List Nat} (h : St M ι X κ w us ρ σ) (hn : σ.length ≤ n) (hs : Qas n σ live 0 ρ = some ρ') : St M ι X κ w us ρ' σ := by
 have hg : ∀ x y, fz n σ fzD x = some y → Fz M ι M ι x y := Wcw h.wd (MemLe.refl M) (fun o b _ e => e) (fun o b hno hb i u hu => by
  rw [h.wd.none_of_ge (Nat.le_trans hn hno)] at hb; cases hb) fzD
 obtain ⟨hl, hsl⟩ := Qfh hg 0 ρ ρ' hs
 have key : ∀ p v y, At ι w us ρ' σ p v y → ∃ x, At ι w us ρ σ p v x ∧ (x = y ∨ Fz1 M ι M ι x y) := by
  intro p v y ha
  cases p with
  | c o i => exact ⟨y, ha, .inl rfl⟩
  | s i =>
   obtain ⟨q1, q2⟩ := ha
   have hlt : i < ρ.length := by rw [← hl]; exact (List.getElem?_eq_some_iff.1 q2).1
   exact ⟨ρ[i], ⟨q1, List.getElem?_eq_getElem hlt⟩, .inr (hsl i _ _ (List.getElem?_eq_getElem hlt) q2)⟩
 refine ⟨h.wd, ⟨by rw [hl]; exact h.rep.1, fun i u y hu hy => ?_⟩, fun p v y b ha hb => ?_, fun p v y ha => ?_⟩
 ·have hlt : i < ρ.length := by rw [← hl]; exact (List.getElem?_eq_some_iff.1 hy).1
  rcases hsl i _ y (List.getElem?_eq_getElem hlt) hy with rfl | hfz
  ·exact .any u
  ·exact hfz.rep u (h.rep.2 i u _ hu (List.getElem?_eq_getElem hlt))
 ·obtain ⟨x, hx, hf⟩ := key p v y ha
  rcases hf with rfl | rfl | hf
  ·exact h.own p v x b hx hb
  ·unfold ownB at hb; split at hb <;> simp_all
  ·rw [hf.own v] at hb; exact h.own p v x b hx hb
 ·obtain ⟨x, hx, hf⟩ := key p v y ha
  rcases hf with rfl | rfl | hf
  ·exact h.gr p v x hx
  ·exact ⟨fun xs s e => by cases e⟩
  ·refine ⟨fun ys s e a len cap hv => ?_⟩
   obtain ⟨xs, hxs, hfl, hsz⟩ := hf.sl ys (.gr s) e (by simp)
   obtain ⟨g1, g2, g3⟩ := (h.gr p v x hx).ok xs s hxs a len cap hv
   rw [hfl]
   exact ⟨hsz s g1, g2, g3⟩
theorem Got.refl {M : Mem} {ι : Plc} {κ : Own} {w : World} {a : Act} {ρ : List V} {σ : Objs} (h : St M ι X κ w a.tmps.toList ρ σ) : Got a M ι X w σ ρ σ a w := ⟨rfl, M, ι, κ, Ext.refl .., Kp.refl .., h⟩
theorem Wjc (hm : P.follows .mixedOrders = true) (hS : ∀ f, Sound P G f (call f)) {fuel : Nat} : ∀ (cd : Cd) (code : Code), Qic P code cd = true → ∀ (Q : Exit → Act → World → Prop) (M : Mem) (ι : Plc) (κ : Own) (w : World) (a : Act) (ρ : List V) (σ : Objs) (out : Out) (ρ' : List V) (σ' : Objs),
  St M ι X κ w a.tmps.toList ρ σ → GOK G M ι → evCd G call fuel cd ρ σ = some (out, ρ', σ') → (∀ a' w', Got a M ι X w σ ρ' σ' a' w' → Q (Wfp out) a' w') → code.wp P Q a w := by
 intro cd
 induction cd with
 | skip =>
  intro code hc Q M ι κ w a ρ σ out ρ' σ' h hG he hQ
  cases code <;> (try (cases hc; done)) <;> (try (rename_i _ _ dr; cases dr <;> (cases hc; done)))
  cases he
  exact wp_skip (hQ _ _ (Got.refl h))
 | ret =>
  intro code hc Q M ι κ w a ρ σ out ρ' σ' h hG he hQ
  cases code <;> (try (cases hc; done)) <;> (try (rename_i _ _ dr; cases dr <;> (cases hc; done)))
  cases he
  exact wp_ret (hQ _ _ (Got.refl h))
 | exit id =>
  intro code hc Q M ι κ w a ρ σ out ρ' σ' h hG he hQ
  cases code <;> (try (cases hc; done)) <;> (try (rename_i _ _ dr; cases dr <;> (cases hc; done)))
  simp only [Qic, beq_iff_eq] at hc
  subst hc
  cases he
  exact wp_exit (hQ _ _ (Got.refl h))
 | ops k ss =>
  intro code hc Q M ι κ w a ρ σ out ρ' σ' h hG he hQ
  cases code <;> (try (cases hc; done))
  rename_i id ops dr
  cases dr <;> (try (cases hc; done))
  simp only [evCd, Option.map_eq_some_iff] at he
  obtain ⟨⟨r, s⟩, he, e⟩ := he
  cases e
  exact Quq hS h hG hc he hQ
 | drw k l =>
  intro code hc Q M ι κ w a ρ σ out ρ' σ' h hG he hQ
  cases code <;> (try (cases hc; done))
  rename_i id ops dr
  cases dr <;> (try (cases hc; done))
  simp only [evCd, Option.map_eq_some_iff] at he
  obtain ⟨⟨r, s⟩, he, e⟩ := he
  cases e
  exact Qu2 hm hS h hG hc he hQ
 | seq x y ihx ihy =>
  intro code hc Q M ι κ w a ρ σ out ρ' σ' h hG he hQ
  cases code <;> (try (cases hc; done)) <;> (try (rename_i _ _ dr; cases dr <;> (cases hc; done)))
  simp only [Qic, Bool.and_eq_true] at hc
  simp only [evCd] at he
  refine wp_seq ?_
  split at he
  ·rename_i r s hx
   refine ihx _ hc.1 _ M ι κ w a ρ σ .norm r s h hG hx fun a' w' hgot => ?_
   obtain ⟨hd, M', ι', κ', hxx, hk, hs⟩ := hgot
   exact ihy _ hc.2 Q M' ι' κ' w' a' r s out ρ' σ' hs (hG.mono hxx.m hxx.i) he fun a'' w'' hg => hQ _ _ (Got.trans hd hxx hk hg)
  ·rename_i hne
   refine ihx _ hc.1 _ M ι κ w a ρ σ out ρ' σ' h hG he fun a' w' hgot => ?_
   cases out with
   | norm => exact absurd he (hne ρ' σ')
   | ex id => exact hQ _ _ hgot
   | ret => exact hQ _ _ hgot
 | cond c x y ihx ihy =>
  intro code hc Q M ι κ w a ρ σ out ρ' σ' h hG he hQ
  cases code <;> (try (cases hc; done)) <;> (try (rename_i _ _ dr; cases dr <;> (cases hc; done)))
  simp only [Qic, Bool.and_eq_true] at hc
  have hv := (Opd.of_state h.rep hG).ok _ _ hc.1.1
  simp only [evCd] at he
  split at he
  ·rename_i hq
   rw [hq] at hv
   exact wp_cond_true hv.inv_bool (ihx _ hc.1.2 Q M ι κ w a ρ σ out ρ' σ' h hG he hQ)
  ·rename_i hq
   rw [hq] at hv
   exact wp_cond_false hv.inv_bool (ihy _ hc.2 Q M ι κ w a ρ σ out ρ' σ' h hG he hQ)
  ·cases he
 | block id x ih =>
  intro code hc Q M ι κ w a ρ σ out ρ' σ' h hG he hQ
  cases code <;> (try (cases hc; done)) <;> (try (rename_i _ _ dr; cases dr <;> (cases hc; done)))
  simp only [Qic, Bool.and_eq_true, beq_iff_eq] at hc
  obtain ⟨rfl, hc⟩ := hc
  refine wp_block ?_
  simp only [evCd] at he
  split at he
  ·rename_i i r s hx
   refine ih _ hc _ M ι κ w a ρ σ (.ex i) r s h hG hx fun a' w' hgot => ?_
   simp only [Wfp, Exit.inBlock]
   split at he
   ·rename_i hi; cases he; rw [if_pos hi]; exact hQ _ _ hgot
   ·rename_i hi; cases he; rw [if_neg hi]; exact hQ _ _ hgot
  ·rename_i hne
   refine ih _ hc _ M ι κ w a ρ σ out ρ' σ' h hG he fun a' w' hgot => ?_
   cases out with
   | norm => exact hQ _ _ hgot
   | ex i => exact absurd he (hne i ρ' σ')
   | ret => exact hQ _ _ hgot
 | loop lin lout x ih =>
  intro code hc Q M ι κ w a ρ σ out ρ' σ' h hG he hQ
  cases code <;> (try (cases hc; done)) <;> (try (rename_i _ _ dr; cases dr <;> (cases hc; done)))
  rename_i c
  simp only [Qic] at hc
  simp only [evCd, Option.bind_eq_bind, Option.bind_eq_some_iff] at he
  obtain ⟨ρ1, h1, h2⟩ := he
  have back : ∀ {a1 a2 : Act} {w1 w2 : World} {M1 : Mem} {s s' : Objs} {r' r2 : List V} {s2 : Objs} {live : List Nat}, a1.defers = a.defers → Ext X M ι w M1 ι w1 → Kp ι w σ ι w1 s → Got a1 M1 ι X w1 s r' s' a2 w2 → Qas σ.length s' live 0 r' = some r2 → cuO σ.length s' = some s2 →
    ∃ M2 κ2, a2.defers = a.defers ∧ Ext X M ι w M2 ι w2 ∧ Kp ι w σ ι w2 s2 ∧ St M2 ι X κ2 w2 a2.tmps.toList r2 s2 := by
   intro a1 a2 w1 w2 M1 s s' r' r2 s2 live hd hx hk hgot hcs hco
   obtain ⟨hd2, M2, ι2, κ2, hx2, hk2, hs2⟩ := hgot
   obtain ⟨c1, c2, c3, c4, c5⟩ := hs2.cut (n := σ.length) (ι0 := ι) (fun o ho => ((hk2.dom o (Nat.lt_of_lt_of_le ho hk.len))).symm) (fun o ho => h.wd.none_of_ge ho) hcs hco
   have hkk := hk.trans (PlcLe.refl ι) hk2
   have hxx := hx.trans hx2
   refine ⟨_, κ2, hd2.trans hd, ⟨hxx.m.trans c1, PlcLe.refl ι, fun b i hb => (c2 b i hb).trans (hxx.mX b i hb), hxx.size, hxx.keep, hxx.os, hxx.tape, hxx.output⟩, ⟨?_, fun _ _ => rfl, fun o b i hi hl => ?_⟩, c3⟩
   ·have := hkk.len; omega
   ·exact hkk.lk o b i hi (c4 o i hl)
  refine Qu3 (I := fun k a' w' => ∃ M' κ' r s, a'.defers = a.defers ∧ Ext X M ι w M' ι w' ∧ Kp ι w σ ι w' s ∧ St M' ι X κ' w' a'.tmps.toList r s ∧ Qi5 lin lout σ.length (evCd G call fuel x) k r s = some (out, ρ', σ')) (fun k a1 w1 hI => ?_) (fun a1 w1 hI => ?_) (k := fuel) ⟨M, κ, ρ1, σ, rfl, Ext.refl .., Kp.refl .., h.cutS (Nat.le_refl _) h1, h2⟩
  ·obtain ⟨M1, κ1, r, s, hd, hx, hk, hs, hl⟩ := hI
   simp only [Qi5] at hl
   split at hl
   ·cases hl
   ·rename_i r' s' hrd
    simp only [Option.bind_eq_bind, Option.bind_eq_some_iff] at hl
    obtain ⟨r2, hr2, s2, hs2, hl⟩ := hl
    refine ih _ hc _ M1 ι κ1 w1 a1 r s .norm r' s' hs (hG.mono hx.m hx.i) hrd fun a2 w2 hgot => ?_
    obtain ⟨M2, κ2, q1, q2, q3, q4⟩ := back hd hx hk hgot hr2 hs2
    exact ⟨M2, κ2, r2, s2, q1, q2, q3, q4, hl⟩
   ·rename_i e r' s' hne hrd
    simp only [Option.bind_eq_bind, Option.bind_eq_some_iff, Option.some.injEq, Prod.mk.injEq] at hl
    obtain ⟨r2, hr2, s2, hs2, rfl, rfl, rfl⟩ := hl
    refine ih _ hc _ M1 ι κ1 w1 a1 r s e r' s' hs (hG.mono hx.m hx.i) hrd fun a2 w2 hgot => ?_
    obtain ⟨M2, κ2, q1, q2, q3, q4⟩ := back hd hx hk hgot hr2 hs2
    have := hQ a2 w2 ⟨q1, M2, ι, κ2, q2, q3, q4⟩
    cases e with
    | norm => exact (hne rfl).elim
    | ex id => exact this
    | ret => exact this
  ·obtain ⟨_, _, _, _, _, _, _, _, hl⟩ := hI
   simp only [Qi5] at hl
   cases hl
end
end Go.Ev
namespace Go.Ev
open Go
def Qe3 (P : Program) : List ResultVar → List Res → Bool
 | [], [] => true
 | .tmp t :: rs, .tmp t' :: qs => t == t' && Qe3 P rs qs
 | .cell t ty :: rs, .cell t' ag sz :: qs => t == t' && Qeb P ty ag sz && Qe3 P rs qs
 | _, _ => false
def Qrc (P : Program) (fn : Func) (F : Fn) : Bool :=
 match fn.body with
 | some c => fn.ntmps == F.nt && Qe3 P fn.results.toList F.res && !F.esc && Qic P c F.body && fn.name != "runtime.NumGoroutine"
 | none => false
def Qao (P : Program) (f : FuncId) (F : Fn) : Bool :=
 match P.funcs[f]? with
 | some fn => Qrc P fn F
 | none => false
theorem Qac {P : Program} {f : FuncId} {F : Fn} {fn : Func} (hf : P.funcs[f]? = some fn) (h : Qrc P fn F = true) : Qao P f F = true := by
 unfold Qao
 rw [hf]
 exact h
section
variable {P : Program} {M : Mem} {ι : Plc} {X : Nat → Prop} {κ : Own} {w : World} {us : List Value} {ρ : List V} {σ : Objs} {G : GV} {call : FuncId → List V → Objs → Option (V × Objs)}
theorem St.result (h : St M ι X κ w us ρ σ) {t : Nat} {v : Value} {x : V} (hv : us[t]? = some v) (hx : ρ[t]? = some x) : ∃ κ', St M ι X κ' w [v] [x] σ := by
 refine ⟨fun b => match κ b with | some (.s i) => if i = t then some (.s 0) else none | q => q, ⟨h.wd.mem, h.wd.obj, h.wd.olt, h.wd.inj, h.wd.xlt, h.wd.xobj, fun b p hp => ?_⟩, Reps.cons (h.rep.2 t v x hv hx) Reps.nil, fun p u y b ha hb => ?_, fun p u y ha => ?_⟩
 ·cases hk : κ b with
  | none => simp [hk] at hp
  | some q => exact h.wd.kap b q hk
 ·cases p with
  | c o i =>
   have hk := h.own (.c o i) u y b ha hb
   simp [hk]
  | s i =>
   obtain ⟨h1, h2⟩ := ha
   cases i with
   | succ i => simp at h1
   | zero =>
    simp at h1 h2
    subst h1 h2
    have hk := h.own (.s t) v x b ⟨hv, hx⟩ hb
    simp [hk]
 ·cases p with
  | c o i => exact h.gr (.c o i) u y ha
  | s i =>
   obtain ⟨h1, h2⟩ := ha
   cases i with
   | succ i => simp at h1
   | zero =>
    simp at h1 h2
    subst h1 h2
    exact h.gr (.s t) v x ⟨hv, hx⟩
theorem St.only (h : St M ι X κ w us ρ σ) {v : Value} {x : V} (hr : Rep M ι v x) (hn : x.ng = x) : ∃ κ', St M ι X κ' w [v] [x] σ :=
 ⟨_, (h.callee (Reps.cons hr Reps.nil) (by simpa using hn)).lessX fun _ hb => .inl hb⟩
def Qj2 (tmps : Array Value) : ResultVar → Sem Value
 | .tmp t => pure (tmps.getD t Go.undef)
 | .cell a t => do loadVar t (← asAddr (tmps.getD a Go.undef))
theorem Qs2 (fn : Func) (tmps : Array Value) : Go.results fn tmps = (do
  let vs ← fn.results.mapM (Qj2 tmps)
  pure (if h : vs.size = 1 then vs[0] else .tuple vs)) := by
 unfold Go.results
 congr 1
theorem Qu4 {ag : Bool} {sz off : Nat} {cs : List V} {x : V} (h : part ag sz cs off = some x) : x.ng = x := by
 unfold part at h
 split at h
 ·split at h
  ·cases h; rfl
  ·cases h
 ·split at h
  ·rw [Option.map_eq_some_iff] at h
   obtain ⟨y, _, rfl⟩ := h
   exact V.nogr_nogr y
  ·cases h
theorem Qlg {tmps : Array Value} (h : St M ι X κ w tmps.toList ρ σ) {r : ResultVar} {q : Res} (hc : Qe3 P [r] [q] = true) {x : V} (hx : resV ρ σ q = some x) :
  ∃ v, (Qj2 tmps r).run P w = .ok v w ∧ Rep M ι v x ∧ ((∃ t, v = tmps.getD t Go.undef ∧ x = ρ.getD t .undef) ∨ x.ng = x) := by
 cases r with
 | tmp t =>
  cases q with
  | cell t' ag sz => cases hc
  | tmp t' =>
   simp only [Qe3, Bool.and_true, beq_iff_eq] at hc
   subst hc
   simp only [resV, Option.some.injEq] at hx
   subst hx
   have := Qha h.rep t
   rw [List.getD_eq_getElem?_getD] at this
   refine ⟨tmps.getD t Go.undef, rfl, by simpa [Array.getD_eq_getD_getElem?] using this, .inl ⟨t, rfl, rfl⟩⟩
 | cell t ty =>
  cases q with
  | tmp t' => cases hc
  | cell t' ag sz =>
   simp only [Qe3, Bool.and_true, Bool.and_eq_true, beq_iff_eq] at hc
   obtain ⟨rfl, ht⟩ := hc
   simp only [resV] at hx
   have hr := Qha h.rep t
   rw [List.getD_eq_getElem?_getD] at hr
   have hr : Rep M ι (tmps.getD t Go.undef) (ρ.getD t .undef) := by simpa [Array.getD_eq_getD_getElem?] using hr
   split at hx
   ·rename_i o off hp
    rw [hp] at hr
    obtain ⟨b, hb, hi⟩ := hr.inv_ptr
    simp only [Option.bind_eq_bind, Option.bind_eq_some_iff] at hx
    obtain ⟨cs, hcs, hpp⟩ := hx
    obtain ⟨us, hru, hcc⟩ := h.wd.objCells hi hcs
    obtain ⟨u, hrun, hu⟩ := Qgt (P := P) ht hru hcc hpp
    refine ⟨u, ?_, hu, .inr (Qu4 hpp)⟩
    rw [Nat.zero_add] at hrun
    simp only [Qj2, hb, Qab]
    rw [show (asAddr (.pointer (some ⟨b, off, none⟩))).run P w = .ok ⟨b, off, none⟩ w from rfl]
    exact hrun
   ·cases hx
theorem Qg1 {tmps : Array Value} (h : St M ι X κ w tmps.toList ρ σ) : ∀ {rs : List ResultVar} {qs : List Res}, Qe3 P rs qs = true → ∀ {xs : List V}, qs.mapM (resV ρ σ) = some xs → ∃ vs, (rs.mapM (Qj2 tmps)).run P w = .ok vs w ∧ Reps M ι vs xs
 | [], [], _, xs, hx => by
  simp at hx
  subst hx
  exact ⟨[], by simp [Qaj], Reps.nil⟩
 | r :: rs, q :: qs, hc, xs, hx => by
  have hc2 : Qe3 P [r] [q] = true ∧ Qe3 P rs qs = true := by
   cases r <;> cases q <;> simp_all [Qe3]
  simp only [List.mapM_cons, Option.bind_eq_bind, Option.bind_eq_some_iff] at hx
  obtain ⟨x, hx1, ys, hys, he⟩ := hx
  cases he
  obtain ⟨v, hv, hr, _⟩ := Qlg h hc2.1 hx1
  obtain ⟨vs, hvs, hrs⟩ := Qg1 h hc2.2 hys
  refine ⟨v :: vs, ?_, Reps.cons hr hrs⟩
  simp only [List.mapM_cons, Qab, hv, Result.andThen, hvs, Qaj]
 | [], _ :: _, hc, _, _ => by cases hc
 | r :: _, [], hc, _, _ => by cases r <;> cases hc
theorem Wfq {fn : Func} {tmps : Array Value} (h : St M ι X κ w tmps.toList ρ σ) {qs : List Res} (hc : Qe3 P fn.results.toList qs = true) {keep : Bool} {r : V} (hr : results keep ρ σ qs = some r) :
  ∃ v κ', (Go.results fn tmps).run P w = .ok v w ∧ St M ι X κ' w [v] [r] σ := by
 have hrun : ∀ vs, (fn.results.toList.mapM (Qj2 tmps)).run P w = .ok vs w → (Go.results fn tmps).run P w = .ok (if h : vs.length = 1 then vs[0] else .tuple vs.toArray) w := by
  intro vs hvs
  rw [Qs2, Array.mapM_eq_mapM_toList, Qab]
  rw [show (List.toArray <$> fn.results.toList.mapM (Qj2 tmps)) = (fn.results.toList.mapM (Qj2 tmps)) >>= fun a => pure a.toArray from (bind_pure_comp _ _).symm]
  rw [Qab, hvs]
  simp [Result.andThen, Qaj]
 match qs, hr with
 | [q], hr =>
  simp only [results, Option.bind_eq_bind, Option.bind_eq_some_iff] at hr
  obtain ⟨x, hx, hr⟩ := hr
  split at hr
  ·cases hr
   match hrs : fn.results.toList, hc with
   | [rv], hc =>
    obtain ⟨v, hv, hrep, hcase⟩ := Qlg h hc hx
    have h1 := hrun [v] (by
     rw [hrs]
     simp only [List.mapM_cons, List.mapM_nil, Qab, hv, Result.andThen, Qaj])
    simp only [List.length_singleton, dite_true, List.getElem_cons_zero] at h1
    cases keep with
    | false =>
     obtain ⟨κ', hs⟩ := h.only (x := x.ng) hrep.ng (V.nogr_nogr x)
     exact ⟨v, κ', h1, hs⟩
    | true =>
     simp only [Qnf, if_true]
     rcases hcase with ⟨t, rfl, rfl⟩ | hn
     ·rcases Nat.lt_or_ge t ρ.length with hlt | hge
      ·have hlt' : t < tmps.size := by have := h.rep.1; simp at this; omega
       obtain ⟨κ', hs⟩ := h.result (t := t) (List.getElem?_eq_getElem (by simpa using hlt')) (List.getElem?_eq_getElem hlt)
       refine ⟨_, κ', h1, ?_⟩
       simpa [Array.getD, hlt', List.getD, List.getElem?_eq_getElem hlt] using hs
      ·have e : ρ.getD t .undef = .undef := by simp [List.getD, List.getElem?_eq_none hge]
       rw [e] at hrep ⊢
       obtain ⟨κ', hs⟩ := h.only hrep rfl
       exact ⟨_, κ', h1, hs⟩
     ·obtain ⟨κ', hs⟩ := h.only hrep hn
      exact ⟨v, κ', h1, hs⟩
   | [], hc => cases hc
   | rv :: _ :: _, hc => cases rv <;> cases q <;> simp [Qe3] at hc
  ·cases hr
 | [], hr =>
  have hr2 : (some (V.tup []) : Option V) = some r := hr
  cases hr2
  obtain ⟨vs, hvs, hrs⟩ := Qg1 (P := P) h hc (xs := []) (by rfl)
  have : vs = [] := List.length_eq_zero_iff.1 (by simpa using hrs.1)
  subst this
  obtain ⟨κ', hs⟩ := h.only (x := .tup []) (v := .tuple #[]) (.tup #[] [] rfl (fun i v c hv => by simp at hv)) rfl
  exact ⟨_, κ', hrun [] hvs, by simpa using hs⟩
 | q1 :: q2 :: qs, hr =>
  simp only [results, Option.bind_eq_bind, Option.bind_eq_some_iff] at hr
  obtain ⟨xs, hxs, he⟩ := hr
  cases he
  obtain ⟨vs, hvs, hrs⟩ := Qg1 (P := P) h hc hxs
  have hlen : xs.length = (q1 :: q2 :: qs).length := (Qc1 hxs).1
  have hne : ¬ vs.length = 1 := by rw [hrs.1, hlen]; simp
  have h1 := hrun vs hvs
  rw [dif_neg hne] at h1
  have hrn := hrs.ng
  obtain ⟨κ', hs⟩ := h.only (x := .tup (xs.map V.ng)) (v := .tuple vs.toArray) (.tup _ _ (by simpa using hrn.1) (fun i v c hv hcc => hrn.2 i v c (by simpa using hv) hcc)) rfl
  exact ⟨_, κ', h1, hs⟩
theorem St.enter {vs : List Value} {xs : List V} (h : St M ι X κ w vs xs σ) (n : Nat) : St M ι X κ w (vs ++ List.replicate n Go.undef) (xs ++ List.replicate n .undef) σ := by
 have key : ∀ p v x, At ι w (vs ++ List.replicate n Go.undef) (xs ++ List.replicate n .undef) σ p v x → At ι w vs xs σ p v x ∨ x = .undef := by
  intro p v x ha
  cases p with
  | c o i => exact .inl ha
  | s i =>
   obtain ⟨h1, h2⟩ := ha
   rw [List.getElem?_append] at h1 h2
   rw [← h.rep.1] at h2
   split at h1
   ·rename_i hi; rw [if_pos hi] at h2; exact .inl ⟨h1, h2⟩
   ·rename_i hi
    rw [if_neg hi, List.getElem?_replicate] at h2
    split at h2
    ·cases h2; exact .inr rfl
    ·cases h2
 refine ⟨h.wd, h.rep.append ⟨by simp, fun i u c hu hc => ?_⟩, fun p v x b ha hb => ?_, fun p v x ha => ?_⟩
 ·rw [List.getElem?_replicate] at hu hc
  split at hu
  ·rename_i hi; rw [if_pos hi] at hc; cases hu; cases hc; exact .undef
  ·cases hu
 ·rcases key p v x ha with ha | rfl
  ·exact h.own p v x b ha hb
  ·unfold ownB at hb; split at hb <;> simp_all
 ·rcases key p v x ha with ha | rfl
  ·exact h.gr p v x ha
  ·exact ⟨fun xs s e => by cases e⟩
theorem Qfi {f : FuncId} {fn : Func} {c : Code} (hf : P.funcs[f]? = some fn) (hb : fn.body = some c) (hn : (fn.name == "runtime.NumGoroutine") = false) (vs : Array Value) : (callFunc f vs).run P w = .ok (.enter f vs) w := by
 unfold callFunc
 rw [Qab]
 rw [show (Go.program).run P w = .ok P w from rfl]
 simp only [Result.andThen, hf, hn, hb]
 simp [Qaj]
theorem Qs3 (hm : P.follows .mixedOrders = true) (hS : ∀ f, Sound P G f (call f)) {f : FuncId} {F : Fn} (hc : Qao P f F = true) (fuel : Nat) : Sound P G f (evFn G call F fuel) := by
 intro args σ r σ' he M ι X κ w vs h hG _
 unfold Qao at hc
 split at hc
 ·rename_i fn hf
  unfold Qrc at hc
  split at hc
  ·rename_i c hb
   simp only [Bool.and_eq_true, beq_iff_eq, Bool.not_eq_true', bne_iff_ne, ne_eq] at hc
   obtain ⟨⟨⟨⟨hnt, hres⟩, hesc⟩, hcd⟩, hname⟩ := hc
   refine .inl ⟨Qfi hf hb (by simpa using hname) vs, ?_⟩
   refine calls_of_wp hf hb ?_
   have hlen : vs.size = args.length := by simpa using h.rep.1
   have hent := h.enter (F.nt - args.length)
   unfold evFn at he
   simp only [hesc, Option.bind_eq_bind, Option.bind_eq_some_iff] at he
   obtain ⟨⟨out, ρ', σ1⟩, hrun, he⟩ := he
   have hst : St M ι X κ w ({ tmps := vs ++ Array.replicate (fn.ntmps - vs.size) Go.undef, defers := [] } : Act).tmps.toList (args ++ List.replicate (F.nt - args.length) .undef) σ := by
    simpa [hnt, hlen] using hent
   have hout : (out = .norm ∨ out = .ret) ∧ ∃ r0, results F.keep ρ' σ1 F.res = some r0 ∧ ∃ σ2, cuO σ.length σ1 = some σ2 ∧ ∃ r1, fz σ.length σ1 fzD r0 = some r1 ∧ r = r1 ∧ σ' = σ2 := by
    cases out with
    | ex id => simp at he
    | norm =>
     simp only [Option.bind_eq_some_iff] at he
     obtain ⟨r0, h0, σ2, h2, h3⟩ := he
     simp at h3
     obtain ⟨r1, h4, h5, h6⟩ := h3
     exact ⟨.inl rfl, r0, h0, σ2, h2, r1, h4, h5.symm, h6.symm⟩
    | ret =>
     simp only [Option.bind_eq_some_iff] at he
     obtain ⟨r0, h0, σ2, h2, h3⟩ := he
     simp at h3
     obtain ⟨r1, h4, h5, h6⟩ := h3
     exact ⟨.inr rfl, r0, h0, σ2, h2, r1, h4, h5.symm, h6.symm⟩
   obtain ⟨ho, r0, h0, σ2, h2, r1, h1, rfl, rfl⟩ := hout
   refine Wjc hm hS F.body c hcd _ M ι κ w _ _ σ out ρ' σ1 hst hG hrun fun a' w' hgot => ?_
   obtain ⟨hd, M1, ι1, κ1, hx, hk, hs⟩ := hgot
   obtain ⟨v, κ2, hv, hs2⟩ := Wfq (P := P) (fn := fn) hs hres h0
   have hcs : Qas σ.length σ1 [0] 0 [r0] = some [r] := by
    simp [Qas, h1]
   obtain ⟨c1, c2, c3, c4, c5⟩ := hs2.cut (n := σ.length) (ι0 := ι) (fun o ho => (hk.dom o ho).symm) (fun o ho => h.wd.none_of_ge ho) hcs h2
   have hfin : bodyPost P fn (fun e w' => ∃ v, e = .returned v ∧ ∃ M' ι' κ', (Ext X M ι w M' ι' w' ∧ Kp ι w σ ι' w' σ') ∧ St M' ι' X κ' w' [v] [r] σ') .ret a' w' := by
    refine ⟨hd, v, hv, v, rfl, _, ι, κ2, ⟨⟨hx.m.trans c1, PlcLe.refl ι, fun b i hb => (c2 b i hb).trans (hx.mX b i hb), hx.size, hx.keep, hx.os, hx.tape, hx.output⟩, ⟨?_, fun _ _ => rfl, fun o b i hi hl => hk.lk o b i hi (c4 o i hl)⟩⟩, c3⟩
    have := hk.len; omega
   rcases ho with rfl | rfl
   ·exact hfin
   ·exact hfin
  ·cases hc
 ·cases hc
theorem Qrd (hm : P.follows .mixedOrders = true) (C : Ctx) (hP : ∀ f h, C.prim f = some h → Sound P C.G f h) (hF : ∀ f F, C.code f = some F → Qao P f F = true) : ∀ (n : Nat) (f : FuncId), Sound P C.G f (ev C n f)
 | 0, f => fun args σ r σ' he => by simp [ev] at he
 | n + 1, f => fun args σ r σ' he => by
  simp only [ev] at he
  split at he
  ·rename_i h hp
   exact hP f h hp args σ r σ' he
  ·split at he
   ·rename_i F hF'
    exact Qs3 hm (Qrd hm C hP hF n) (hF f F hF') n args σ r σ' he
   ·cases he
end
end Go.Ev
namespace Go.Ev
open Go
def fin (keep : Bool) (res : List Res) (σ : Objs) : Ran → Option (V × Objs)
 | some (.ret, ρ, σ') | some (.norm, ρ, σ') => (Ev.results keep ρ σ' res).bind fun r => (cuO σ.length σ').bind fun σ'' => (fz σ.length σ' fzD r).bind fun r' => some (r', σ'')
 | _ => none
theorem Qax {n d : Nat} {σ : Objs} {x : V} (h : V.rb n x = true) : fz n σ d x = some x := by cases d <;> simp [fz, h]
theorem Wfr {n d : Nat} {σ : Objs} {k : IntKind} {a : Int} : fz n σ d (.int k a) = some (.int k a) := by cases d <;> rfl
theorem Wcx {n d : Nat} {σ : Objs} {b : Bool} : fz n σ d (.bool b) = some (.bool b) := by cases d <;> rfl
theorem Wfs {n d : Nat} {σ : Objs} {s : List UInt8} : fz n σ d (.str s) = some (.str s) := by cases d <;> rfl
theorem Wcy {n d : Nat} {σ : Objs}  : fz n σ d (.nilp) = some (.nilp) := by cases d <;> rfl
theorem Wcz {n d : Nat} {σ : Objs}  : fz n σ d (.nils) = some (.nils) := by cases d <;> rfl
theorem Wc0 {n d : Nat} {σ : Objs}  : fz n σ d (.nili) = some (.nili) := by cases d <;> rfl
theorem Wc1 {n d : Nat} {σ : Objs}  : fz n σ d (.nilf) = some (.nilf) := by cases d <;> rfl
theorem Qyw {n d : Nat} {σ : Objs}  : fz n σ d (.undef) = some (.undef) := by cases d <;> rfl
theorem Wft {n d : Nat} {σ : Objs}  : fz n σ d (.any) = some (.any) := by cases d <;> rfl
section
variable {G : GV} {call : FuncId → List V → Objs → Option (V × Objs)} {fuel : Nat} {x : V} {ρ : List V} {σ : Objs}
theorem Qn0 {n : Nat} {live : List Nat} {i : Nat} {xs : List V} : Qas n σ live i (x :: xs) = (if live.contains i then fz n σ fzD x else some .any).bind fun y => (Qas n σ live (i + 1) xs).bind fun ys => some (y :: ys) := by
 simp only [Qas]; split <;> rfl
theorem Qhk {n : Nat} : ∀ {s : List UInt8}, V.rbs n (Qad s) = true
 | [] => rfl
 | b :: s => by
  show (V.rb n (.int .u8 b.toNat) && V.rbs n (Qad s)) = true
  rw [Qhk]; rfl
theorem Qyx {n d : Nat} {s : List UInt8} {c : Cap} : fz n σ d (.sl (Qad s) c) = some (.sl (Qad s) c) := Qax Qhk
theorem get0 {cs : List V} : Objs.get (O.cells cs :: σ) 0 = some cs := rfl
theorem Qs4 {k : IntKind} {n : Int} : (V.int k n).ng = .int k n := rfl
theorem Qre {b : Bool} : (V.bool b).ng = .bool b := rfl
theorem Qyy {s : List UInt8} : (V.str s).ng = .str s := rfl
theorem Wc2 : V.undef.ng = .undef := rfl
theorem Wjd : V.any.ng = .any := rfl
theorem Wfu : V.nilp.ng = .nilp := rfl
theorem Wje {o i : Nat} : (V.ptr o i).ng = .ptr o i := rfl
theorem Wfv {cs : List V} {i : Nat} : (V.eptr cs i).ng = .eptr cs i := rfl
theorem Wfw : V.nils.ng = .nils := rfl
theorem n_sl {xs : List V} {c : Cap} : (V.sl xs c).ng = .sl xs .no := rfl
theorem n_hs {a b c d : Nat} {e : Bool} : (V.hs a b c d e).ng = .hs a b c d e := rfl
theorem Wjf {cs : List V} : (V.agg cs).ng = .agg cs := rfl
theorem Wjg {cs : List V} : (V.tup cs).ng = .tup cs := rfl
theorem Wjh {t : TypeId} {x : V} : (V.ifc t x).ng = .ifc t x := rfl
theorem Wfx : V.nili.ng = .nili := rfl
theorem n_fn {f : FuncId} {a b : List V} : (V.fn f a b).ng = .fn f a b := rfl
end
def Wfy (P : Program) : List (Nat × Ev.Fn) → Prop
 | [] => True
 | p :: r => Qao P p.1 p.2 = true ∧ Wfy P r
def Qn1 (l : List (Nat × Ev.Fn)) (f : Nat) : Option Ev.Fn :=
 match l with
 | [] => none
 | p :: r => if p.1 == f then some p.2 else Qn1 r f
theorem Qrf {P : Program} : ∀ {l : List (Nat × Ev.Fn)}, Wfy P l → ∀ f F, Qn1 l f = some F → Qao P f F = true
 | [], _, f, F, h => by cases h
 | p :: r, ha, f, F, h => by
  unfold Qn1 at h
  split at h
  ·rename_i hp
   cases h
   have : p.1 = f := by simpa using hp
   rw [← this]
   exact ha.1
  ·exact Qrf ha.2 f F h
def memOf (W : World) : Mem := fun b i => W.cell? ⟨b, i, none⟩
def noPlc : Plc := fun _ => none
theorem St.start (W : World) {us : List Value} {xs : List V} (hr : Reps (memOf W) noPlc us xs) (hn : ∀ x ∈ xs, x.ng = x) : St (memOf W) noPlc (fun b => b < W.heap.size) (fun _ => none) W us xs [] := by
 refine ⟨⟨fun b i u h => h, fun o b h => (by cases h), fun o b h => (by cases h), fun o o' b h => (by cases h), fun b h => h, fun o b h => (by cases h), fun b p h => (by cases h)⟩, hr, fun p v x b ha hb => ?_, fun p v x ha => ?_⟩
 ·cases p with
  | c o i => obtain ⟨_, _, _, _, _, h, _⟩ := ha; cases h
  | s i =>
   rw [← hn x (List.mem_of_getElem? ha.2), Qa6] at hb; cases hb
 ·cases p with
  | c o i => obtain ⟨_, _, _, _, _, h, _⟩ := ha; cases h
  | s i => exact .of_none (by rw [← hn x (List.mem_of_getElem? ha.2)]; exact Qa6 _ _)
theorem calls_of_ev {P : Program} (hm : P.follows .mixedOrders = true) (C : Ctx) (hP : ∀ f h, C.prim f = some h → Sound P C.G f h) (hF : ∀ f F, C.code f = some F → Qao P f F = true) {n : Nat} {f : FuncId} {F : Ev.Fn} (hc : C.code f = some F) {vs : Array Value} {args : List V} {b : Bool}
  (W : World) (hr : Reps (memOf W) noPlc vs.toList args) (hn : ∀ x ∈ args, x.ng = x) (hG : GOK C.G (memOf W) noPlc) (he : ev C n f args [] = some (.bool b, [])) :
  Calls P f vs W (fun e w' => e = .returned (.bool b) ∧ RowKit.Below W.heap.size W w') := by
 have hs := Qrd hm C hP hF n f args [] (.bool b) [] he (memOf W) noPlc _ _ W vs (St.start W hr hn) hG hn
 have fin : ∀ v w', (∃ M' ι' κ', (Ext (fun b => b < W.heap.size) (memOf W) noPlc W M' ι' w' ∧ Kp noPlc W [] ι' w' []) ∧ St M' ι' (fun b => b < W.heap.size) κ' w' [v] [V.bool b] []) → v = .bool b ∧ RowKit.Below W.heap.size W w' := by
  intro v w' ⟨M', ι', κ', ⟨hx, _⟩, hst⟩
  exact ⟨(hst.rep.2 0 _ _ rfl rfl).inv_bool, ⟨hx.os, hx.tape, hx.output, hx.size, fun k hk => hx.keep k hk⟩⟩
 rcases hs with ⟨_, h2⟩ | ⟨v, w', h1, _⟩
 ·refine h2.mono fun e w' ⟨v, he, hR⟩ => ?_
  obtain ⟨rfl, hb⟩ := fin v w' hR
  exact ⟨he, hb⟩
 ·have hc' := hF f F hc
  unfold Qao at hc'
  split at hc'
  ·rename_i fn hf
   unfold Qrc at hc'
   split at hc'
   ·rename_i c hb
    simp only [Bool.and_eq_true, bne_iff_ne, ne_eq] at hc'
    rw [Qfi hf hb (by simpa using hc'.2) vs] at h1
    cases h1
   ·cases hc'
  ·cases hc'
end Go.Ev
namespace Go.Ev
open Go
section
variable {P : Program} {M : Mem} {ι : Plc} {X : Nat → Prop} {κ : Own} {w w' : World} {us : List Value} {ρ : List V} {σ : Objs} {G : GV}
theorem Below.at (hb : RowKit.Below w.heap.size w w') {b : Nat} (hlt : b < w.heap.size) : w'.heap[b]? = w.heap[b]? := hb.block b hlt
theorem St.below (h : St M ι X κ w us ρ σ) (hb : RowKit.Below w.heap.size w w') : St M ι X κ w' us ρ σ := by
 have hat : ∀ p v x, At ι w' us ρ σ p v x → At ι w us ρ σ p v x := by
  intro p v x ha
  cases p with
  | s i => exact ha
  | c o i =>
   obtain ⟨b, ws, T, fz, cs, g1, g2, g3⟩ := ha
   rw [hb.block b (h.wd.olt o b g1)] at g2
   exact ⟨b, ws, T, fz, cs, g1, g2, g3⟩
 refine ⟨⟨fun b i u hm => ?_, fun o b hi => ?_, fun o b hi => Nat.lt_of_lt_of_le (h.wd.olt o b hi) hb.size, h.wd.inj, fun b hx => Nat.lt_of_lt_of_le (h.wd.xlt b hx) hb.size, h.wd.xobj, fun b p hp => ⟨(h.wd.kap b p hp).1, (h.wd.kap b p hp).2.1, Nat.lt_of_lt_of_le (h.wd.kap b p hp).2.2 hb.size⟩⟩, h.rep, fun p v x b ha ho => h.own p v x b (hat p v x ha) ho, fun p v x ha => ?_⟩
 ·rw [← h.wd.mem b i u hm]
  unfold World.cell?
  rw [hb.block b (h.wd.lt hm)]
 ·obtain ⟨O, hO, hor⟩ := h.wd.obj o b hi
  refine ⟨O, hO, ?_⟩
  have e := hb.block b (h.wd.olt o b hi)
  cases O with
  | cells cs =>
   obtain ⟨ws, T, fz, h1, h2⟩ := hor
   exact ⟨ws, T, fz, by rw [e]; exact h1, h2⟩
  | mp es =>
   obtain ⟨en, k, h1, h2⟩ := hor
   exact ⟨en, k, by rw [e]; exact h1, h2⟩
 ·have ha' := hat p v x ha
  refine ⟨fun xs sz hx a len cap hv => ?_⟩
  have hob : ownB v x = some a.block := by rw [hx, hv]; rfl
  have hlt := (h.wd.kap _ _ (h.own p v x _ ha' hob)).2.2
  obtain ⟨g1, g2, ws, T, fz, g3, g4⟩ := (h.gr p v x ha').ok xs sz hx a len cap hv
  exact ⟨g1, g2, ws, T, fz, by rw [hb.block _ hlt]; exact g3, g4⟩
theorem Ext.below (hx : ∀ b, X b → b < w.heap.size) (hb : RowKit.Below w.heap.size w w') : Ext X M ι w M ι w' :=
 ⟨.refl _, .refl _, fun _ _ _ => rfl, hb.size, fun b h => hb.block b (hx b h), hb.os, hb.tape, hb.output⟩
theorem Sound.of_below {f : FuncId} {h : List V → Objs → Option (V × Objs)}
  (H : ∀ args σ r σ', h args σ = some (r, σ') → σ' = σ ∧ r.ng = r ∧ ∀ M ι X κ w (vs : Array Value), St M ι X κ w vs.toList args σ → GOK G M ι →
   (callFunc f vs).run P w = .ok (.enter f vs) w ∧ ∃ v, Rep M ι v r ∧ Calls P f vs w (fun e w' => e = .returned v ∧ RowKit.Below w.heap.size w w')) : Sound P G f h := by
 intro args σ r σ' he M ι X κ w vs hst hG _
 obtain ⟨rfl, hn, H⟩ := H args σ r σ' he
 obtain ⟨hrun, v, hv, hc⟩ := H M ι X κ w vs hst hG
 refine .inl ⟨hrun, hc.mono fun e w' ⟨he, hb⟩ => ⟨v, he, M, ι, ?_⟩⟩
 obtain ⟨κ', hs⟩ := (hst.below hb).only hv hn
 exact ⟨κ', ⟨Ext.below hst.wd.xlt hb, Kp.same _ _ fun o b hi => hb.block b (hst.wd.olt o b hi)⟩, hs⟩
end
end Go.Ev
namespace Go.Ev
open Go
abbrev Ro := Option (V × Objs)
structure Kt where
 nm : List V → Objs → Ro
 ex : Nat → List V → Objs → Ro
 rt : List V → Objs → Ro
structure Mach where
 G : GV
 call : FuncId → List V → Objs → Ro
 fx : ((List V → Objs → Ro) → List V → Objs → Ro) → List V → Objs → Ro
def kc (K : Kt) : Ran → Ro
 | some (.norm, ρ, σ) => K.nm ρ σ
 | some (.ex i, ρ, σ) => K.ex i ρ σ
 | some (.ret, ρ, σ) => K.rt ρ σ
 | none => none
def bd {α : Type} (x : Option α) (f : α → Ro) : Ro :=
 match x with
 | some a => f a
 | none => none
def br (c : V) (a b : Ro) : Ro :=
 match c with
 | .bool true => a
 | .bool false => b
 | _ => none
def gd (g : V) (t : Bool) (y n : Ro) : Ro :=
 match g with
 | .bool b => if b == t then y else n
 | .undef => n
 | _ => none
theorem Qce {α : Type} {a : α} {f : α → Ro} : bd (some a) f = f a := rfl
theorem Wc3 {α : Type} {f : α → Ro} : bd none f = none := rfl
theorem Qfj {α β : Type} {x : Option α} {g : α → Option β} {f : β → Ro} : bd (x.bind g) f = bd x fun a => bd (g a) f := by cases x <;> rfl
theorem Wfz {α β : Type} {x : Option α} {g : α → β} {f : β → Ro} : bd (x.map g) f = bd x fun a => f (g a) := by cases x <;> rfl
theorem Qyz {α : Type} {x y : Option α} (h : x = y) (f : α → Ro) : bd x f = bd y f := by rw [h]
theorem Qy0 {c d : V} (h : c = d) (a b : Ro) : br c a b = br d a b := by rw [h]
theorem Qy1 {c d : V} (h : c = d) (t : Bool) (a b : Ro) : gd c t a b = gd d t a b := by rw [h]
theorem Wc4 {t : Bool} {a b : Ro} : br (.bool t) a b = if t = true then a else b := by cases t <;> rfl
theorem br_t {a b : Ro} : br (.bool true) a b = a := rfl
theorem br_f {a b : Ro} : br (.bool false) a b = b := rfl
section
variable (M : Mach)
def boxV (σ : Objs) (x : V) : Ro := if Qal x.cells then some (.ptr σ.length 0, σ ++ [.cells (x.cells.map V.ng)]) else none
def Qu5 (ag : Bool) (sz len : Nat) (z : V) (parts : List (Nat × V)) (σ : Objs) : Ro := do
 let xs ← Qc9 sz (List.replicate len z) parts
 if Qcz ag sz xs then some (.hs σ.length 0 len sz ag, σ ++ [.cells ((xs.flatMap V.cells).map V.ng)]) else none
def Qau (ag : Bool) (sz len : Nat) (z : V) (parts : List (Nat × V)) : Option V := do
 let xs ← Qc9 sz (List.replicate len z) parts
 if Qcz ag sz xs then some (.sl xs .fx) else none
def Qu6 (ag : Bool) (sz len : Nat) (z : V) (parts : List (Nat × V)) : Option V := do
 let xs ← Qc9 sz (List.replicate len z) parts
 if Qcz ag sz xs then some (.sl xs (.gr sz)) else none
def Wf0 : V → Option V
 | .sl xs (.gr _) => some (.sl xs .no)
 | _ => none
def stV (σ : Objs) (sz : Nat) (p v t : V) : Ro :=
 match p with
 | .ptr o off => do
  let cs ← Objs.get σ o
  let ds := v.cells
  if ds.length = sz ∧ off + sz ≤ cs.length ∧ Qal ds then
   match v with
   | .agg _ => some (.undef, σ.set o (.cells (Qcd cs off (ds.map V.ng))))
   | _ => if t.isLk then none else some (.undef, σ.set o (.cells (cs.set off t)))
  else none
 | _ => none
def Qcv (σ : Objs) : V → Ro
 | .ptr o off => do
  let cs ← Objs.get σ o
  let v ← cs[off]?
  match v with
  | .sl xs (.gr s) => some (.sl xs (.gr s), σ.set o (.cells (cs.set off (.sl xs .no))))
  | .sl _ .lk => none
  | v => some (v, σ)
 | .eptr cs off => do
  let v ← cs[off]?
  some (v.ng, σ)
 | _ => none
def appV (str ag : Bool) (sz bytes : Nat) (σ : Objs) (x y : V) : Option V := do
 let ys ← Qes str σ y
 Qdi ag sz bytes x ys
def Wji (str ag : Bool) (sz bytes : Nat) (σ : Objs) (x y : V) : Ro := do
 let ys ← Qes str σ y
 match ys with
 | [] => do
  let v ← Qdi ag sz bytes x []
  some (v.ng, σ)
 | _ :: _ => do
  let v ← Qdi ag sz bytes x ys
  match v with
  | .sl xs _ => some (.hs σ.length 0 xs.length sz ag, σ ++ [.cells ((xs.flatMap V.cells).map V.ng)])
  | _ => none
def Wc5 (σ : Objs) : V → Ro
 | .str b => some (.hs σ.length 0 b.length 1 false, σ ++ [.cells (Qad b)])
 | _ => none
def mkHV (ag : Bool) (sz bytes : Nat) (z l c : V) (σ : Objs) : Ro := do
 let l ← Qe8 l
 let c ← Qe8 c
 if 0 ≤ l ∧ l ≤ c ∧ c * bytes ≤ Qb0 ∧ z.cells.length = sz ∧ Qal z.cells ∧ agOk ag z then
  some (.hs σ.length 0 l.toNat sz ag, σ ++ [.cells ((List.replicate c.toNat z).flatMap V.cells)])
 else none
def mkFV (ag : Bool) (sz bytes : Nat) (z l c : V) : Option V := do
 let l ← Qe8 l
 let c ← Qe8 c
 if 0 ≤ l ∧ l ≤ c ∧ c * bytes ≤ Qb0 ∧ z.cells.length = sz ∧ Qal z.cells ∧ agOk ag z then
  some (.sl (List.replicate l.toNat z) (if l = c then .fx else .gr sz))
 else none
def Wjj (σ : Objs) (m k x : V) : Ro :=
 match m with
 | .mp o =>
  match σ[o]? with
  | some (.mp es) => do
   let es' ← mput k x es
   some (.undef, σ.set o (.mp es'))
  | _ => none
 | _ => none
def Qhl (σ : Objs) (x : V) (args : List V) : Ro :=
 match x with
 | .fn f first caps => M.call f (((first ++ args) ++ caps).map V.ng) σ
 | _ => none
def pu (x : Option V) : Option V := x.map V.ng
def Wa0 (z : List V) (σ : Objs) : Ro := match Qal z with | true => some (.ptr σ.length 0, σ ++ [.cells z]) | false => none
def Qky : Ins → Bool
 | .alloc _ | .box _ | .store .. | .loadT _ | .appH .. | .bytesH _ | .mkmp | .mset .. | .call .. | .callv .. => true
 | .buildSl _ _ _ _ _ h => h
 | .mkSl _ _ _ _ _ _ h => h
 | _ => false
def valV (A T : Arg → V) (σ : Objs) (i : Ins) : Option V :=
 match i with
 | .mv x tk => match tk with | true => some (T x) | false => some (A x)
 | .buildSl ag sz len z parts _ => Qau ag sz len z (parts.map fun (i, x) => (i, A x))
 | .buildG ag sz len z parts => Qu6 ag sz len z (parts.map fun (i, x) => (i, A x))
 | .mark x => Wf0 (T x)
 | .app str ag sz bytes x y tk => match tk with | true => appV str ag sz bytes σ (T x) (A y) | false => appV str ag sz bytes σ (A x) (A y)
 | .mkSl ag sz bytes z l c _ => mkFV ag sz bytes z (A l) (A c)
 | .conv .strBytes x => eC σ .strBytes (A x)
 | i => pu (Qay A σ i)
def effV (A T : Arg → V) (σ : Objs) (i : Ins) : Ro :=
 match i with
 | .alloc z => Wa0 z σ
 | .box x => boxV σ (A x)
 | .buildSl ag sz len z parts _ => Qu5 ag sz len z (parts.map fun (i, x) => (i, A x)) σ
 | .store sz p x tk => match tk with | true => stV σ sz (A p) (A x) (T x) | false => stV σ sz (A p) (A x) (A x)
 | .loadT x => Qcv σ (A x)
 | .appH str ag sz bytes x y => Wji str ag sz bytes σ (A x) (A y)
 | .bytesH x => Wc5 σ (A x)
 | .mkSl ag sz bytes z l c _ => mkHV ag sz bytes z (A l) (A c) σ
 | .mkmp => some (.mp σ.length, σ ++ [.mp []])
 | .mset m kk x => Wjj σ (A m) (A kk) (A x)
 | .call f args => M.call f (args.map A) σ
 | .callv x args => Qhl M σ (A x) (args.map A)
 | _ => none
theorem Wc6 {A T : Arg → V} {σ : Objs} {i : Ins} (h : Qky i = false) : Qaw M.call A T σ i = (valV A T σ i).map fun v => (v, σ) := by
 have pc : ∀ x : Option V, (x.bind fun v => some (v.ng, σ)) = (pu x).map fun v => (v, σ) := fun x => by cases x <;> rfl
 have pc2 : ∀ x : Option V, (x.bind fun v => some (v, σ)) = x.map fun v => (v, σ) := fun x => by cases x <;> rfl
 cases i with
 | alloc z => cases h
 | box x => cases h
 | store => cases h
 | loadT => cases h
 | appH => cases h
 | bytesH => cases h
 | mkmp => cases h
 | mset => cases h
 | call => cases h
 | callv => cases h
 | mv x tk => cases tk <;> rfl
 | buildSl ag sz len z parts hh =>
  cases hh with
  | true => cases h
  | false =>
   simp only [valV, Qaw, Qau, Bool.false_eq_true, if_false, Option.bind_eq_bind]
   cases Qc9 sz (List.replicate len z) (parts.map fun x => (x.1, A x.2)) with
   | none => rfl
   | some xs =>
    simp only [Option.bind_some]
    split <;> rfl
 | buildG ag sz len z parts =>
  simp only [valV, Qaw, Qu6, Option.bind_eq_bind]
  cases Qc9 sz (List.replicate len z) (parts.map fun x => (x.1, A x.2)) with
  | none => rfl
  | some xs =>
   simp only [Option.bind_some]
   split <;> rfl
 | mark x =>
  simp only [valV, Qaw, Wf0]
  generalize T x = v
  cases v with
  | sl xs c => cases c <;> rfl
  | _ => rfl
 | app str ag sz bytes x y tk =>
  cases tk <;>
  ·simp only [valV, Qaw, appV, Option.bind_eq_bind, if_true, Bool.false_eq_true, if_false]
   cases Qes str σ (A y) with
   | none => rfl
   | some ys => simp only [Option.bind_some]; exact pc2 _
 | mkSl ag sz bytes z l c hh =>
  cases hh with
  | true => cases h
  | false =>
   simp only [valV, Qaw, mkFV, Bool.false_eq_true, if_false, Option.bind_eq_bind]
   cases Qe8 (A l) with
   | none => rfl
   | some l =>
    cases Qe8 (A c) with
    | none => rfl
    | some c =>
     simp only [Option.bind_some]
     split <;> rfl
 | conv c x =>
  cases c with
  | strBytes => simp only [valV, Qaw, Option.bind_eq_bind]; exact pc2 _
  | _ => simp only [valV, Qaw, Option.bind_eq_bind]; exact pc _
 | _ => simp only [valV, Qaw, Option.bind_eq_bind]; exact pc _
theorem Wc7 {A T : Arg → V} {σ : Objs} {i : Ins} (h : Qky i = true) : Qaw M.call A T σ i = effV M A T σ i := by
 cases i with
 | alloc z => simp only [effV, Qaw, Wa0]; cases Qal z <;> rfl
 | box x => rfl
 | loadT x => rfl
 | appH => rfl
 | bytesH => rfl
 | mkmp => rfl
 | mset m k x => rfl
 | call => rfl
 | callv => rfl
 | buildSl ag sz len z parts hh =>
  cases hh with
  | true => simp only [effV, Qaw, Qu5, if_true]
  | false => cases h
 | mkSl ag sz bytes z l c hh =>
  cases hh with
  | true => simp only [effV, Qaw, mkHV, if_true]
  | false => cases h
 | store sz p x tk =>
  cases tk <;>
  ·simp only [effV, Qaw, stV, if_true, Bool.false_eq_true, if_false]
   generalize A p = pv
   cases pv with
   | ptr o off =>
    simp only [Option.bind_eq_bind]
    cases Objs.get σ o with
    | none => rfl
    | some cs =>
     simp only [Option.bind_some]
     split
     ·generalize A x = xv
      cases xv <;> rfl
     ·rfl
   | _ => rfl
 | _ => cases h
def gdv (g : V) (t : Bool) (x : Option V) : Option V :=
 match g with
 | .bool b => if b == t then x else some .undef
 | .undef => some .undef
 | _ => none
def gdp (g : V) (t : Bool) (x : Ro) (σ : Objs) : Ro :=
 match g with
 | .bool b => if b == t then x else some (.undef, σ)
 | .undef => some (.undef, σ)
 | _ => none
def insK (ρ : List V) (σ : Objs) (k : V → Objs → Ro) (i : Ins) : Ro :=
 match Qky i with
 | false => bd (valV (arg M.G ρ) (argT M.G ρ) σ i) fun v => k v σ
 | true => bd (effV M (arg M.G ρ) (argT M.G ρ) σ i) fun p => k p.1 p.2
theorem Wc8 (ρ : List V) (σ : Objs) (k : V → Objs → Ro) (i : Ins) : insK M ρ σ k i = bd (Qaw M.call (arg M.G ρ) (argT M.G ρ) σ i) fun p => k p.1 p.2 := by
 unfold insK
 cases h : Qky i with
 | false => simp only [Wc6 M h, Wfz]
 | true => simp only [Wc7 M h]
def Qkz (s : Step) (k : List V → Objs → Ro) (ρ : List V) (σ : Objs) : Ro :=
 match s.gd with
 | none => insK M ρ σ (fun v σ' => k (put (unslot ρ s.ins.takes.1 s.ins.takes.2) s.dst v) σ') s.ins
 | some (g, b) =>
  match s.ins.takes.2 with
  | true => gd (ρ.getD g .undef) b (insK M ρ σ (fun v σ' => k (put (unslot ρ s.ins.takes.1 s.ins.takes.2) s.dst v) σ') s.ins) (k (put ρ s.dst .undef) σ)
  | false =>
   match Qky s.ins with
   | false => bd (gdv (ρ.getD g .undef) b (valV (arg M.G ρ) (argT M.G ρ) σ s.ins)) fun v => k (put ρ s.dst v) σ
   | true => bd (gdp (ρ.getD g .undef) b (effV M (arg M.G ρ) (argT M.G ρ) σ s.ins) σ) fun p => k (put ρ s.dst p.1) p.2
def pk (k : List V → Objs → Ro) (p : List V × Objs) : Ro := k p.1 p.2
theorem Qu7 (s : Step) (k : List V → Objs → Ro) (ρ : List V) (σ : Objs) : bd (ev1 M.G M.call s ρ σ) (pk k) = insK M ρ σ (fun v σ' => k (put (unslot ρ s.ins.takes.1 s.ins.takes.2) s.dst v) σ') s.ins := by
 rw [Wc8]
 unfold ev1
 simp only [Option.bind_eq_bind]
 cases Qaw M.call (arg M.G ρ) (argT M.G ρ) σ s.ins <;> rfl
theorem Qrg (s : Step) (k : List V → Objs → Ro) (ρ : List V) (σ : Objs) : Qkz M s k ρ σ = bd (Qbq M.G M.call s ρ σ) (pk k) := by
 unfold Qkz Qbq wanted
 cases hs : s.gd with
 | none => simp only [Option.bind_eq_bind, Option.bind_some, if_true]; exact (Qu7 M s k ρ σ).symm
 | some p =>
  obtain ⟨g, b⟩ := p
  simp only
  generalize ρ.getD g .undef = gv
  have hu : s.ins.takes.2 = false → unslot ρ s.ins.takes.1 s.ins.takes.2 = ρ := fun h => by rw [h]; cases s.ins.takes.1 <;> rfl
  cases ht : s.ins.takes.2 with
  | true =>
   rw [ht] at hu
   simp only
   have h1 := Qu7 M s k ρ σ
   rw [ht] at h1
   cases gv with
   | bool t =>
    simp only [gd, Option.bind_eq_bind, Option.bind_some]
    cases t == b
    ·rfl
    ·exact h1.symm
   | _ => rfl
  | false =>
   simp only
   have h1 := Qu7 M s k ρ σ
   rw [hu ht] at h1
   unfold insK at h1
   cases he : Qky s.ins with
   | false =>
    rw [he] at h1
    simp only
    cases gv with
    | bool t =>
     simp only [gdv, Option.bind_eq_bind, Option.bind_some]
     cases t == b
     ·rfl
     ·exact h1.symm
    | _ => rfl
   | true =>
    rw [he] at h1
    simp only
    cases gv with
    | bool t =>
     simp only [gdp, Option.bind_eq_bind, Option.bind_some]
     cases t == b
     ·rfl
     ·exact h1.symm
    | _ => rfl
def Qn2 : List V → (List V → Ro) → Ro
 | [], k => k []
 | x :: xs, k => Qn2 xs fun ys => k (x :: ys)
theorem Qdu : ∀ (l : List V) (k : List V → Ro), Qn2 l k = k l
 | [], k => rfl
 | x :: xs, k => by unfold Qn2; rw [Qdu xs]
def Qgn : List Step → (List V → Objs → Ro) → List V → Objs → Ro
 | [], k, ρ, σ => k ρ σ
 | s :: r, k, ρ, σ => Qkz M s (fun ρ' σ' => Qn2 ρ' fun ρ'' => Qgn r k ρ'' σ') ρ σ
theorem Qn3 : ∀ (l : List Step) (k : List V → Objs → Ro) (ρ : List V) (σ : Objs), Qgn M l k ρ σ = bd (Qcr M.G M.call l ρ σ) (pk k)
 | [], k, ρ, σ => rfl
 | s :: r, k, ρ, σ => by
  simp only [Qgn, Qcr, Qrg, Qdu, Option.bind_eq_bind, Qfj]
  congr 1
  funext p
  obtain ⟨ρ', σ'⟩ := p
  simp only [pk]
  exact Qn3 r k ρ' σ'
def Qj3 (seen : List Rd) (σ : Objs) : Option Objs := Qgg σ (seen.filterMap Rd.cell)
def Qg2 (seen : List Rd) (σ σ1 : Objs) : Option Objs := (Qef σ1 (seen.filterMap Rd.cell)).bind fun σ' => if seen.all (stable σ σ') then some σ' else none
def Qe4 (ag : Bool) (sz : Nat) (x : V) : Rd := match x with | .ptr o off => .same false o off (if ag then sz else 1) | _ => .none
def Qct (σ : Objs) (x : V) : Rd :=
 match x with
 | .ptr o off =>
  match (Objs.get σ o).bind (·[off]?) with
  | some (.sl _ (.gr _)) => .took o off
  | _ => .same true o off 1
 | _ => .none
def rdOf (A : Arg → V) (σ : Objs) : Ins → Rd
 | .load ag sz x => Qe4 ag sz (A x)
 | .loadT x => Qct σ (A x)
 | .alloc _ | .box _ => .made σ.length
 | _ => .none
theorem Wc9 (A : Arg → V) (σ : Objs) (i : Ins) : rdOf A σ i = reads A σ i := by cases i <;> rfl
def rdG (g : V) (b : Bool) (r : Rd) : Rd := match g with | .bool t => if t == b then r else .none | _ => .none
theorem Wf1 (gv : V) (b : Bool) (r : Rd) : rdG gv b r = if ((match gv with | .bool t => some (t == b) | .undef => some false | _ => none : Option Bool).getD false) = true then r else .none := by cases gv <;> simp [rdG]
def drwK (past : List Rd) : List DS → (List V → Objs → Ro) → List V → Objs → Ro
 | [], k, ρ, σ => k ρ σ
 | d :: r, k, ρ, σ =>
  bd (Qj3 (d.un.map fun k => past.getD k .none) σ) fun σ0 =>
   Qkz M d.s (fun ρ1 σ1 => Qn2 ρ1 fun ρ' => bd (Qg2 (d.un.map fun k => past.getD k .none) σ σ1) fun σ' =>
    drwK (past ++ [match d.s.gd with | none => rdOf (arg M.G ρ) σ d.s.ins | some (g, b) => rdG (ρ.getD g .undef) b (rdOf (arg M.G ρ) σ d.s.ins)]) r k ρ' σ') ρ σ0
theorem Wda (ρ : List V) (σ : Objs) (g : Option (Nat × Bool)) (i : Ins) : (match g with | none => rdOf (arg M.G ρ) σ i | some (g, b) => rdG (ρ.getD g .undef) b (rdOf (arg M.G ρ) σ i)) = if (wanted ρ g).getD false then reads (arg M.G ρ) σ i else .none := by
 rw [Wc9]
 cases g with
 | none => simp [wanted]
 | some p =>
  obtain ⟨g, b⟩ := p
  exact Wf1 (ρ.getD g .undef) b (reads (arg M.G ρ) σ i)
theorem Qu8 : ∀ (l : List DS) (past : List Rd) (k : List V → Objs → Ro) (ρ : List V) (σ : Objs), drwK M past l k ρ σ = bd (Qgh M.G M.call past l ρ σ) (pk k)
 | [], past, k, ρ, σ => rfl
 | d :: r, past, k, ρ, σ => by
  simp only [drwK, Qgh, Qj3, Qg2, Wda, Option.bind_eq_bind, Qrg, Qdu, Qfj]
  congr 1
  funext σ0
  congr 1
  funext p
  obtain ⟨ρ', σ1⟩ := p
  simp only [pk]
  congr 1
  funext σ'
  split
  ·rw [Qce]; exact Qu8 r _ k ρ' σ'
  ·rfl
def Qi6 (live : List Nat) : Nat → List V → List V
 | _, [] => []
 | i, x :: xs => if live.contains i then x :: Qi6 live (i + 1) xs else Qi6 live (i + 1) xs
def expd (live : List Nat) : Nat → Nat → Nat → List V → List V
 | _, 0, _, _ => []
 | i, n + 1, p, vs => if live.contains i then vs.getD p .undef :: expd live (i + 1) n (p + 1) vs else .any :: expd live (i + 1) n p vs
def cutL (n : Nat) (σ : Objs) (live : List Nat) : Nat → List V → (List V → Ro) → Ro
 | _, [], k => k []
 | i, x :: xs, k => if live.contains i then bd (fz n σ fzD x) fun y => cutL n σ live (i + 1) xs fun ys => k (y :: ys) else cutL n σ live (i + 1) xs k
theorem Qid (n : Nat) (σ : Objs) (live : List Nat) : ∀ (xs : List V) (i : Nat) (k : List V → Ro), cutL n σ live i xs k = bd (Qas n σ live i xs) fun ys => k (Qi6 live i ys)
 | [], i, k => rfl
 | x :: xs, i, k => by
  rw [Qn0]
  simp only [cutL]
  by_cases h : live.contains i = true
  ·simp only [if_pos h, Qfj]
   congr 1
   funext y
   rw [Qid n σ live xs (i + 1)]
   cases Qas n σ live (i + 1) xs with
   | none => rfl
   | some ys => simp only [Option.bind_some, Qce, Qi6, if_pos h]
  ·simp only [if_neg h]
   rw [Qid n σ live xs (i + 1)]
   simp only [Option.bind_some]
   cases Qas n σ live (i + 1) xs with
   | none => rfl
   | some ys => simp only [Option.bind_some, Qce, Qi6, if_neg h]
theorem Qdo (n : Nat) (σ : Objs) (live : List Nat) : ∀ (xs : List V) (i : Nat) (ys : List V), Qas n σ live i xs = some ys → ∀ (p : Nat) (vs : List V), vs.drop p = Qi6 live i ys → expd live i xs.length p vs = ys
 | [], i, ys, h, p, vs, _ => by cases h; rfl
 | x :: xs, i, ys, h, p, vs, hv => by
  rw [Qn0] at h
  simp only [Option.bind_eq_some_iff, Option.some.injEq] at h
  obtain ⟨y, hy, zs, hz, he⟩ := h
  subst he
  simp only [List.length_cons, expd]
  by_cases hc : live.contains i = true
  ·simp only [if_pos hc]
   simp only [Qi6, if_pos hc] at hv
   have h0 : vs[p]? = some y := by
    have := congrArg (·[0]?) hv
    simpa using this
   have h1 : vs.drop (p + 1) = Qi6 live (i + 1) zs := by
    have := congrArg List.tail hv
    simpa [List.tail_drop] using this
   rw [Qdo n σ live xs (i + 1) zs hz (p + 1) vs h1]
   simp [List.getD_eq_getElem?_getD, h0]
  ·simp only [if_neg hc]
   simp only [Qi6, if_neg hc] at hv
   simp only [if_neg hc] at hy
   cases hy
   rw [Qdo n σ live xs (i + 1) zs hz p vs hv]
theorem Qcw (n : Nat) (σ : Objs) (live : List Nat) : ∀ (xs : List V) (i : Nat) (ys : List V), Qas n σ live i xs = some ys → ys.length = xs.length
 | [], i, ys, h => by cases h; rfl
 | x :: xs, i, ys, h => by
  rw [Qn0] at h
  simp only [Option.bind_eq_some_iff, Option.some.injEq] at h
  obtain ⟨y, hy, zs, hz, he⟩ := h
  subst he
  simp [Qcw n σ live xs (i + 1) zs hz]
def Qn4 (nt n : Nat) (lin lout : List Nat) (K : Kt) (rec : List V → Objs → Ro) : Kt where
 nm := fun ρ σ => cutL n σ lin 0 ρ fun ys => bd (cuO n σ) fun σ' => rec ys σ'
 ex := fun i ρ σ => cutL n σ lout 0 ρ fun ys => bd (cuO n σ) fun σ' => K.ex i (expd lout 0 nt 0 ys) σ'
 rt := fun ρ σ => cutL n σ lout 0 ρ fun ys => bd (cuO n σ) fun σ' => K.rt (expd lout 0 nt 0 ys) σ'
def cdK : Cd → Kt → List V → Objs → Ro
 | .skip, K, ρ, σ => K.nm ρ σ
 | .ret, K, ρ, σ => K.rt ρ σ
 | .exit id, K, ρ, σ => K.ex id ρ σ
 | .ops _ l, K, ρ, σ => Qgn M l K.nm ρ σ
 | .drw _ l, K, ρ, σ => drwK M [] l K.nm ρ σ
 | .seq a b, K, ρ, σ => cdK a ⟨fun ρ' σ' => cdK b K ρ' σ', K.ex, K.rt⟩ ρ σ
 | .cond c a b, K, ρ, σ => br (arg M.G ρ c) (cdK a K ρ σ) (cdK b K ρ σ)
 | .block id b, K, ρ, σ => cdK b ⟨K.nm, fun i ρ' σ' => if i = id then K.nm ρ' σ' else K.ex i ρ' σ', K.rt⟩ ρ σ
 | .loop lin lout b, K, ρ, σ => cutL σ.length σ lin 0 ρ fun ys => M.fx (fun rec vs σ1 => cdK b (Qn4 ρ.length σ.length lin lout K rec) (expd lin 0 ρ.length 0 vs) σ1) ys σ
end
def iter (F : (List V → Objs → Ro) → List V → Objs → Ro) (k : Nat) : List V → Objs → Ro :=
 Nat.rec (fun _ _ => none) (fun _ r => F r) k
def Len (n : Nat) : Ran → Prop
 | some (_, ρ, _) => ρ.length = n
 | none => True
section
variable {G : GV} {call : FuncId → List V → Objs → Ro}
theorem Qrh {s : Step} {ρ ρ' : List V} {σ σ' : Objs} (h : Qbq G call s ρ σ = some (ρ', σ')) : ρ'.length = ρ.length := by
 unfold Qbq at h
 simp only [Option.bind_eq_bind, Option.bind_eq_some_iff] at h
 obtain ⟨b, _, h⟩ := h
 split at h
 ·unfold ev1 at h
  simp only [Option.bind_eq_bind, Option.bind_eq_some_iff] at h
  obtain ⟨p, _, h⟩ := h
  cases h
  rw [Ql8, Qf4]
 ·cases h; exact Ql8 _ _
theorem Qn5 : ∀ {l : List Step} {ρ ρ' : List V} {σ σ' : Objs}, Qcr G call l ρ σ = some (ρ', σ') → ρ'.length = ρ.length
 | [], ρ, ρ', σ, σ', h => by cases h; rfl
 | s :: r, ρ, ρ', σ, σ', h => by
  simp only [Qcr, Option.bind_eq_bind, Option.bind_eq_some_iff] at h
  obtain ⟨p, h1, h2⟩ := h
  rw [Qn5 (l := r) (ρ := p.1) (σ := p.2) h2, Qrh (ρ' := p.1) (σ' := p.2) h1]
theorem Qu9 : ∀ {l : List DS} {past : List Rd} {ρ ρ' : List V} {σ σ' : Objs}, Qgh G call past l ρ σ = some (ρ', σ') → ρ'.length = ρ.length
 | [], past, ρ, ρ', σ, σ', h => by cases h; rfl
 | d :: r, past, ρ, ρ', σ, σ', h => by
  simp only [Qgh, Option.bind_eq_bind, Option.bind_eq_some_iff] at h
  obtain ⟨σ0, _, p, h1, σ2, _, h2⟩ := h
  split at h2
  ·rw [Qu9 (l := r) (ρ := p.1) (σ := σ2) h2, Qrh (ρ' := p.1) (σ' := p.2) h1]
  ·cases h2
theorem Qn6 {lin lout : List Nat} {n nt : Nat} {rd : List V → Objs → Ran} (hrd : ∀ ρ σ, ρ.length = nt → Len nt (rd ρ σ)) : ∀ (k : Nat) (ρ : List V) (σ : Objs), ρ.length = nt → Len nt (Qi5 lin lout n rd k ρ σ)
 | 0, ρ, σ, h => trivial
 | k + 1, ρ, σ, h => by
  unfold Qi5
  have h1 := hrd ρ σ h
  cases hr : rd ρ σ with
  | none => trivial
  | some p =>
   obtain ⟨e, ρ', σ'⟩ := p
   rw [hr] at h1
   have h1' : ρ'.length = nt := h1
   have fin : ∀ (e : Out) (live : List Nat), Len nt ((do let ρ'' ← Qas n σ' live 0 ρ'; let σ'' ← cuO n σ'; some (e, ρ'', σ'')) : Ran) := by
    intro e live
    simp only [Option.bind_eq_bind]
    cases hc : Qas n σ' live 0 ρ' with
    | none => trivial
    | some ys =>
     simp only [Option.bind_some]
     cases cuO n σ' with
     | none => trivial
     | some s => exact (Qcw n σ' live ρ' 0 ys hc).trans h1'
   cases e with
   | norm =>
    simp only [Option.bind_eq_bind]
    cases hc : Qas n σ' lin 0 ρ' with
    | none => trivial
    | some ys =>
     simp only [Option.bind_some]
     cases cuO n σ' with
     | none => trivial
     | some s => exact Qn6 hrd k ys s ((Qcw n σ' lin ρ' 0 ys hc).trans h1')
   | ex i => exact fin (.ex i) lout
   | ret => exact fin .ret lout
theorem Qj4 (fuel : Nat) : ∀ (c : Cd) (ρ : List V) (σ : Objs), Len ρ.length (evCd G call fuel c ρ σ)
 | .skip, ρ, σ => rfl
 | .ret, ρ, σ => rfl
 | .exit id, ρ, σ => rfl
 | .ops _ l, ρ, σ => by
  simp only [evCd]
  cases h : Qcr G call l ρ σ with
  | none => trivial
  | some p => exact Qn5 (ρ' := p.1) (σ' := p.2) h
 | .drw _ l, ρ, σ => by
  simp only [evCd]
  cases h : Qgh G call [] l ρ σ with
  | none => trivial
  | some p => exact Qu9 (ρ' := p.1) (σ' := p.2) h
 | .seq a b, ρ, σ => by
  have ha := Qj4 fuel a ρ σ
  simp only [evCd]
  cases h : evCd G call fuel a ρ σ with
  | none => trivial
  | some p =>
   obtain ⟨e, ρ', σ'⟩ := p
   rw [h] at ha
   have ha' : ρ'.length = ρ.length := ha
   cases e with
   | norm => simp only; rw [← ha']; exact Qj4 fuel b ρ' σ'
   | ex i => exact ha
   | ret => exact ha
 | .cond c a b, ρ, σ => by
  simp only [evCd]
  split
  ·exact Qj4 fuel a ρ σ
  ·exact Qj4 fuel b ρ σ
  ·trivial
 | .block id b, ρ, σ => by
  have hb := Qj4 fuel b ρ σ
  simp only [evCd]
  cases h : evCd G call fuel b ρ σ with
  | none => trivial
  | some p =>
   obtain ⟨e, ρ', σ'⟩ := p
   rw [h] at hb
   cases e with
   | norm => exact hb
   | ex i => simp only; split <;> exact hb
   | ret => exact hb
 | .loop lin lout b, ρ, σ => by
  simp only [evCd, Option.bind_eq_bind]
  cases hc : Qas σ.length σ lin 0 ρ with
  | none => trivial
  | some ys =>
   simp only [Option.bind_some]
   have hl := Qcw _ _ _ _ _ _ hc
   refine Qn6 (nt := ρ.length) (fun ρ1 σ1 h1 => ?_) _ _ _ hl
   rw [← h1]; exact Qj4 fuel b ρ1 σ1
end
theorem Qva {nt n : Nat} {lin lout : List Nat} {rd : List V → Objs → Ran} {K : Kt} {F : (List V → Objs → Ro) → List V → Objs → Ro}
  (hlen : ∀ ρ σ, ρ.length = nt → Len nt (rd ρ σ))
  (hF : ∀ rec ρ σ, ρ.length = nt → ∀ vs, expd lin 0 nt 0 vs = ρ → F rec vs σ = kc (Qn4 nt n lin lout K rec) (rd ρ σ)) :
  ∀ (k : Nat) (ρ : List V) (σ : Objs), ρ.length = nt → ∀ vs, expd lin 0 nt 0 vs = ρ → iter F k vs σ = kc K (Qi5 lin lout n rd k ρ σ)
 | 0, ρ, σ, hl, vs, he => rfl
 | k + 1, ρ, σ, hl, vs, he => by
  show F (iter F k) vs σ = _
  rw [hF (iter F k) ρ σ hl vs he]
  unfold Qi5
  have h1 := hlen ρ σ hl
  cases hr : rd ρ σ with
  | none => rfl
  | some p =>
   obtain ⟨e, ρ', σ'⟩ := p
   rw [hr] at h1
   have h1' : ρ'.length = nt := h1
   cases e with
   | norm =>
    show cutL n σ' lin 0 ρ' (fun ys => bd (cuO n σ') fun σ'' => iter F k ys σ'') = _
    rw [Qid]
    simp only [Option.bind_eq_bind]
    cases hc : Qas n σ' lin 0 ρ' with
    | none => rfl
    | some ys =>
     simp only [Option.bind_some, Qce]
     cases cuO n σ' with
     | none => rfl
     | some s =>
      have hex := Qdo n σ' lin ρ' 0 ys hc 0 (Qi6 lin 0 ys) rfl
      rw [h1'] at hex
      exact Qva hlen hF k ys s ((Qcw n σ' lin ρ' 0 ys hc).trans h1') _ hex
   | ex i =>
    show cutL n σ' lout 0 ρ' (fun ys => bd (cuO n σ') fun σ'' => K.ex i (expd lout 0 nt 0 ys) σ'') = _
    rw [Qid]
    simp only [Option.bind_eq_bind]
    cases hc : Qas n σ' lout 0 ρ' with
    | none => rfl
    | some ys =>
     simp only [Option.bind_some, Qce]
     cases cuO n σ' with
     | none => rfl
     | some s =>
      have hex := Qdo n σ' lout ρ' 0 ys hc 0 (Qi6 lout 0 ys) rfl
      rw [h1'] at hex
      simp only [Qce, hex, Option.bind_some]
      rfl
   | ret =>
    show cutL n σ' lout 0 ρ' (fun ys => bd (cuO n σ') fun σ'' => K.rt (expd lout 0 nt 0 ys) σ'') = _
    rw [Qid]
    simp only [Option.bind_eq_bind]
    cases hc : Qas n σ' lout 0 ρ' with
    | none => rfl
    | some ys =>
     simp only [Option.bind_some, Qce]
     cases cuO n σ' with
     | none => rfl
     | some s =>
      have hex := Qdo n σ' lout ρ' 0 ys hc 0 (Qi6 lout 0 ys) rfl
      rw [h1'] at hex
      simp only [Qce, hex, Option.bind_some]
      rfl
theorem Qj5 (G : GV) (call : FuncId → List V → Objs → Ro) (k : Nat) : ∀ (c : Cd) (K : Kt) (ρ : List V) (σ : Objs),
  cdK ⟨G, call, fun F => iter F k⟩ c K ρ σ = kc K (evCd G call k c ρ σ)
 | .skip, K, ρ, σ => rfl
 | .ret, K, ρ, σ => rfl
 | .exit id, K, ρ, σ => rfl
 | .ops _ l, K, ρ, σ => by
  simp only [cdK, evCd, Qn3]
  cases Qcr G call l ρ σ <;> rfl
 | .drw _ l, K, ρ, σ => by
  simp only [cdK, evCd, Qu8]
  cases Qgh G call [] l ρ σ <;> rfl
 | .seq a b, K, ρ, σ => by
  simp only [cdK, evCd]
  rw [Qj5 G call k a]
  cases h : evCd G call k a ρ σ with
  | none => rfl
  | some p =>
   obtain ⟨e, ρ', σ'⟩ := p
   cases e with
   | norm => exact Qj5 G call k b K ρ' σ'
   | ex i => rfl
   | ret => rfl
 | .cond c a b, K, ρ, σ => by
  simp only [cdK, evCd]
  rw [Qj5 G call k a, Qj5 G call k b]
  generalize arg G ρ c = v
  cases v with
  | bool t => cases t <;> rfl
  | _ => rfl
 | .block id b, K, ρ, σ => by
  simp only [cdK, evCd]
  rw [Qj5 G call k b]
  cases evCd G call k b ρ σ with
  | none => rfl
  | some p =>
   obtain ⟨e, ρ', σ'⟩ := p
   cases e with
   | norm => rfl
   | ex i => simp only [kc]; split <;> rfl
   | ret => rfl
 | .loop lin lout b, K, ρ, σ => by
  simp only [cdK, evCd, Option.bind_eq_bind]
  rw [Qid]
  cases hc : Qas σ.length σ lin 0 ρ with
  | none => rfl
  | some ys =>
   simp only [Option.bind_some, Qce]
   have hl := Qcw _ _ _ _ _ _ hc
   refine Qva (rd := evCd G call k b) (fun ρ1 σ1 h1 => by rw [← h1]; exact Qj4 k b ρ1 σ1) (fun rec ρ1 σ1 h1 vs he => ?_) k ys σ hl _ (Qdo _ _ _ _ 0 _ hc 0 _ rfl)
   rw [he]
   exact Qj5 G call k b _ ρ1 σ1
def resC (σ : Objs) (ag : Bool) (sz : Nat) (p : V) : Option V :=
 match p with
 | .ptr o off => do
  let cs ← Objs.get σ o
  part ag sz cs off
 | _ => none
def resK (ρ : List V) (σ : Objs) : List Res → (List V → Ro) → Ro
 | [], k => k []
 | .tmp t :: r, k => resK ρ σ r fun vs => k (ρ.getD t .undef :: vs)
 | .cell t ag sz :: r, k => bd (resC σ ag sz (ρ.getD t .undef)) fun v => resK ρ σ r fun vs => k (v :: vs)
def oK (keep : Bool) (v : V) : Option V := if v.one || agOk true v then some (Qnf keep v) else none
def nK (n : Nat) (σ : Objs) (r : V) : Ro := bd (cuO n σ) fun σ' => bd (fz n σ fzD r) fun r' => some (r', σ')
def finK (keep : Bool) (res : List Res) (n : Nat) (ρ : List V) (σ : Objs) : Ro :=
 match res with
 | [r] => resK ρ σ [r] fun vs => bd (oK keep (vs.headD .undef)) (nK n σ)
 | rs => resK ρ σ rs fun vs => nK n σ (.tup (vs.map V.ng))
theorem Qj6 (ρ : List V) (σ : Objs) : ∀ (rs : List Res) (k : List V → Ro), resK ρ σ rs k = bd (rs.mapM (resV ρ σ)) k
 | [], k => by rw [List.mapM_nil]; rfl
 | .tmp t :: r, k => by
  simp only [resK, List.mapM_cons, Option.bind_eq_bind, resV, Option.bind_some, Qfj, Qj6 ρ σ r]
  congr 1
 | .cell t ag sz :: r, k => by
  simp only [resK, List.mapM_cons, Option.bind_eq_bind, Qfj, Qj6 ρ σ r]
  have : resC σ ag sz (ρ.getD t .undef) = resV ρ σ (.cell t ag sz) := rfl
  rw [this]
  congr 1
theorem Qvb (keep : Bool) (res : List Res) (n : Nat) (ρ : List V) (σ : Objs) :
  finK keep res n ρ σ = bd (Ev.results keep ρ σ res) fun r => bd (cuO n σ) fun σ'' => bd (fz n σ fzD r) fun r' => some (r', σ'') := by
 match res with
 | [] => simp only [finK, Ev.results, Qj6, Option.bind_eq_bind, Qfj, List.mapM_nil]; rfl
 | [r] =>
  simp only [finK, Ev.results, Qj6, Option.bind_eq_bind, Qfj, List.mapM_cons, List.mapM_nil]
  congr 1
 | a :: b :: r =>
  simp only [finK, Ev.results, Qj6, Option.bind_eq_bind, Qfj]
  congr 1
def fnK (M : Mach) (F : Fn) (args : List V) (σ : Objs) : Ro :=
 cdK M F.body ⟨finK F.keep F.res σ.length, fun _ _ _ => none, finK F.keep F.res σ.length⟩ (args ++ List.replicate (F.nt - args.length) .undef) σ
theorem Wf2 (G : GV) (call : FuncId → List V → Objs → Ro) (k : Nat) {F : Fn} (he : F.esc = false) (args : List V) (σ : Objs) : fnK ⟨G, call, fun F => iter F k⟩ F args σ = evFn G call F k args σ := by
 unfold fnK evFn
 rw [Qj5]
 simp only [he, Option.bind_eq_bind]
 have hb : ∀ (x : Ro) (f : V × Objs → Ro), bd x f = x.bind f := fun x f => by cases x <;> rfl
 have hb2 : ∀ {α : Type} (x : Option α) (f : α → Ro), bd x f = x.bind f := fun x f => by cases x <;> rfl
 cases evCd G call k F.body (args ++ List.replicate (F.nt - args.length) .undef) σ with
 | none => rfl
 | some p =>
  obtain ⟨o, ρ, σ'⟩ := p
  cases o with
  | norm => simp only [kc, Qvb, hb2, Option.bind_some]
  | ret => simp only [kc, Qvb, hb2, Option.bind_some]
  | ex i => rfl
end Go.Ev
namespace Go.Ev
open Go
section
variable {α β : Type}
def Grow (s : Nat → Option β) : Prop := ∀ n r, s n = some r → s (n + 1) = some r
theorem Grow.le {s : Nat → Option β} (h : Grow s) {n r} (hn : s n = some r) : ∀ d, s (n + d) = some r
 | 0 => hn
 | d + 1 => h _ _ (h.le hn d)
theorem Grow.le' {s : Nat → Option β} (h : Grow s) {n m r} (hn : s n = some r) (hm : n ≤ m) : s m = some r := by
 obtain ⟨d, rfl⟩ := Nat.exists_eq_add_of_le hm
 exact h.le hn d
structure IsLim (s : Nat → Option β) (x : Option β) : Prop where
 up : Grow s
 iff : ∀ r, x = some r ↔ ∃ n, s n = some r
theorem IsLim.uniq {s : Nat → Option β} {x y : Option β} (h : IsLim s x) (g : IsLim s y) : x = y := by
 cases x with
 | none =>
  cases y with
  | none => rfl
  | some r => exact absurd ((h.iff r).2 ((g.iff r).1 rfl)) (by simp)
 | some r => exact ((g.iff r).2 ((h.iff r).1 rfl)).symm
theorem IsLim.const (x : Option β) : IsLim (fun _ => x) x := ⟨fun _ _ h => h, fun r => ⟨fun h => ⟨0, h⟩, fun ⟨_, h⟩ => h⟩⟩
theorem IsLim.shift {s : Nat → Option β} {x : Option β} (h : IsLim s x) (d : Nat) : IsLim (fun n => s (n + d)) x := by
 refine ⟨fun n r hn => ?_, fun r => ⟨fun hx => ?_, fun ⟨n, hn⟩ => (h.iff r).2 ⟨_, hn⟩⟩⟩
 ·have := h.up _ _ hn
  rw [show n + 1 + d = n + d + 1 by omega]; exact this
 ·obtain ⟨n, hn⟩ := (h.iff r).1 hx
  exact ⟨n, h.up.le hn d⟩
theorem IsLim.bd {s : Nat → Option α} {x : Option α} {f : Nat → α → Ro} {g : α → Ro} (h : IsLim s x) (hf : ∀ a, IsLim (fun n => f n a) (g a)) : IsLim (fun n => Ev.bd (s n) (f n)) (Ev.bd x g) := by
 refine ⟨fun n r hn => ?_, fun r => ⟨fun hx => ?_, fun ⟨n, hn⟩ => ?_⟩⟩
 ·cases hs : s n with
  | none => simp only [hs] at hn; cases hn
  | some a =>
   simp only [hs] at hn
   simp only [h.up _ _ hs]
   exact (hf a).up _ _ hn
 ·cases hs : x with
  | none => rw [hs] at hx; cases hx
  | some a =>
   rw [hs] at hx
   obtain ⟨n, hn⟩ := (h.iff a).1 hs
   obtain ⟨m, hm⟩ := ((hf a).iff r).1 hx
   refine ⟨n + m, ?_⟩
   simp only [h.up.le hn m]
   rw [show n + m = m + n by omega]
   exact (hf a).up.le hm n
 ·cases hs : s n with
  | none => simp only [hs] at hn; cases hn
  | some a =>
   simp only [hs] at hn
   rw [(h.iff a).2 ⟨n, hs⟩]
   exact ((hf a).iff r).2 ⟨n, hn⟩
theorem IsLim.diag {s : Nat → Nat → Option β} {x : Nat → Option β} {y : Option β} (h : ∀ j, IsLim (fun k => s j k) (x j)) (hj : ∀ k, Grow fun j => s j k) (hy : IsLim x y) (d : Nat) : IsLim (fun k => s (k + d) k) y := by
 refine ⟨fun k r hk => ?_, fun r => ⟨fun hx => ?_, fun ⟨k, hk⟩ => ?_⟩⟩
 ·have h1 := hj k _ _ hk
  have h2 := (h (k + d + 1)).up _ _ h1
  rw [show k + 1 + d = k + d + 1 by omega]; exact h2
 ·obtain ⟨j, hj'⟩ := (hy.iff r).1 hx
  obtain ⟨k, hk⟩ := ((h j).iff r).1 hj'
  refine ⟨j + k, ?_⟩
  have h1 : s j (j + k) = some r := by rw [show j + k = k + j by omega]; exact (h j).up.le hk j
  exact (hj (j + k)).le' h1 (by omega)
 ·exact (hy.iff r).2 ⟨k + d, ((h _).iff r).2 ⟨k, hk⟩⟩
noncomputable def lim (s : Nat → Option β) : Option β := by
 classical exact if h : ∃ r n, s n = some r then some h.choose else none
theorem Qn7 {s : Nat → Option β} (h : Grow s) : IsLim s (lim s) := by
 refine ⟨h, fun r => ?_⟩
 unfold lim
 split
 ·rename_i hx
  obtain ⟨n, hn⟩ := hx.choose_spec
  refine ⟨fun he => ?_, fun ⟨m, hm⟩ => ?_⟩
  ·cases he; exact ⟨n, hn⟩
  ·have h1 := h.le hn m
   have h2 := h.le hm n
   rw [show m + n = n + m by omega] at h2
   rw [h1] at h2
   exact h2
 ·rename_i hx
  exact ⟨fun he => (by cases he), fun ⟨m, hm⟩ => absurd ⟨r, m, hm⟩ hx⟩
end
def Le {β : Type} (x y : Option β) : Prop := ∀ r, x = some r → y = some r
theorem Le.refl {β : Type} (x : Option β) : Le x x := fun _ h => h
theorem Le.bd {α : Type} {x y : Option α} {f g : α → Ro} (h : Le x y) (hf : ∀ a, Le (f a) (g a)) : Le (Ev.bd x f) (Ev.bd y g) := by
 intro r hr
 cases hx : x with
 | none => rw [hx] at hr; cases hr
 | some a => rw [hx] at hr; rw [h a hx]; exact hf a r hr
abbrev Rk := List V → Objs → Ro
def LeF (f g : Rk) : Prop := ∀ ρ σ, Le (f ρ σ) (g ρ σ)
def LeK (K L : Kt) : Prop := LeF K.nm L.nm ∧ (∀ i, LeF (K.ex i) (L.ex i)) ∧ LeF K.rt L.rt
def LeM (M N : Mach) : Prop := M.G = N.G ∧ ∀ f args σ, Le (M.call f args σ) (N.call f args σ)
section
variable {M N : Mach}
theorem Wa1 (h : LeM M N) (A T : Arg → V) (σ : Objs) (i : Ins) : Le (effV M A T σ i) (effV N A T σ i) := by
 cases i with
 | call f args => exact h.2 _ _ _
 | callv x args =>
  show Le (Qhl M σ (A x) (args.map A)) (Qhl N σ (A x) (args.map A))
  unfold Qhl
  split
  ·exact h.2 _ _ _
  ·exact Le.refl _
 | _ => exact Le.refl _
theorem Wa2 (h : LeM M N) {k l : V → Objs → Ro} (hk : ∀ v σ, Le (k v σ) (l v σ)) (ρ : List V) (σ : Objs) (i : Ins) : Le (insK M ρ σ k i) (insK N ρ σ l i) := by
 unfold insK
 rw [h.1]
 split
 ·exact Le.bd (Le.refl _) fun v => hk v σ
 ·exact Le.bd (Wa1 h _ _ _ _) fun p => hk _ _
theorem Wf3 {x y : Ro} (h : Le x y) (g : V) (t : Bool) (σ : Objs) : Le (gdp g t x σ) (gdp g t y σ) := by
 unfold gdp
 split
 ·split
  ·exact h
  ·exact Le.refl _
 ·exact Le.refl _
 ·exact Le.refl _
theorem Wjk {x y x' y' : Ro} (h : Le x y) (h' : Le x' y') (g : V) (t : Bool) : Le (gd g t x x') (gd g t y y') := by
 unfold gd
 split
 ·split
  ·exact h
  ·exact h'
 ·exact h'
 ·exact Le.refl _
theorem Wjl {x y x' y' : Ro} (h : Le x y) (h' : Le x' y') (g : V) : Le (br g x x') (br g y y') := by
 unfold br
 split
 ·exact h
 ·exact h'
 ·exact Le.refl _
theorem Qvc (h : LeM M N) {k l : Rk} (hk : LeF k l) (s : Step) (ρ : List V) (σ : Objs) : Le (Qkz M s k ρ σ) (Qkz N s l ρ σ) := by
 unfold Qkz
 split
 ·exact Wa2 h (fun v σ => hk _ _) _ _ _
 ·split
  ·exact Wjk (Wa2 h (fun v σ => hk _ _) _ _ _) (hk _ _) _ _
  ·split
   ·rw [h.1]; exact Le.bd (Le.refl _) fun v => hk _ _
   ·rw [h.1]; exact Le.bd (Wf3 (Wa1 h _ _ _ _) _ _ _) fun v => hk _ _
theorem Qri (h : LeM M N) : ∀ (s : List Step) {k l : Rk}, LeF k l → LeF (Qgn M s k) (Qgn N s l)
 | [], k, l, hk => hk
 | s :: r, k, l, hk => fun ρ σ => by
  simp only [Qgn, Qdu]
  exact Qvc h (fun ρ' σ' => Qri h r hk ρ' σ') s ρ σ
theorem Wa3 (h : LeM M N) : ∀ (s : List DS) (past : List Rd) {k l : Rk}, LeF k l → LeF (drwK M past s k) (drwK N past s l)
 | [], past, k, l, hk => hk
 | d :: r, past, k, l, hk => fun ρ σ => by
  simp only [drwK, Qdu]
  rw [h.1]
  exact Le.bd (Le.refl _) fun σ0 => Qvc h (fun ρ' σ1 => Le.bd (Le.refl _) fun σ' => Wa3 h r _ hk ρ' σ') d.s ρ σ0
theorem Qie (n : Nat) (σ : Objs) (live : List Nat) : ∀ (xs : List V) (i : Nat) {k l : List V → Ro}, (∀ ys, Le (k ys) (l ys)) → Le (cutL n σ live i xs k) (cutL n σ live i xs l)
 | [], i, k, l, hk => hk _
 | x :: xs, i, k, l, hk => by
  unfold cutL
  split
  ·exact Le.bd (Le.refl _) fun y => Qie n σ live xs (i + 1) fun ys => hk _
  ·exact Qie n σ live xs (i + 1) hk
theorem Qmb {K L : Kt} (hK : LeK K L) {f g : Rk} (hf : LeF f g) (nt n : Nat) (lin lout : List Nat) : LeK (Qn4 nt n lin lout K f) (Qn4 nt n lin lout L g) :=
 ⟨fun ρ σ => Qie _ _ _ _ _ fun ys => Le.bd (Le.refl _) fun σ' => hf _ _, fun i ρ σ => Qie _ _ _ _ _ fun ys => Le.bd (Le.refl _) fun σ' => hK.2.1 i _ _, fun ρ σ => Qie _ _ _ _ _ fun ys => Le.bd (Le.refl _) fun σ' => hK.2.2 _ _⟩
def LeX (M N : Mach) : Prop := ∀ F F' : Rk → Rk, (∀ f g, LeF f g → LeF (F f) (F g)) → (∀ f g, LeF f g → LeF (F' f) (F' g)) → (∀ f g, LeF f g → LeF (F f) (F' g)) → LeF (M.fx F) (N.fx F')
theorem Qk0 {M N : Mach} : ∀ (c : Cd) (_ : LeM M N) (_ : LeX M N) (_ : LeM M M) (_ : LeX M M) (_ : LeM N N) (_ : LeX N N) {K L : Kt}, LeK K L → LeF (cdK M c K) (cdK N c L)
 | .skip, h, hx, a, b, c, d, K, L, hK => hK.1
 | .ret, h, hx, a, b, c, d, K, L, hK => hK.2.2
 | .exit id, h, hx, a, b, c, d, K, L, hK => hK.2.1 id
 | .ops _ l, h, hx, a, b, c, d, K, L, hK => Qri h l hK.1
 | .drw _ l, h, hx, a, b, c, d, K, L, hK => Wa3 h l [] hK.1
 | .seq x y, h, hx, a, b, c, d, K, L, hK => fun ρ σ => Qk0 x h hx a b c d (K := ⟨fun ρ' σ' => cdK M y K ρ' σ', K.ex, K.rt⟩) (L := ⟨fun ρ' σ' => cdK N y L ρ' σ', L.ex, L.rt⟩) ⟨fun ρ' σ' => Qk0 y h hx a b c d hK ρ' σ', hK.2.1, hK.2.2⟩ ρ σ
 | .cond v x y, h, hx, a, b, c, d, K, L, hK => fun ρ σ => by
  simp only [cdK]
  rw [h.1]
  exact Wjl (Qk0 x h hx a b c d hK ρ σ) (Qk0 y h hx a b c d hK ρ σ) _
 | .block id x, h, hx, a, b, c, d, K, L, hK => fun ρ σ => Qk0 x h hx a b c d (K := ⟨K.nm, fun i ρ' σ' => if i = id then K.nm ρ' σ' else K.ex i ρ' σ', K.rt⟩) (L := ⟨L.nm, fun i ρ' σ' => if i = id then L.nm ρ' σ' else L.ex i ρ' σ', L.rt⟩) ⟨hK.1, fun i ρ' σ' => by
   show Le (if i = id then K.nm ρ' σ' else K.ex i ρ' σ') (if i = id then L.nm ρ' σ' else L.ex i ρ' σ')
   split
   ·exact hK.1 _ _
   ·exact hK.2.1 _ _ _, hK.2.2⟩ ρ σ
 | .loop lin lout x, h, hx, a, b, c, d, K, L, hK => fun ρ σ => by
  simp only [cdK]
  refine Qie _ _ _ _ _ fun ys => hx _ _ (fun f g hf vs σ1 => ?_) (fun f g hf vs σ1 => ?_) (fun f g hf vs σ1 => ?_) ys σ
  ·exact Qk0 x a b a b a b (Qmb ⟨fun _ _ => Le.refl _, fun _ _ _ => Le.refl _, fun _ _ => Le.refl _⟩ hf _ _ _ _) _ _
  ·exact Qk0 x c d c d c d (Qmb ⟨fun _ _ => Le.refl _, fun _ _ _ => Le.refl _, fun _ _ => Le.refl _⟩ hf _ _ _ _) _ _
  ·exact Qk0 x h hx a b c d (Qmb hK hf _ _ _ _) _ _
theorem Qif {F F' : Rk → Rk} (hm : ∀ f g, LeF f g → LeF (F f) (F' g)) : ∀ {k l : Nat}, k ≤ l → LeF (iter F k) (iter F' l)
 | 0, l, _, ρ, σ => fun r h => by cases h
 | k + 1, 0, h, ρ, σ => by omega
 | k + 1, l + 1, h, ρ, σ => hm _ _ (Qif hm (by omega)) ρ σ
end
section
variable (G : GV)
def mk (call : FuncId → List V → Objs → Ro) (k : Nat) : Mach := ⟨G, call, fun F => iter F k⟩
theorem mk_G (call : FuncId → List V → Objs → Ro) (k : Nat) : (mk G call k).G = G := rfl
noncomputable def fixL (F : Rk → Rk) : Rk := fun vs σ => lim fun j => iter F j vs σ
noncomputable def mkL (E : FuncId → List V → Objs → Ro) : Mach := ⟨G, E, fixL⟩
theorem Wf4 (E : FuncId → List V → Objs → Ro) : (mkL G E).G = G := rfl
def FLim (f : Nat → Rk) (g : Rk) : Prop := ∀ ρ σ, IsLim (fun n => f n ρ σ) (g ρ σ)
structure KLim (K : Nat → Kt) (L : Kt) : Prop where
 nm : FLim (fun n => (K n).nm) L.nm
 ex : ∀ i, FLim (fun n => (K n).ex i) (L.ex i)
 rt : FLim (fun n => (K n).rt) L.rt
variable {G}
variable {call : Nat → FuncId → List V → Objs → Ro} {E : FuncId → List V → Objs → Ro}
theorem Qvd (hE : ∀ f args σ, IsLim (fun n => call n f args σ) (E f args σ)) (d : Nat) (A T : Arg → V) (σ : Objs) (i : Ins) : IsLim (fun n => effV (mk G (call n) (n + d)) A T σ i) (effV (mkL G E) A T σ i) := by
 cases i with
 | call f args => exact hE _ _ _
 | callv x args =>
  show IsLim (fun n => Qhl (mk G (call n) (n + d)) σ (A x) (args.map A)) (Qhl (mkL G E) σ (A x) (args.map A))
  unfold Qhl
  split
  ·exact hE _ _ _
  ·exact IsLim.const _
 | _ => exact IsLim.const _
theorem Qve (hE : ∀ f args σ, IsLim (fun n => call n f args σ) (E f args σ)) (d : Nat) {k : Nat → V → Objs → Ro} {l : V → Objs → Ro} (hk : ∀ v σ, IsLim (fun n => k n v σ) (l v σ)) (ρ : List V) (σ : Objs) (i : Ins) :
  IsLim (fun n => insK (mk G (call n) (n + d)) ρ σ (k n) i) (insK (mkL G E) ρ σ l i) := by
 unfold insK
 show IsLim (fun n => match Qky i with | false => bd (valV (arg G ρ) (argT G ρ) σ i) fun v => k n v σ | true => bd (effV (mk G (call n) (n + d)) (arg G ρ) (argT G ρ) σ i) fun p => k n p.1 p.2)
  (match Qky i with | false => bd (valV (arg G ρ) (argT G ρ) σ i) fun v => l v σ | true => bd (effV (mkL G E) (arg G ρ) (argT G ρ) σ i) fun p => l p.1 p.2)
 cases Qky i with
 | false => exact IsLim.bd (IsLim.const _) fun v => hk v σ
 | true => exact IsLim.bd (Qvd hE d _ _ _ _) fun p => hk _ _
theorem Wdb {x : Nat → Ro} {y : Ro} (h : IsLim x y) (g : V) (t : Bool) (σ : Objs) : IsLim (fun n => gdp g t (x n) σ) (gdp g t y σ) := by
 unfold gdp
 split
 ·split
  ·exact h
  ·exact IsLim.const _
 ·exact IsLim.const _
 ·exact IsLim.const _
theorem Wf5 {x x' : Nat → Ro} {y y' : Ro} (h : IsLim x y) (h' : IsLim x' y') (g : V) (t : Bool) : IsLim (fun n => gd g t (x n) (x' n)) (gd g t y y') := by
 unfold gd
 split
 ·split
  ·exact h
  ·exact h'
 ·exact h'
 ·exact IsLim.const _
theorem Wf6 {x x' : Nat → Ro} {y y' : Ro} (h : IsLim x y) (h' : IsLim x' y') (g : V) : IsLim (fun n => br g (x n) (x' n)) (br g y y') := by
 unfold br
 split
 ·exact h
 ·exact h'
 ·exact IsLim.const _
theorem Qrj (hE : ∀ f args σ, IsLim (fun n => call n f args σ) (E f args σ)) (d : Nat) {k : Nat → Rk} {l : Rk} (hk : FLim k l) (s : Step) (ρ : List V) (σ : Objs) : IsLim (fun n => Qkz (mk G (call n) (n + d)) s (k n) ρ σ) (Qkz (mkL G E) s l ρ σ) := by
 unfold Qkz
 cases s.gd with
 | none => exact Qve hE d (fun v σ => hk _ _) _ _ _
 | some p =>
  obtain ⟨g, b⟩ := p
  simp only [mk_G, Wf4]
  cases s.ins.takes.2 with
  | true => exact Wf5 (Qve hE d (fun v σ => hk _ _) _ _ _) (hk _ _) _ _
  | false =>
   simp only
   cases Qky s.ins with
   | false => exact IsLim.bd (IsLim.const _) fun v => hk _ _
   | true => exact IsLim.bd (Wdb (Qvd hE d _ _ _ _) _ _ _) fun v => hk _ _
theorem Qn8 (hE : ∀ f args σ, IsLim (fun n => call n f args σ) (E f args σ)) (d : Nat) : ∀ (s : List Step) {k : Nat → Rk} {l : Rk}, FLim k l → FLim (fun n => Qgn (mk G (call n) (n + d)) s (k n)) (Qgn (mkL G E) s l)
 | [], k, l, hk => hk
 | s :: r, k, l, hk => fun ρ σ => by
  simp only [Qgn, Qdu]
  exact Qrj hE d (fun ρ' σ' => Qn8 hE d r hk ρ' σ') s ρ σ
theorem Qvf (hE : ∀ f args σ, IsLim (fun n => call n f args σ) (E f args σ)) (d : Nat) : ∀ (s : List DS) (past : List Rd) {k : Nat → Rk} {l : Rk}, FLim k l → FLim (fun n => drwK (mk G (call n) (n + d)) past s (k n)) (drwK (mkL G E) past s l)
 | [], past, k, l, hk => hk
 | s :: r, past, k, l, hk => fun ρ σ => by
  simp only [drwK, Qdu, mk_G, Wf4]
  exact IsLim.bd (IsLim.const _) fun σ0 => Qrj hE d (fun ρ' σ1 => IsLim.bd (IsLim.const _) fun σ' => Qvf hE d r _ hk ρ' σ') s.s ρ σ0
theorem Qf7 (n : Nat) (σ : Objs) (live : List Nat) : ∀ (xs : List V) (i : Nat) {k : Nat → List V → Ro} {l : List V → Ro}, (∀ ys, IsLim (fun n => k n ys) (l ys)) → IsLim (fun m => cutL n σ live i xs (k m)) (cutL n σ live i xs l)
 | [], i, k, l, hk => hk _
 | x :: xs, i, k, l, hk => by
  unfold cutL
  cases live.contains i with
  | true => exact IsLim.bd (IsLim.const _) fun y => Qf7 n σ live xs (i + 1) fun ys => hk _
  | false => exact Qf7 n σ live xs (i + 1) hk
theorem Qrk {K : Nat → Kt} {L : Kt} (hK : KLim K L) {f : Nat → Rk} {g : Rk} (hf : FLim f g) (nt n : Nat) (lin lout : List Nat) : KLim (fun m => Qn4 nt n lin lout (K m) (f m)) (Qn4 nt n lin lout L g) :=
 ⟨fun ρ σ => Qf7 _ _ _ _ _ fun ys => IsLim.bd (IsLim.const _) fun σ' => hf _ _, fun i ρ σ => Qf7 _ _ _ _ _ fun ys => IsLim.bd (IsLim.const _) fun σ' => hK.ex i _ _, fun ρ σ => Qf7 _ _ _ _ _ fun ys => IsLim.bd (IsLim.const _) fun σ' => hK.rt _ _⟩
def Qgi (M : Mach) (b : Cd) (nt n : Nat) (lin lout : List Nat) (K : Kt) : Rk → Rk := fun rec vs σ => cdK M b (Qn4 nt n lin lout K rec) (expd lin 0 nt 0 vs) σ
theorem Qvg {c e : FuncId → List V → Objs → Ro} (h : ∀ f args σ, Le (c f args σ) (e f args σ)) (k l : Nat) : LeM (mk G c k) (mk G e l) := ⟨rfl, h⟩
theorem Qvh (c e : FuncId → List V → Objs → Ro) {k l : Nat} (h : k ≤ l) : LeX (mk G c k) (mk G e l) := fun _ _ _ _ hm => Qif hm h
theorem Qmc (K : Kt) : LeK K K := ⟨fun _ _ => Le.refl _, fun _ _ _ => Le.refl _, fun _ _ => Le.refl _⟩
theorem Qrl (c : Cd) {e e' : FuncId → List V → Objs → Ro} (h : ∀ f args σ, Le (e f args σ) (e' f args σ)) {k l : Nat} (hkl : k ≤ l) {K L : Kt} (hK : LeK K L) : LeF (cdK (mk G e k) c K) (cdK (mk G e' l) c L) :=
 Qk0 c (Qvg h _ _) (Qvh _ _ hkl) (Qvg (fun _ _ _ => Le.refl _) _ _) (Qvh _ _ (Nat.le_refl _)) (Qvg (fun _ _ _ => Le.refl _) _ _) (Qvh _ _ (Nat.le_refl _)) hK
theorem Qlh (e : FuncId → List V → Objs → Ro) (k : Nat) (b : Cd) (nt n : Nat) (lin lout : List Nat) (K : Kt) {f g : Rk} (h : LeF f g) : LeF (Qgi (mk G e k) b nt n lin lout K f) (Qgi (mk G e k) b nt n lin lout K g) :=
 fun vs σ => Qrl b (fun _ _ _ => Le.refl _) (Nat.le_refl _) (Qmb (Qmc K) h _ _ _ _) _ _
theorem Qfk {F : Rk → Rk} (h : ∀ f g, LeF f g → LeF (F f) (F g)) (vs : List V) (σ : Objs) : Grow fun j => iter F j vs σ := fun j r hj => Qif h (Nat.le_succ j) vs σ r hj
section
variable (hE : ∀ f args σ, IsLim (fun n => call n f args σ) (E f args σ))
include hE
theorem Qmd (d : Nat) (b : Cd) (nt n : Nat) (lin lout : List Nat) {K : Nat → Kt} {L : Kt} (hK : KLim K L)
  (hb : ∀ {K : Nat → Kt} {L : Kt}, KLim K L → FLim (fun m => cdK (mk G (call m) (m + d)) b (K m)) (cdK (mkL G E) b L)) :
  ∀ j, FLim (fun m => iter (Qgi (mk G (call m) (m + d)) b nt n lin lout (K m)) j) (iter (Qgi (mkL G E) b nt n lin lout L) j)
 | 0 => fun _ _ => IsLim.const _
 | j + 1 => fun vs σ => hb (Qrk hK (Qmd d b nt n lin lout hK hb j) nt n lin lout) _ _
theorem Qy2 (d : Nat) (b : Cd) (nt n : Nat) (lin lout : List Nat) {K : Nat → Kt} {L : Kt} (hK : KLim K L)
  (hb : ∀ {K : Nat → Kt} {L : Kt}, KLim K L → FLim (fun m => cdK (mk G (call m) (m + d)) b (K m)) (cdK (mkL G E) b L)) (vs : List V) (σ : Objs) :
  IsLim (fun j => iter (Qgi (mkL G E) b nt n lin lout L) j vs σ) (fixL (Qgi (mkL G E) b nt n lin lout L) vs σ) := by
 refine Qn7 fun j r hj => ?_
 have h1 := Qmd hE d b nt n lin lout hK hb
 obtain ⟨m, hm⟩ := ((h1 j vs σ).iff r).1 hj
 exact ((h1 (j + 1) vs σ).iff r).2 ⟨m, Qfk (fun f g h => Qlh _ _ _ _ _ _ _ _ h) vs σ j r hm⟩
theorem Qpt (d e : Nat) (b : Cd) (nt n : Nat) (lin lout : List Nat) {K : Nat → Kt} {L : Kt} (hK : KLim K L)
  (hb : ∀ {K : Nat → Kt} {L : Kt}, KLim K L → FLim (fun m => cdK (mk G (call m) (m + d)) b (K m)) (cdK (mkL G E) b L)) (vs : List V) (σ : Objs) :
  IsLim (fun m => iter (Qgi (mk G (call m) (m + d)) b nt n lin lout (K m)) (m + e) vs σ) (fixL (Qgi (mkL G E) b nt n lin lout L) vs σ) :=
 IsLim.diag (s := fun j m => iter (Qgi (mk G (call m) (m + d)) b nt n lin lout (K m)) j vs σ) (fun j => Qmd hE d b nt n lin lout hK hb j vs σ)
  (fun m => Qfk (fun f g h => Qlh _ _ _ _ _ _ _ _ h) vs σ) (Qy2 hE d b nt n lin lout hK hb vs σ) e
theorem Qgo (d : Nat) : ∀ (c : Cd) {K : Nat → Kt} {L : Kt}, KLim K L → FLim (fun m => cdK (mk G (call m) (m + d)) c (K m)) (cdK (mkL G E) c L)
 | .skip, K, L, hK => hK.nm
 | .ret, K, L, hK => hK.rt
 | .exit id, K, L, hK => hK.ex id
 | .ops _ l, K, L, hK => Qn8 hE d l hK.nm
 | .drw _ l, K, L, hK => Qvf hE d l [] hK.nm
 | .seq x y, K, L, hK => fun ρ σ => Qgo d x (K := fun m => ⟨fun ρ' σ' => cdK (mk G (call m) (m + d)) y (K m) ρ' σ', (K m).ex, (K m).rt⟩) (L := ⟨fun ρ' σ' => cdK (mkL G E) y L ρ' σ', L.ex, L.rt⟩) ⟨fun ρ' σ' => Qgo d y hK ρ' σ', hK.ex, hK.rt⟩ ρ σ
 | .cond v x y, K, L, hK => fun ρ σ => by
  show IsLim (fun m => br (arg G ρ v) (cdK (mk G (call m) (m + d)) x (K m) ρ σ) (cdK (mk G (call m) (m + d)) y (K m) ρ σ)) (br (arg G ρ v) (cdK (mkL G E) x L ρ σ) (cdK (mkL G E) y L ρ σ))
  exact Wf6 (Qgo d x hK ρ σ) (Qgo d y hK ρ σ) _
 | .block id x, K, L, hK => fun ρ σ => by
  refine Qgo d x (K := fun m => ⟨(K m).nm, fun i ρ' σ' => if i = id then (K m).nm ρ' σ' else (K m).ex i ρ' σ', (K m).rt⟩) (L := ⟨L.nm, fun i ρ' σ' => if i = id then L.nm ρ' σ' else L.ex i ρ' σ', L.rt⟩) ⟨hK.nm, fun i ρ' σ' => ?_, hK.rt⟩ ρ σ
  by_cases h : i = id
  ·simp only [if_pos h]; exact hK.nm _ _
  ·simp only [if_neg h]; exact hK.ex _ _ _
 | .loop lin lout x, K, L, hK => fun ρ σ => by
  show IsLim (fun m => cutL σ.length σ lin 0 ρ fun ys => iter (Qgi (mk G (call m) (m + d)) x ρ.length σ.length lin lout (K m)) (m + d) ys σ) (cutL σ.length σ lin 0 ρ fun ys => fixL (Qgi (mkL G E) x ρ.length σ.length lin lout L) ys σ)
  exact Qf7 _ _ _ _ _ fun ys => Qpt hE d d x _ _ _ _ hK (Qgo d x) ys σ
theorem Qs5 (b : Cd) (nt n : Nat) (lin lout : List Nat) (L : Kt) (vs : List V) (σ : Objs) :
  fixL (Qgi (mkL G E) b nt n lin lout L) vs σ = Qgi (mkL G E) b nt n lin lout L (fixL (Qgi (mkL G E) b nt n lin lout L)) vs σ := by
 have hK : KLim (fun _ => L) L := ⟨fun _ _ => IsLim.const _, fun _ _ _ => IsLim.const _, fun _ _ => IsLim.const _⟩
 have h1 := Qpt (G := G) hE 0 1 b nt n lin lout hK (Qgo hE 0 b) vs σ
 have h0 := Qpt (G := G) hE 0 0 b nt n lin lout hK (Qgo hE 0 b)
 have h2 := Qgo (G := G) hE 0 b (Qrk hK h0 nt n lin lout) (expd lin 0 nt 0 vs) σ
 exact h1.uniq h2
end
end
def evK (C : Ctx) : Nat → FuncId → List V → Objs → Ro
 | 0, _, _, _ => none
 | n + 1, f, args, σ =>
  match C.prim f with
  | some h => h args σ
  | none =>
   match C.code f with
   | some F => fnK (mk C.G (evK C n) n) F args σ
   | none => none
theorem Qvi {C : Ctx} (hC : ∀ f F, C.code f = some F → F.esc = false) : ∀ n, evK C n = ev C n
 | 0 => rfl
 | n + 1 => by
  funext f args σ
  simp only [evK, ev]
  cases C.prim f with
  | some h => rfl
  | none =>
   simp only
   cases hF : C.code f with
   | none => rfl
   | some F =>
    simp only
    rw [Qvi hC n]
    exact Wf2 C.G (ev C n) n (hC f F hF) args σ
theorem Qvj (C : Ctx) : ∀ n f args σ, Le (evK C n f args σ) (evK C (n + 1) f args σ)
 | 0, f, args, σ => fun r h => by cases h
 | n + 1, f, args, σ => by
  simp only [evK]
  cases C.prim f with
  | some h => exact Le.refl _
  | none =>
   simp only
   cases hF : C.code f with
   | none => exact Le.refl _
   | some F =>
    have ih := fun f args σ => Qvj C n f args σ
    simp only [evK] at ih
    exact Qrl F.body (fun f args σ => Qvj C n f args σ) (Nat.le_succ n) (Qmc _) _ _
noncomputable def E (C : Ctx) (f : FuncId) (args : List V) (σ : Objs) : Ro := lim fun n => evK C n f args σ
noncomputable def Mi (C : Ctx) : Mach := mkL C.G (E C)
theorem Qs6 (C : Ctx) (f : FuncId) (args : List V) (σ : Objs) : IsLim (fun n => evK C n f args σ) (E C f args σ) := Qn7 fun n r h => Qvj C n f args σ r h
theorem E_of {C : Ctx} {n : Nat} {f : FuncId} {args : List V} {σ : Objs} {r : V × Objs} (h : evK C n f args σ = some r) : E C f args σ = some r := ((Qs6 C f args σ).iff r).2 ⟨n, h⟩
theorem ev_of_E {C : Ctx} (hC : ∀ f F, C.code f = some F → F.esc = false) {f : FuncId} {args : List V} {σ : Objs} {r : V × Objs} (h : E C f args σ = some r) : ∃ n, ev C n f args σ = some r := by
 obtain ⟨n, hn⟩ := ((Qs6 C f args σ).iff r).1 h
 exact ⟨n, by rw [← Qvi hC n]; exact hn⟩
theorem Wdc {C : Ctx} (hC : ∀ f F, C.code f = some F → F.esc = false) {n : Nat} {f : FuncId} {args : List V} {σ : Objs} {r : V × Objs} (h : ev C n f args σ = some r) : E C f args σ = some r := E_of (n := n) (by rw [Qvi hC n]; exact h)
theorem E_fn {C : Ctx} {f : FuncId} {F : Fn} (hp : C.prim f = none) (hc : C.code f = some F) (args : List V) (σ : Objs) : E C f args σ = fnK (Mi C) F args σ := by
 have h1 := (Qs6 C f args σ).shift 1
 have h2 : IsLim (fun n => evK C (n + 1) f args σ) (fnK (Mi C) F args σ) := by
  have e : (fun n => evK C (n + 1) f args σ) = fun n => fnK (mk C.G (evK C n) (n + 0)) F args σ := by
   funext n; simp only [evK, hp, hc, Nat.add_zero]
  rw [e]
  exact Qgo (Qs6 C) 0 F.body (K := fun _ => ⟨finK F.keep F.res σ.length, fun _ _ _ => none, finK F.keep F.res σ.length⟩) ⟨fun _ _ => IsLim.const _, fun _ _ _ => IsLim.const _, fun _ _ => IsLim.const _⟩ _ _
 exact h1.uniq h2
theorem Wa4 {C : Ctx} {f : FuncId} {h : List V → Objs → Ro} (hp : C.prim f = some h) (args : List V) (σ : Objs) : E C f args σ = h args σ := by
 have h1 := (Qs6 C f args σ).shift 1
 have h2 : IsLim (fun n => evK C (n + 1) f args σ) (h args σ) := by
  have e : (fun n => evK C (n + 1) f args σ) = fun n => h args σ := by funext n; simp only [evK, hp]
  rw [e]; exact IsLim.const _
 exact h1.uniq h2
structure Lp where
 nt : Nat
 lin : List Nat
 lout : List Nat
 b : Cd
 K : Kt
def seek (M : Mach) (nt : Nat) : List (Nat × Rk) → List Bool → Cd → Kt → Lp
 | ns, p, .seq x y, K => match p with | false :: p => seek M nt ns p x ⟨fun ρ σ => cdK M y K ρ σ, K.ex, K.rt⟩ | _ => seek M nt ns p.tail y K
 | ns, p, .cond _ x y, K => match p with | false :: p => seek M nt ns p x K | _ => seek M nt ns p.tail y K
 | ns, p, .block id x, K => seek M nt ns p x ⟨K.nm, fun i ρ σ => if i = id then K.nm ρ σ else K.ex i ρ σ, K.rt⟩
 | ns, p, .loop lin lout x, K => match ns with | [] => ⟨nt, lin, lout, x, K⟩ | (n, r) :: ns => seek M nt ns p x (Qn4 nt n lin lout K r)
 | _, _, _, K => ⟨nt, [], [], .skip, K⟩
def Lp.F (l : Lp) (M : Mach) (n : Nat) : Rk → Rk := Qgi M l.b l.nt n l.lin l.lout l.K
def topK (F : Fn) (n : Nat) : Kt := ⟨finK F.keep F.res n, fun _ _ _ => none, finK F.keep F.res n⟩
theorem Qaz (C : Ctx) (l : Lp) (n : Nat) {L : Rk} {B : Rk → Rk} (hB : l.F (Mi C) n = B) (hL : L = fixL B) (vs : List V) (σ : Objs) : L vs σ = B L vs σ := by
 subst hL
 have h := Qs5 (G := C.G) (Qs6 C) l.b l.nt n l.lin l.lout l.K vs σ
 have e : Qgi (mkL C.G (E C)) l.b l.nt n l.lin l.lout l.K = B := hB
 rw [e] at h
 exact h
theorem Wdd {C : Ctx} : (Mi C).call = E C := rfl
end Go.Ev
namespace Go.Ev
open Go
def pV (c a b : V) : Option V :=
 match c with
 | .bool t => some (if t then a else b)
 | _ => none
def Qa4 (z : List V) (parts : List (Nat × Nat × V)) : Option V := (lay z parts).map V.agg
def mmV (mx : Bool) (args : List V) : Option V :=
 match args with
 | x :: r => if (Qe8 x).isSome then Qjm mx x r else none
 | [] => none
end Go.Ev
