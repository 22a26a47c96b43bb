/- Regions that draw their order: what a step looks at, and what it writes. -/
import Derived.Test.YtehbeicmmnjpfaaGreatDoorEvW
set_option linter.unusedSimpArgs false
set_option linter.unusedVariables false
namespace Go.Ev
open Go

def Ins.args : Ins → List Arg
  | .mv x _ => [x]
  | .pick c a b => [c, a, b]
  | .alloc _ => []
  | .box x => [x]
  | .build _ ps => ps.map (·.2.2)
  | .buildSl _ _ _ _ ps _ => ps.map (·.2)
  | .load _ _ x => [x]
  | .loadT x => [x]
  | .store _ p x _ => [p, x]
  | .nilc x => [x]
  | .bin _ _ x y => [x, y]
  | .un _ x => [x]
  | .conv _ x => [x]
  | .cutS x lo hi => x :: (lo.toList ++ hi.toList)
  | .cut _ x lo hi mx => x :: (lo.toList ++ hi.toList ++ mx.toList)
  | .cutA _ _ _ x lo hi => x :: (lo.toList ++ hi.toList)
  | .faddr _ x => [x]
  | .field _ _ _ x => [x]
  | .iaddr _ x i => [x, i]
  | .iaddrA _ _ x i => [x, i]
  | .idx x i => [x, i]
  | .idxA _ _ _ x i => [x, i]
  | .lenS x => [x]
  | .len x => [x]
  | .app _ _ _ _ x y _ => [x, y]
  | .appH _ _ _ _ x y => [x, y]
  | .bytesH x => [x]
  | .call _ as => as
  | .callv x as => x :: as
  | .mkfn _ a b => a ++ b
  | .mkif _ x => [x]
  | .extr x _ => [x]
  | .mkSl _ _ _ _ l c _ => [l, c]
  | .mm _ as => as
  | .mkmp => []
  | .mset m k x => [m, k, x]
  | .mget _ m k _ => [m, k]
  | .buildG _ _ _ _ ps => ps.map (·.2)
  | .mark x => [x]

theorem map_opt {α β : Type} {f g : α → β} {o : Option α} (h : ∀ x ∈ o.toList, f x = g x) : o.map f = o.map g := by
  cases o with
  | none => rfl
  | some x => simp [h x (by simp)]

theorem evPure_congr {A A' : Arg → V} {σ : Objs} {i : Ins} (h : ∀ x ∈ i.args, A x = A' x) : evPure A σ i = evPure A' σ i := by
  cases i
  case build z ps =>
    simp only [evPure]
    rw [List.map_congr_left (f := fun p : Nat × Nat × Arg => (p.1, p.2.1, A p.2.2)) (g := fun p => (p.1, p.2.1, A' p.2.2)) fun p hp => by rw [h p.2.2 (List.mem_map.2 ⟨p, hp, rfl⟩)]]
  case cutS x lo hi =>
    simp only [evPure]
    rw [h x (by simp [Ins.args]), map_opt (f := A) (g := A') fun y hy => h y (by simp only [Ins.args, List.mem_cons, List.mem_append]; exact .inr (.inl hy)), map_opt (f := A) (g := A') fun y hy => h y (by simp only [Ins.args, List.mem_cons, List.mem_append]; exact .inr (.inr hy))]
  case cut sz x lo hi mx =>
    simp only [evPure]
    rw [h x (by simp [Ins.args]), map_opt (f := A) (g := A') fun y hy => h y (by simp only [Ins.args, List.mem_cons, List.mem_append]; exact .inr (.inl (.inl hy))), map_opt (f := A) (g := A') fun y hy => h y (by simp only [Ins.args, List.mem_cons, List.mem_append]; exact .inr (.inl (.inr hy))), map_opt (f := A) (g := A') fun y hy => h y (by simp only [Ins.args, List.mem_cons, List.mem_append]; exact .inr (.inr hy))]
  case cutA n sz ag x lo hi =>
    simp only [evPure]
    rw [h x (by simp [Ins.args]), map_opt (f := A) (g := A') fun y hy => h y (by simp only [Ins.args, List.mem_cons, List.mem_append]; exact .inr (.inl hy)), map_opt (f := A) (g := A') fun y hy => h y (by simp only [Ins.args, List.mem_cons, List.mem_append]; exact .inr (.inr hy))]
  case mkfn f a b =>
    simp only [evPure]
    rw [List.map_congr_left fun y hy => h y (List.mem_append_left _ hy), List.map_congr_left fun y hy => h y (List.mem_append_right _ hy)]
  case mm mx as =>
    have hm : as.map A = as.map A' := List.map_congr_left fun y hy => h y hy
    simp only [evPure, hm]
  all_goals first | rfl | (simp only [evPure]; simp only [Ins.args, List.mem_cons, List.not_mem_nil, or_false, forall_eq_or_imp, forall_eq] at h; simp only [h])

theorem evIns_congr {call : FuncId → List V → Objs → Option (V × Objs)} {A A' T T' : Arg → V} {σ : Objs} {i : Ins} (h : ∀ x ∈ i.args, A x = A' x) (k : ∀ x ∈ i.args, T x = T' x) : evIns call A T σ i = evIns call A' T' σ i := by
  have hp := evPure_congr (σ := σ) h
  cases i
  case buildSl ag sz len z ps hh =>
    simp only [evIns]
    rw [List.map_congr_left (f := fun p : Nat × Arg => (p.1, A p.2)) (g := fun p => (p.1, A' p.2)) fun p hp => by rw [h p.2 (List.mem_map.2 ⟨p, hp, rfl⟩)]]
  case buildG ag sz len z ps =>
    simp only [evIns]
    rw [List.map_congr_left (f := fun p : Nat × Arg => (p.1, A p.2)) (g := fun p => (p.1, A' p.2)) fun p hp => by rw [h p.2 (List.mem_map.2 ⟨p, hp, rfl⟩)]]
  case call f as =>
    have hm : as.map A = as.map A' := List.map_congr_left fun y hy => h y hy
    simp only [evIns, hm]
  case callv x as =>
    have hm : as.map A = as.map A' := List.map_congr_left fun y hy => h y (List.mem_cons_of_mem _ hy)
    simp only [evIns, hm, h x (List.mem_cons_self ..)]
  case conv c x =>
    cases c <;> first | (simp only [evIns]; rw [hp]) | (simp only [evIns]; rw [h x (List.mem_cons_self ..)])
  all_goals first
    | rfl
    | (simp only [evIns]; rw [hp])
    | (simp only [evIns]; simp only [Ins.args, List.mem_cons, List.not_mem_nil, or_false, forall_eq_or_imp, forall_eq] at h k; simp only [h, k])

/-- Slots that a step writes, and those that it looks at. -/
def Step.wr (s : Step) : List Nat := s.dst.toList ++ (match s.ins.takes with | (.t n, true) => [n] | _ => [])
def Arg.slot : Arg → Option Nat
  | .t n => some n
  | _ => none
def Step.rd (s : Step) : List Nat := s.ins.args.filterMap Arg.slot ++ (s.gd.map Prod.fst).toList

theorem takes_arg (i : Ins) {n : Nat} (h : i.takes = (.t n, true)) : .t n ∈ i.args := by
  cases i <;> simp [Ins.takes] at h <;> simp [Ins.args, h]

section
variable {G : Nat → V} {call : FuncId → List V → Objs → Option (V × Objs)} {ρ ρ' τ : List V} {σ σ1 : Objs} {s : Step}

theorem argT_congr {x : Arg} (h : ∀ n, x.slot = some n → ρ'.getD n .undef = ρ.getD n .undef) : argT G ρ' x = argT G ρ x := by
  cases x <;> first | rfl | exact h _ rfl

theorem wanted_congr {gd : Option (Nat × Bool)} (h : ∀ n ∈ (gd.map Prod.fst).toList, ρ'.getD n .undef = ρ.getD n .undef) : wanted ρ' gd = wanted ρ gd := by
  cases gd with
  | none => rfl
  | some p =>
    obtain ⟨g, b⟩ := p
    simp only [wanted]
    rw [h g (by simp)]

theorem put_get (d : Option Nat) (x : V) (t : Nat) : (put ρ d x)[t]? = if d = some t then (if t < ρ.length then some x else none) else ρ[t]? := by
  cases d with
  | none => simp [put]
  | some d =>
    simp only [put, List.getElem?_set, Option.some.injEq]
    by_cases hd : d = t
    · subst hd; rfl
    · rw [if_neg hd, if_neg hd]

theorem put_len (d : Option Nat) (x : V) : (put ρ d x).length = ρ.length := by cases d <;> simp [put]

theorem unslot_len (x : Arg) (tk : Bool) : (unslot ρ x tk).length = ρ.length := by
  unfold unslot; split <;> simp

def takesSlot (x : Arg) (tk : Bool) (t : Nat) : Bool := tk && x.slot == some t
theorem takesSlot_spec {x : Arg} {tk : Bool} {t : Nat} : takesSlot x tk t = true ↔ x = .t t ∧ tk = true := by
  unfold takesSlot
  cases tk <;> cases x <;> simp [Arg.slot]

theorem unslot_get (x : Arg) (tk : Bool) (t : Nat) : (unslot ρ x tk)[t]? = if takesSlot x tk t = true then (ρ[t]?).map V.nogr else ρ[t]? := by
  by_cases hx : takesSlot x tk t = true
  · rw [if_pos hx]
    obtain ⟨rfl, rfl⟩ := takesSlot_spec.1 hx
    simp only [unslot, List.getElem?_set, if_true]
    by_cases hl : t < ρ.length
    · rw [if_pos hl]; simp [List.getD, List.getElem?_eq_getElem hl]
    · rw [if_neg hl]; simp [List.getElem?_eq_none (Nat.not_lt.1 hl)]
  · rw [if_neg hx]
    unfold unslot
    split
    · rename_i n
      rw [List.getElem?_set_ne (fun e => hx (takesSlot_spec.2 ⟨by rw [e], rfl⟩))]
    · rfl

theorem wr_dst {t : Nat} (h : s.dst = some t) : t ∈ s.wr := by simp [Step.wr, h]
theorem wr_take {t : Nat} (h : takesSlot s.ins.takes.1 s.ins.takes.2 t = true) : t ∈ s.wr := by
  obtain ⟨h1, h2⟩ := takesSlot_spec.1 h
  have : s.ins.takes = (Arg.t t, true) := Prod.ext h1 h2
  simp [Step.wr, this]
theorem wr_cases {t : Nat} (h : t ∈ s.wr) : s.dst = some t ∨ takesSlot s.ins.takes.1 s.ins.takes.2 t = true := by
  simp only [Step.wr, List.mem_append] at h
  rcases h with h | h
  · cases hq : s.dst with
    | none => rw [hq] at h; simp at h
    | some d => rw [hq] at h; simp at h; rw [h]; exact .inl rfl
  · split at h
    · rename_i n heq
      simp at h
      subst h
      exact .inr (takesSlot_spec.2 ⟨by rw [heq], by rw [heq]⟩)
    · simp at h

/-- What a step leaves of slots. -/
theorem evStep_frame (h : evStep G call s ρ σ = some (τ, σ1)) : τ.length = ρ.length ∧ ∀ t, t ∉ s.wr → τ[t]? = ρ[t]? := by
  unfold evStep ev1 at h
  simp only [Option.bind_eq_bind, Option.bind_eq_some_iff] at h
  obtain ⟨b, _, h⟩ := h
  cases b with
  | true =>
    simp only [if_true, Option.bind_eq_some_iff, Option.some.injEq, Prod.mk.injEq] at h
    obtain ⟨⟨v, σ2⟩, _, rfl, rfl⟩ := h
    refine ⟨by rw [put_len, unslot_len], fun t ht => ?_⟩
    rw [put_get, if_neg (fun e => ht (wr_dst e)), unslot_get, if_neg (fun e => ht (wr_take e))]
  | false =>
    simp only [Bool.false_eq_true, if_false, Option.some.injEq, Prod.mk.injEq] at h
    obtain ⟨rfl, rfl⟩ := h
    refine ⟨put_len .., fun t ht => ?_⟩
    rw [put_get, if_neg (fun e => ht (wr_dst e))]

/-- A step does the same where it looks at the same. -/
theorem evStep_congr (h : evStep G call s ρ σ = some (τ, σ1)) (hl : ρ'.length = ρ.length) (hr : ∀ t ∈ s.rd, ρ'[t]? = ρ[t]?) :
    ∃ τ', evStep G call s ρ' σ = some (τ', σ1) ∧ ∀ t ∈ s.wr, τ'[t]? = τ[t]? := by
  have hr' : ∀ t ∈ s.rd, ρ'.getD t .undef = ρ.getD t .undef := fun t ht => by simp only [List.getD, hr t ht]
  have hw : wanted ρ' s.gd = wanted ρ s.gd := wanted_congr fun n hn => hr' n (List.mem_append_right _ hn)
  have hT : ∀ x ∈ s.ins.args, argT G ρ' x = argT G ρ x := fun x hx => argT_congr fun n hn => hr' n (List.mem_append_left _ (List.mem_filterMap.2 ⟨x, hx, hn⟩))
  have hA : ∀ x ∈ s.ins.args, arg G ρ' x = arg G ρ x := fun x hx => by unfold arg; rw [hT x hx]
  unfold evStep ev1 at h ⊢
  simp only [Option.bind_eq_bind, Option.bind_eq_some_iff] at h
  obtain ⟨b, hb, h⟩ := h
  simp only [Option.bind_eq_bind, hw, hb, Option.bind_some]
  have take : ∀ t, s.ins.takes = (Arg.t t, true) → ρ'[t]? = ρ[t]? := fun t ht => hr t (List.mem_append_left _ (List.mem_filterMap.2 ⟨_, takes_arg _ ht, rfl⟩))
  cases b with
  | true =>
    simp only [if_true, Option.bind_eq_some_iff, Option.some.injEq, Prod.mk.injEq] at h ⊢
    obtain ⟨⟨v, σ2⟩, hi, rfl, rfl⟩ := h
    refine ⟨_, ⟨(v, σ2), by rw [evIns_congr hA hT]; exact hi, rfl, rfl⟩, fun t ht => ?_⟩
    simp only
    rw [put_get, put_get, unslot_len, unslot_len, hl]
    by_cases hd : s.dst = some t
    · rw [if_pos hd, if_pos hd]
    · have htk := (wr_cases ht).resolve_left hd
      obtain ⟨h1, h2⟩ := takesSlot_spec.1 htk
      rw [if_neg hd, if_neg hd, unslot_get, unslot_get, if_pos htk, if_pos htk, take t (Prod.ext h1 h2)]
  | false =>
    simp only [Bool.false_eq_true, if_false, Option.some.injEq, Prod.mk.injEq] at h ⊢
    obtain ⟨rfl, rfl⟩ := h
    refine ⟨_, ⟨rfl, rfl⟩, fun t ht => ?_⟩
    rw [put_get, put_get, hl]
    by_cases hd : s.dst = some t
    · rw [if_pos hd, if_pos hd]
    · have htk := (wr_cases ht).resolve_left hd
      obtain ⟨h1, h2⟩ := takesSlot_spec.1 htk
      rw [if_neg hd, if_neg hd, take t (Prod.ext h1 h2)]
end
end Go.Ev
