/- Regions that draw their order: what is checked of them, and the one order that is run. -/
import Derived.Test.YtehbeicmmnjpfaaGreatDoorEvX
set_option linter.unusedSimpArgs false
set_option linter.unusedVariables false
namespace Go.Ev
open Go

/-- Steps that do the same whatever the objects hold, and leave them. -/
def neutral : Ins → Bool
  | .mv .. | .pick .. | .build .. | .nilc _ | .bin .. | .un .. | .cutS .. | .cut .. | .cutA .. | .faddr .. | .field .. | .iaddr .. | .iaddrA .. | .idx .. | .idxA .. | .lenS _ | .len _ | .mkfn .. | .mkif .. | .extr .. | .mm .. => true
  | .conv .bytesStr _ => false
  | .conv .. => true
  | .buildSl _ _ _ _ _ h => !h
  | .mkSl _ _ _ _ _ _ h => !h
  | .buildG .. => true
  | _ => false

/-- Steps that may come late. -/
def dly : Ins → Bool
  | .load .. | .loadT _ | .alloc _ | .box _ => true
  | i => neutral i

theorem evIns_neutral {call : FuncId → List V → Objs → Option (V × Objs)} {A T : Arg → V} {σ σ' σ2 : Objs} {i : Ins} {v : V} (hn : neutral i = true) (h : evIns call A T σ i = some (v, σ')) : σ' = σ ∧ evIns call A T σ2 i = some (v, σ2) := by
  have pure : ∀ (x : Option V), (do let v ← x; some (v.nogr, σ)) = some (v, σ') → σ' = σ ∧ (do let v ← x; some (v.nogr, σ2)) = some (v, σ2) := by
    intro x hx
    cases x with
    | none => cases hx
    | some y =>
      simp only [Option.bind_eq_bind, Option.bind_some, Option.some.injEq, Prod.mk.injEq, and_true] at hx ⊢
      exact ⟨hx.2.symm, hx.1⟩
  cases i <;> (try (cases hn; done)) <;> (try (exact pure _ h))
  case mv x tk =>
    simp only [evIns, Option.some.injEq, Prod.mk.injEq, and_true] at h ⊢
    exact ⟨h.2.symm, h.1⟩
  case conv k x =>
    have hq : ∀ k, k ≠ .bytesStr → evConv σ k (A x) = evConv σ2 k (A x) := fun k hk => by
      cases k <;> first | (unfold evConv; cases A x <;> rfl) | exact absurd rfl hk
    cases k
    case bytesStr => cases hn
    case strBytes =>
      simp only [evIns] at h ⊢
      rw [hq _ (by simp)] at h
      cases hv : evConv σ2 .strBytes (A x) with
      | none => rw [hv] at h; cases h
      | some y =>
        rw [hv] at h
        simp only [Option.bind_eq_bind, Option.bind_some, Option.some.injEq, Prod.mk.injEq, and_true] at h ⊢
        exact ⟨h.2.symm, h.1⟩
    all_goals
      simp only [evIns, evPure] at h ⊢
      rw [hq _ (by simp)] at h
      exact pure _ h
  case buildSl ag sz len z ps hh =>
    cases hh with
    | true => cases hn
    | false =>
      simp only [evIns, Option.bind_eq_bind, Option.bind_eq_some_iff, Bool.false_eq_true, if_false] at h ⊢
      obtain ⟨xs, hx, h⟩ := h
      split at h
      · cases h; exact ⟨rfl, xs, hx, by rw [if_pos (by assumption)]⟩
      · cases h
  case buildG ag sz len z ps =>
    simp only [evIns, Option.bind_eq_bind, Option.bind_eq_some_iff] at h ⊢
    obtain ⟨xs, hx, h⟩ := h
    split at h
    · cases h; exact ⟨rfl, xs, hx, by rw [if_pos (by assumption)]⟩
    · cases h
  case mkSl ag sz bytes z l c hh =>
    cases hh with
    | true => cases hn
    | false =>
      simp only [evIns, Option.bind_eq_bind, Option.bind_eq_some_iff, Bool.false_eq_true, if_false] at h ⊢
      obtain ⟨l, hl, c, hc, h⟩ := h
      split at h
      · cases h; exact ⟨rfl, l, hl, c, hc, by rw [if_pos (by assumption)]⟩
      · cases h

section
variable (P : Program) (ops : Array Oper) (l : List DS)

def dsAt (l : List DS) (p : Nat) : DS := l.getD p ⟨⟨none, none, .mkmp⟩, 0, []⟩
def place (l : List DS) (i : Nat) : Nat := l.findIdx (·.op == i)
/-- The places of what a step must come behind. -/
def edges (ops : Array Oper) (l : List DS) (p : Nat) : List Nat :=
  match ops[(dsAt l p).op]? with
  | some o => (o.after.toList.filter (Region.binds .any)).map fun e => place l e.on
  | none => []
def depsOf (ops : Array Oper) (l : List DS) : Nat → List (List Nat) → List (List Nat)
  | 0, acc => acc
  | n + 1, acc =>
    let es := edges ops l acc.length
    depsOf ops l n (acc ++ [es ++ es.flatMap fun q => acc.getD q []])

def apart (a b : Step) : Bool := a.wr.all (fun t => !b.wr.contains t && !b.rd.contains t) && b.wr.all (fun t => !a.rd.contains t)

structure DrwOK (P : Program) (ops : Array Oper) (l : List DS) (dp : List (List Nat)) : Prop where
  len : l.length = ops.size
  step : ∀ p, p < l.length → ∃ o, ops[(dsAt l p).op]? = some o ∧ chkStep P ops o (dsAt l p).s = true
  inj : ∀ p q, p < l.length → q < l.length → (dsAt l p).op = (dsAt l q).op → p = q
  all : ∀ i, i < ops.size → place l i < l.length
  edge : ∀ p, p < l.length → ∀ q ∈ edges ops l p, q < p
  dep : ∀ p, p < l.length → ∀ q ∈ dp.getD p [], q ∈ edges ops l p ∨ ∃ r ∈ edges ops l p, q ∈ dp.getD r []
  pair : ∀ p, p < l.length → ∀ q, q < p → q ∈ dp.getD p [] ∨ (apart (dsAt l q).s (dsAt l p).s = true ∧ dly (dsAt l q).s.ins = true ∧ (dly (dsAt l p).s.ins = true ∨ neutral (dsAt l q).s.ins = true ∨ q ∈ (dsAt l p).un))
  un : ∀ p, p < l.length → dly (dsAt l p).s.ins = true → (dsAt l p).un = []
  unlt : ∀ p, p < l.length → ∀ k ∈ (dsAt l p).un, k < p
  sub : ∀ p, p < l.length → ∀ q ∈ edges ops l p, q ∈ dp.getD p []

def chkDrw (P : Program) (ops : Array Oper) (l : List DS) : Bool :=
  let dp := depsOf ops l l.length []
  let r := List.range l.length
  decide (l.length = ops.size) &&
  r.all (fun p => match ops[(dsAt l p).op]? with | some o => chkStep P ops o (dsAt l p).s | none => false) &&
  r.all (fun p => decide (place l (dsAt l p).op = p)) &&
  (List.range ops.size).all (fun i => decide (place l i < l.length)) &&
  r.all (fun p => (edges ops l p).all fun q => decide (q < p)) &&
  r.all (fun p => (dp.getD p []).all fun q => (edges ops l p).contains q || (edges ops l p).any fun r => (dp.getD r []).contains q) &&
  r.all (fun p => (List.range p).all fun q => (dp.getD p []).contains q || (apart (dsAt l q).s (dsAt l p).s && dly (dsAt l q).s.ins && (dly (dsAt l p).s.ins || neutral (dsAt l q).s.ins || (dsAt l p).un.contains q))) &&
  r.all (fun p => !dly (dsAt l p).s.ins || (dsAt l p).un.isEmpty) &&
  r.all (fun p => (dsAt l p).un.all fun k => decide (k < p)) &&
  r.all (fun p => (edges ops l p).all fun q => (dp.getD p []).contains q)

theorem chkDrw_ok {P : Program} {ops : Array Oper} {l : List DS} (h : chkDrw P ops l = true) : ∃ dp, DrwOK P ops l dp := by
  unfold chkDrw at h
  simp only [Bool.and_eq_true, decide_eq_true_eq, List.all_eq_true, List.mem_range] at h
  obtain ⟨⟨⟨⟨⟨⟨⟨⟨⟨h1, h2⟩, h3⟩, h4⟩, h5⟩, h6⟩, h7⟩, h8⟩, h9⟩, h10⟩ := h
  refine ⟨depsOf ops l l.length [], h1, fun p hp => ?_, fun p q hp hq e => ?_, h4, h5, fun p hp q hq => ?_, fun p hp q hq => ?_, fun p hp hd => ?_, h9, fun p hp q hq => by have := h10 p hp q hq; rwa [List.contains_iff_mem] at this⟩
  · have := h2 p hp
    split at this
    · exact ⟨_, by assumption, this⟩
    · cases this
  · rw [← h3 p hp, ← h3 q hq, e]
  · have := h6 p hp q hq
    simp only [Bool.or_eq_true, List.contains_iff_mem, List.any_eq_true] at this
    exact this
  · have := h7 p hp q hq
    simp only [Bool.or_eq_true, Bool.and_eq_true, List.contains_iff_mem] at this
    rcases this with h | ⟨⟨h, k⟩, m⟩
    · exact .inl h
    · exact .inr ⟨h, k, by rcases m with (m | m) | m <;> simp [m]⟩
  · have := h8 p hp
    rw [hd] at this
    simpa using this

theorem apart_spec {a b : Step} (h : apart a b = true) : (∀ t ∈ a.wr, t ∉ b.wr ∧ t ∉ b.rd) ∧ ∀ t ∈ b.wr, t ∉ a.rd := by
  unfold apart at h
  simp only [Bool.and_eq_true, List.all_eq_true, Bool.not_eq_true', List.contains_eq_mem, decide_eq_false_iff_not] at h
  exact h

/-- What must come ahead has come. -/
theorem deps_in {P : Program} {ops : Array Oper} {l : List DS} {dp : List (List Nat)} (hk : DrwOK P ops l dp) {L : Nat → Prop} (hL : ∀ p, L p → p < l.length → ∀ q ∈ edges ops l p, L q) :
    ∀ p, p < l.length → (∀ q ∈ edges ops l p, L q) → ∀ q ∈ dp.getD p [], L q := by
  intro p
  induction p using Nat.strongRecOn with
  | _ p ih =>
    intro hp he q hq
    rcases hk.dep p hp q hq with hq | ⟨r, hr, hq⟩
    · exact he q hq
    · have hrp := hk.edge p hp r hr
      exact ih r hrp (by omega) (hL r (he r hr) (by omega)) q hq
end

section
variable (G : Nat → V) (call : FuncId → List V → Objs → Option (V × Objs))

/-- What the step at a place has read, in the one order. -/
def rdAt (l : List DS) (R : Nat → List V) (S : Nat → Objs) (k : Nat) : Rd :=
  if (wanted (R k) (dsAt l k).s.gd).getD false then reads (arg G (R k)) (S k) (dsAt l k).s.ins else .none

/-- One step in the one order. past: what was read. -/
def OneStep (past : Nat → Rd) (d : DS) (ρ ρ' : List V) (σ σ' : Objs) : Prop :=
  ∃ σ0 σ1, lockC σ ((d.un.map past).filterMap Rd.cell) = some σ0 ∧ evStep G call d.s ρ σ0 = some (ρ', σ1) ∧ openC σ1 ((d.un.map past).filterMap Rd.cell) = some σ' ∧ ∀ k ∈ d.un, stable σ σ' (past k) = true

theorem trace_of : ∀ (l : List DS) (past : List Rd) (ρ : List V) (σ : Objs) (ρn : List V) (σn : Objs), evDrw G call past l ρ σ = some (ρn, σn) →
    ∃ (R : Nat → List V) (S : Nat → Objs), R 0 = ρ ∧ S 0 = σ ∧ R l.length = ρn ∧ S l.length = σn ∧
      ∀ j, j < l.length → OneStep G call (fun k => (past ++ (List.range j).map (rdAt G l R S)).getD k .none) (dsAt l j) (R j) (R (j + 1)) (S j) (S (j + 1))
  | [], past, ρ, σ, ρn, σn, h => by
    simp only [evDrw, Option.some.injEq, Prod.mk.injEq] at h
    obtain ⟨rfl, rfl⟩ := h
    exact ⟨fun _ => ρ, fun _ => σ, rfl, rfl, rfl, rfl, fun j hj => absurd hj (by simp)⟩
  | d :: l, past, ρ, σ, ρn, σn, h => by
    simp only [evDrw, Option.bind_eq_bind, Option.bind_eq_some_iff] at h
    obtain ⟨σ0, h0, ⟨ρ1, σ1⟩, h1, σ', h2, h3⟩ := h
    split at h3
    · rename_i hst
      obtain ⟨R, S, hR, hS, hRn, hSn, hrest⟩ := trace_of l _ _ _ _ _ h3
      refine ⟨fun | 0 => ρ | j + 1 => R j, fun | 0 => σ | j + 1 => S j, rfl, rfl, hRn, hSn, fun j hj => ?_⟩
      cases j with
      | zero =>
        refine ⟨σ0, σ1, ?_, ?_, ?_, ?_⟩
        · show lockC σ ((d.un.map _).filterMap Rd.cell) = some σ0
          simpa using h0
        · show evStep G call d.s ρ σ0 = some (R 0, σ1)
          rw [hR]; exact h1
        · show openC σ1 _ = some (S 0)
          rw [hS]
          show openC σ1 ((d.un.map _).filterMap Rd.cell) = some σ'
          simpa using h2
        · intro k hk
          show stable σ (S 0) _ = true
          rw [hS]
          have := List.all_eq_true.1 hst (past.getD k .none) (List.mem_map.2 ⟨k, hk, rfl⟩)
          simpa using this
      | succ j =>
        have := hrest j (by simpa using hj)
        have e : (fun k => ((past ++ [if (wanted ρ d.s.gd).getD false = true then reads (arg G ρ) σ d.s.ins else .none]) ++ (List.range j).map (rdAt G l R S)).getD k .none) =
            fun k => (past ++ (List.range (j + 1)).map (rdAt G (d :: l) (fun | 0 => ρ | j + 1 => R j) (fun | 0 => σ | j + 1 => S j))).getD k .none := by
          rw [List.range_succ_eq_map, List.map_cons, List.map_map, List.append_assoc]
          rfl
        rw [e] at this
        exact this
    · cases h3
end
end Go.Ev
