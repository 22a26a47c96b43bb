/- Part of a proof: the small language, and functions of the program on it. -/
import Derived.Test.YtenicbbhihbkcaaGreatDoorTyC1f
set_option linter.unusedSimpArgs false
set_option linter.unusedVariables false
set_option maxRecDepth 100000
namespace Go.Proofs.YtenicbbhihbkcaaGreatDoor
open Go.Ev
noncomputable def holdsR (y n : V) : Option Bool :=
  match run cx0.G cx0.prim treeTyC 100 40 151 [y, n] [] with
  | some (.bool b, []) => some b
  | _ => none
def atS : V → Bool
  | .agg [.int .i64 _, .bool _, .str _, .str _, .int .i64 _, .str _, .bool _] => true
  | _ => false
def slS : V → Bool
  | .nils => true
  | .sl _ _ => true
  | _ => false
def ndS : V → Bool
  | .agg [.int .i64 _, .int .i64 _, .str _, .str _, a, s, .str _] => slS a && slS s
  | _ => false
noncomputable def rowGo (ys : List V) (n : V) : List V → Option (List UInt8)
  | [] => some []
  | .int .i64 i :: r => if 0 ≤ i then (ys[i.toNat]?).bind fun y => if atS y then (holdsR y n).bind fun b => (rowGo ys n r).map fun s => (if b then 49 else 48) :: s else none else none
  | _ :: _ => none
def lsV : V → Option (List V)
  | .nils => some []
  | .sl xs _ => some xs
  | _ => none
noncomputable def rowG (σ : Objs) : List V → Option V
  | [.ptr o off, n, z] =>
    (Objs.get σ o).bind fun cs => (cs[off]?).bind fun a => (lsV a).bind fun ys => (lsV z).bind fun zs =>
      if V.rbs 0 ys && V.rb 0 n && ndS n && decide (zs.length ≤ 1000) && decide (ys.length ≤ 1000) then (rowGo ys n zs).map V.str else none
  | _ => none
noncomputable def rowP (xs : List V) (σ : Objs) : Option (V × Objs) := (rowG σ xs).map fun v => (v, σ)
noncomputable def primTy (f : FuncId) : Option (List V → Objs → Option (V × Objs)) :=
  if f = 266 then some rowP else prim0 f
noncomputable def cx : Ctx := ⟨cx0.G, codeTyC, primTy⟩
end Go.Proofs.YtenicbbhihbkcaaGreatDoor
set_option linter.unusedSimpArgs false
set_option linter.unusedVariables false
namespace Go.Ev
open Go
def objsB : Objs → Objs → Bool
  | [], [] => true
  | .cells a :: r, .cells b :: s => V.beqs a b && objsB r s
  | _, _ => false
theorem objsB_eq : ∀ {σ τ : Objs}, objsB σ τ = true → σ = τ
  | [], [], _ => rfl
  | .cells a :: r, .cells b :: s, h => by
    simp only [objsB, Bool.and_eq_true] at h
    rw [V.beqs_eq _ _ h.1, objsB_eq h.2]
  | [], _ :: _, h => by cases h
  | _ :: _, [], h => by simp [objsB] at h
  | .cells _ :: _, .mp _ :: _, h => by simp [objsB] at h
  | .cells _ :: _, .si _ _ :: _, h => by simp [objsB] at h
  | .cells _ :: _, .gone :: _, h => by simp [objsB] at h
  | .mp _ :: _, _ :: _, h => by simp [objsB] at h
  | .si _ _ :: _, _ :: _, h => by simp [objsB] at h
  | .gone :: _, _ :: _, h => by simp [objsB] at h
structure Me where
  f : Nat
  xs : List V
  s : Objs
  r : V
  s' : Objs
def MeOk (C : Ctx) (l : List Me) : Prop := ∀ m ∈ l, E C m.f m.xs m.s = some (m.r, m.s')
noncomputable def memoQ (l : List Me) (f : Nat) (xs : List V) (σ : Objs) : Ro := List.rec (motive := fun _ => Ro) none (fun m _ ih => Bool.rec (motive := fun _ => Ro) ih (Bool.rec (motive := fun _ => Ro) ih (some (m.r, m.s')) (bothQ (V.beqs xs m.xs) (objsB σ m.s))) (Nat.beq f m.f)) l
theorem memoQ_ok {C : Ctx} {f : Nat} {xs : List V} {σ : Objs} {r : V × Objs} : ∀ {l : List Me}, MeOk C l → memoQ l f xs σ = some r → E C f xs σ = some r
  | [], _, h => by cases h
  | m :: l, hl, h => by
    have ih := memoQ_ok (l := l) (C := C) (f := f) (xs := xs) (σ := σ) (r := r) fun m' hm => hl m' (List.mem_cons_of_mem _ hm)
    have h' : Bool.rec (motive := fun _ => Ro) (memoQ l f xs σ) (Bool.rec (motive := fun _ => Ro) (memoQ l f xs σ) (some (m.r, m.s')) (bothQ (V.beqs xs m.xs) (objsB σ m.s))) (Nat.beq f m.f) = some r := h
    cases h1 : Nat.beq f m.f with
    | false => rw [h1] at h'; exact ih h'
    | true =>
      rw [h1] at h'
      cases h2 : bothQ (V.beqs xs m.xs) (objsB σ m.s) with
      | false => rw [h2] at h'; exact ih h'
      | true =>
        rw [h2] at h'
        have e : some (m.r, m.s') = some r := h'
        rw [bothQ_eq, Bool.and_eq_true] at h2
        rw [Nat.eq_of_beq_eq_true h1, V.beqs_eq _ _ h2.1, objsB_eq h2.2, ← e]
        exact hl m (List.mem_cons_self ..)
noncomputable def runM (G : GV) (prim : FuncId → Option (List V → Objs → Ro)) (t : Tr) (l : List Me) (k : Nat) (n : Nat) : FuncId → List V → Objs → Ro :=
  Nat.rec (fun _ _ _ => none) (fun _ ih f xs σ => Option.rec (motive := fun _ => Ro) (match t.get f with | some h => h ⟨G, ih, fun F => iter F k⟩ xs σ | none => match prim f with | some h => h xs σ | none => none) (fun r => some r) (memoQ l f xs σ)) n
theorem runM_E {C : Ctx} {t : Tr} (ht : TrOk C t) {l : List Me} (hl : MeOk C l) (k : Nat) : ∀ (n : Nat) (f : FuncId) (xs : List V) (σ : Objs), Le (runM C.G C.prim t l k n f xs σ) (E C f xs σ)
  | 0, f, xs, σ => fun r h => by cases h
  | n + 1, f, xs, σ => by
    intro r h
    have e : runM C.G C.prim t l k (n + 1) f xs σ = Option.rec (motive := fun _ => Ro) (match t.get f with | some h => h ⟨C.G, runM C.G C.prim t l k n, fun F => iter F k⟩ xs σ | none => match C.prim f with | some h => h xs σ | none => none) (fun r => some r) (memoQ l f xs σ) := rfl
    rw [e] at h
    cases hm : memoQ l f xs σ with
    | some r' =>
      rw [hm] at h
      have : some r' = some r := h
      rw [← this]
      exact memoQ_ok hl hm
    | none =>
      rw [hm] at h
      have h : (match t.get f with | some h => h ⟨C.G, runM C.G C.prim t l k n, fun F => iter F k⟩ xs σ | none => match C.prim f with | some h => h xs σ | none => none) = some r := h
      cases hg : t.get f with
      | none =>
        rw [hg] at h
        simp only at h
        cases hp : C.prim f with
        | none => rw [hp] at h; cases h
        | some p => rw [hp] at h; rw [E_prim hp]; exact h
      | some hh =>
        rw [hg] at h
        obtain ⟨F, hp, hc, hr⟩ := get_ok ht hg
        have h1 := hr _ _ _ r h
        rw [E_fn hp hc]
        refine cd_le (M := ⟨C.G, runM C.G C.prim t l k n, fun F => iter F k⟩) (N := Mi C) F.body ⟨rfl, fun f xs σ => runM_E ht hl k n f xs σ⟩ (fun F F' _ h2 h3 => iter_fix h2 h3 k) ⟨rfl, fun _ _ _ => Le.refl _⟩ (fun F F' _ _ h3 => iter_le h3 (Nat.le_refl k)) ⟨rfl, fun _ _ _ => Le.refl _⟩ (fun F F' h2 h3 h4 => fix_mono h2 h3 h4) (leK_refl _) _ _ r h1
theorem E_runM {C : Ctx} {t : Tr} (ht : TrOk C t) {l : List Me} (hl : MeOk C l) {k n : Nat} {f : FuncId} {xs : List V} {σ : Objs} {r : V × Objs} (h : runM C.G C.prim t l k n f xs σ = some r) : E C f xs σ = some r := runM_E ht hl k n f xs σ r h
def lacks (g : Nat) : Tr → Bool
  | .nil => true
  | .node f _ l r => !(Nat.beq f g) && lacks g l && lacks g r
theorem TrOk.more {C C' : Ctx} {g : Nat} (hc : C'.code = C.code) (hp : ∀ f, f ≠ g → C.prim f = none → C'.prim f = none) : ∀ {t : Tr}, lacks g t = true → TrOk C t → TrOk C' t
  | .nil, _, _ => trivial
  | .node f h l r, hl, ht => by
    simp only [lacks, Bool.and_eq_true, Bool.not_eq_true'] at hl
    obtain ⟨⟨F, h1, h2, h3⟩, h4, h5⟩ := ht
    refine ⟨⟨F, hp f (fun e => ?_) h1, by rw [hc]; exact h2, h3⟩, TrOk.more hc hp hl.1.2 h4, TrOk.more hc hp hl.2 h5⟩
    rw [e, Nat.beq_refl] at hl
    cases hl.1.1
end Go.Ev
