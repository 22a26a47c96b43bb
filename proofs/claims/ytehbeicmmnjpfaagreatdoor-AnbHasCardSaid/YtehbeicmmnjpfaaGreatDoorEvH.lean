/- A step of the program held against a step of the small language; operands. -/
import Derived.Test.YtehbeicmmnjpfaaGreatDoorEvG
set_option linter.unusedSimpArgs false
set_option linter.unusedVariables false
namespace Go.Ev
open Go

def chkCell : Value → V → Bool
  | .bool a, .bool b => a == b
  | .int k a, .int j b => decide (k = j) && decide (a = b)
  | .string s, .str l => decide (s.data.toList = l)
  | .pointer none, .nilp => true
  | .slice none n m, .nils => n == 0 && m == 0
  | .map none, .nilm => true
  | .nilIface, .nili => true
  | .nilFunc, .nilf => true
  | _, _ => false

def chkCells : List Value → List V → Bool
  | [], [] => true
  | v :: vs, x :: xs => chkCell v x && chkCells vs xs
  | _, _ => false

def chkConst : Value → V → Bool
  | .agg vs, .agg cs => chkCells vs.toList cs
  | .tuple vs, .undef => vs.toList.isEmpty
  | v, x => chkCell v x

def chkArg : Operand → Arg → Bool
  | .tmp t, .t n => t == n
  | .const v, .c x => chkConst v x
  | .global g, .g n => g == n
  | .func f, .f g => f == g
  | _, _ => false

def chkArgs : List Operand → List Arg → Bool
  | [], [] => true
  | x :: xs, y :: ys => chkArg x y && chkArgs xs ys
  | _, _ => false

def szOf (P : Program) (t : TypeId) : Option Nat := (P.info? t).map (·.size)
def isAg : TypeDesc → Bool
  | .struct _ | .array _ _ => true
  | _ => false
def agOf (P : Program) (t : TypeId) : Option Bool := (P.underlying t).map isAg

def chkTy (P : Program) (t : TypeId) (ag : Bool) (sz : Nat) : Bool := agOf P t == some ag && szOf P t == some sz && (ag || sz == 1)

section
variable {M : Mem} {ι : Plc}

theorem chkCell_rep {v : Value} {x : V} (h : chkCell v x = true) : Rep M ι v x ∧ x.one = true ∧ x.nogr = x ∧ v.oneCell = true := by
  unfold chkCell at h
  split at h
  · simp at h; subst h; exact ⟨.bool _, rfl, rfl, rfl⟩
  · simp at h; obtain ⟨rfl, rfl⟩ := h; exact ⟨.int _ _, rfl, rfl, rfl⟩
  · simp at h; exact ⟨.str _ _ h, rfl, rfl, rfl⟩
  · exact ⟨.nilp, rfl, rfl, rfl⟩
  · simp at h; obtain ⟨rfl, rfl⟩ := h; exact ⟨.nils, rfl, rfl, rfl⟩
  · exact ⟨.nilm, rfl, rfl, rfl⟩
  · exact ⟨.nili, rfl, rfl, rfl⟩
  · exact ⟨.nilf, rfl, rfl, rfl⟩
  · cases h

theorem chkCells_reps : ∀ {vs : List Value} {xs : List V}, chkCells vs xs = true → Reps M ι vs xs ∧ (∀ x ∈ xs, x.one = true ∧ x.nogr = x) ∧ ∀ v ∈ vs, v.oneCell = true
  | [], [], _ => ⟨.nil, by simp, by simp⟩
  | v :: vs, x :: xs, h => by
    simp only [chkCells, Bool.and_eq_true] at h
    obtain ⟨h1, h2, h3, h4⟩ := chkCell_rep (M := M) (ι := ι) h.1
    obtain ⟨h5, h6, h7⟩ := chkCells_reps h.2
    exact ⟨Reps.cons h1 h5, fun y hy => by
      rcases List.mem_cons.1 hy with rfl | hy
      · exact ⟨h2, h3⟩
      · exact h6 y hy, fun y hy => by
      rcases List.mem_cons.1 hy with rfl | hy
      · exact h4
      · exact h7 y hy⟩
  | [], _ :: _, h => by simp [chkCells] at h
  | _ :: _, [], h => by simp [chkCells] at h

theorem chkConst_rep {v : Value} {x : V} (h : chkConst v x = true) : Rep M ι v x ∧ x.nogr = x := by
  unfold chkConst at h
  split at h
  · exact ⟨Rep.agg_iff.2 (chkCells_reps h).1, rfl⟩
  · rename_i vs
    have : vs = #[] := by simpa using h
    subst this
    exact ⟨.undef, rfl⟩
  · have := chkCell_rep (M := M) (ι := ι) h; exact ⟨this.1, this.2.2.1⟩

/-- The program's variables, as they are read. -/
structure GOK (G : Nat → V) (M : Mem) (ι : Plc) : Prop where
  ok : ∀ g, Rep M ι (.pointer (some ⟨g, 0, none⟩)) (G g)

theorem GOK.mono {G : Nat → V} {M M' : Mem} {ι ι' : Plc} (h : GOK G M ι) (hm : MemLe M M') (hi : PlcLe ι ι') : GOK G M' ι' := ⟨fun g => (h.ok g).mono hm hi⟩

theorem reps_getD {us : List Value} {ρ : List V} (h : Reps M ι us ρ) (n : Nat) : Rep M ι (us.getD n undef) (ρ.getD n .undef) := by
  by_cases hn : n < ρ.length
  · have hu : n < us.length := by rw [h.1]; exact hn
    simp only [List.getD, List.getElem?_eq_getElem hn, List.getElem?_eq_getElem hu, Option.getD_some]
    exact h.2 n _ _ (List.getElem?_eq_getElem hu) (List.getElem?_eq_getElem hn)
  · have hu : ¬ n < us.length := by rw [h.1]; exact hn
    simp only [List.getD, List.getElem?_eq_none (Nat.not_lt.1 hn), List.getElem?_eq_none (Nat.not_lt.1 hu), Option.getD_none]
    exact .undef

theorem chkArg_rep {G : Nat → V} {a : Act} {ρ : List V} (hr : Reps M ι a.tmps.toList ρ) (hG : GOK G M ι) {x : Operand} {y : Arg} (h : chkArg x y = true) : Rep M ι (a.eval x) (argT G ρ y) := by
  unfold chkArg at h
  split at h
  · rename_i t n
    have : t = n := by simpa using h
    subst this
    have := reps_getD hr t
    simpa [Act.eval, argT, Array.getD_eq_getD_getElem?, List.getD] using this
  · exact (chkConst_rep h).1
  · rename_i g n
    have : g = n := by simpa using h
    subst this
    exact hG.ok g
  · rename_i f g
    have : f = g := by simpa using h
    subst this
    exact .fn f #[] #[] [] [] rfl rfl (fun i v c h => by simp at h) (fun i v c h => by simp at h)
  · cases h

/-- How operands stand to arguments. -/
structure Opd (M : Mem) (ι : Plc) (r : Operand → Value) (A : Arg → V) : Prop where
  ok : ∀ x y, chkArg x y = true → Rep M ι (r x) (A y)

theorem Opd.args {r : Operand → Value} {A : Arg → V} (h : Opd M ι r A) : ∀ {xs : List Operand} {ys : List Arg}, chkArgs xs ys = true → Reps M ι (xs.map r) (ys.map A)
  | [], [], _ => .nil
  | x :: xs, y :: ys, hc => by
    simp only [chkArgs, Bool.and_eq_true] at hc
    exact Reps.cons (h.ok x y hc.1) (h.args hc.2)
  | [], _ :: _, hc => by simp [chkArgs] at hc
  | _ :: _, [], hc => by simp [chkArgs] at hc

theorem Opd.of_state {G : Nat → V} {a : Act} {ρ : List V} (hr : Reps M ι a.tmps.toList ρ) (hG : GOK G M ι) : Opd M ι a.eval (arg G ρ) :=
  ⟨fun x y h => (chkArg_rep hr hG h).nogr⟩

/-! What a tree tells of its value. -/
theorem Rep.inv_bool {v : Value} {b : Bool} (h : Rep M ι v (.bool b)) : v = .bool b := by cases h; rfl
theorem Rep.inv_int {v : Value} {k : IntKind} {n : Int} (h : Rep M ι v (.int k n)) : v = .int k n := by cases h; rfl
theorem Rep.inv_str {v : Value} {s : List UInt8} (h : Rep M ι v (.str s)) : ∃ b : ByteArray, v = .string b ∧ b.data.toList = s := by cases h; exact ⟨_, rfl, ‹_›⟩
theorem Rep.inv_ptr {v : Value} {o off : Nat} (h : Rep M ι v (.ptr o off)) : ∃ b, v = .pointer (some ⟨b, off, none⟩) ∧ ι o = some b := by cases h; exact ⟨_, rfl, ‹_›⟩
theorem Rep.inv_eptr {v : Value} {cs : List V} {off : Nat} (h : Rep M ι v (.eptr cs off)) :
    ∃ b base us, v = .pointer (some ⟨b, base + off, none⟩) ∧ Reps M ι us cs ∧ ∀ (i : Nat) u, us[i]? = some u → M b (base + i) = some u := by
  cases h with
  | eptr _ _ b base us hl hm hr => exact ⟨b, base, us, rfl, ⟨hl, hr⟩, hm⟩
theorem Rep.inv_sl {v : Value} {xs : List V} {c : Cap} (h : Rep M ι v (.sl xs c)) :
    ∃ b off cap sz us, v = .slice (some ⟨b, off, none⟩) xs.length cap ∧ (∀ x ∈ xs, x.cells.length = sz) ∧ Reps M ι us (xs.flatMap V.cells) ∧ (∀ (i : Nat) u, us[i]? = some u → M b (off + i) = some u) ∧ xs.length ≤ cap ∧ (c = .fx → cap = xs.length) := by
  cases h with
  | sl _ _ b off cap sz us hs hl hm hr hcap hfx => exact ⟨b, off, cap, sz, us, rfl, hs, ⟨hl, hr⟩, hm, hcap, hfx⟩
theorem Rep.inv_hs {v : Value} {o off len sz : Nat} {ag : Bool} (h : Rep M ι v (.hs o off len sz ag)) : ∃ b cap, v = .slice (some ⟨b, off, none⟩) len cap ∧ ι o = some b ∧ len ≤ cap := by
  cases h; exact ⟨_, _, rfl, ‹_›, ‹_›⟩

end

/-! Runs of small parts. -/
section
variable {P : Program} {w : World}

theorem run_underlying {t : TypeId} {d : TypeDesc} (h : P.underlying t = some d) : (underlying t).run P w = .ok d w := by
  simp [underlying, program, sem_bind_run, Sem.run, Result.andThen, h]
theorem run_typeInfo {t : TypeId} {i : TypeInfo} (h : P.info? t = some i) : (typeInfo t).run P w = .ok i w := by
  simp [typeInfo, program, sem_bind_run, Sem.run, Result.andThen, h]
theorem run_sizeOf {t : TypeId} {n : Nat} (h : szOf P t = some n) : (sizeOf t).run P w = .ok n w := by
  unfold szOf at h
  rw [Option.map_eq_some_iff] at h
  obtain ⟨i, hi, rfl⟩ := h
  simp only [sizeOf, sem_bind_run, run_typeInfo hi, Result.andThen]
  rfl
theorem run_isAgg {t : TypeId} {b : Bool} (h : agOf P t = some b) : (isAgg t).run P w = .ok b w := by
  unfold agOf at h
  rw [Option.map_eq_some_iff] at h
  obtain ⟨d, hd, rfl⟩ := h
  simp only [isAgg, sem_bind_run, run_underlying hd, Result.andThen]
  cases d <;> rfl
end
end Go.Ev
