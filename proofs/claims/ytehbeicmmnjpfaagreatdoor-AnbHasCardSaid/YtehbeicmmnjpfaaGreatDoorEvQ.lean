/- One step, but calls: held against the program's, and what it leaves. -/
import Derived.Test.YtehbeicmmnjpfaaGreatDoorEvP
set_option linter.unusedSimpArgs false
set_option linter.unusedVariables false
namespace Go.Ev
open Go

def okTk (y : Arg) (tk : Bool) : Bool :=
  match y, tk with
  | _, false => true
  | .t _, true => true
  | _, _ => false

def chkOpt : Option Operand → Option Arg → Bool
  | none, none => true
  | some x, some y => chkArg x y
  | _, _ => false

def notIface : TypeDesc → Bool
  | .interface _ => false
  | _ => true

def isStrT (P : Program) (t : TypeId) : Bool := match P.underlying t with | some .string => true | _ => false
def isU8T (P : Program) (t : TypeId) : Bool := match P.underlying t with | some (.int .u8) => true | _ => false
theorem isStrT_spec {P : Program} {t : TypeId} (h : isStrT P t = true) : P.underlying t = some .string := by
  unfold isStrT at h; split at h <;> first | assumption | cases h
theorem isU8T_spec {P : Program} {t : TypeId} (h : isU8T P t = true) : P.underlying t = some (.int .u8) := by
  unfold isU8T at h; split at h <;> first | assumption | cases h

def chkIns (P : Program) (o : Op) (i : Ins) : Bool :=
  match i with
  | .mv y tk => match o with
    | .move x | .assign x => chkArg x y && okTk y tk
    | _ => false
  | .pick c' a' b' => match o with
    | .pick c a b => chkArg c c' && chkArg a a' && chkArg b b'
    | _ => false
  | .alloc z => match o with
    | .alloc e => (match zeroOf P e with | some zv => chkCells zv.cells.toList z | none => false)
    | _ => false
  | .box y => match o with
    | .box _ x => chkArg x y
    | _ => false
  | .build z qs => match o with
    | .build t ps => chkBuild P t z ps.toList qs
    | _ => false
  | .buildSl ag sz len z qs _ => match o with
    | .buildSlice t len' ps => (match chkElem P t ag sz with
      | some e => len == len' && (len == 0 || chkZero P e z && decide (z.cells.length = sz)) && decide (sz ≠ 0) && decide (len * sz ≤ 16777216) && chkPartsSl ps.toList qs
      | none => false)
    | _ => false
  | .buildG ag sz len z qs => match o with
    | .buildSlice t len' ps => (match chkElem P t ag sz with
      | some e => len == len' && (len == 0 || chkZero P e z && decide (z.cells.length = sz)) && decide (sz ≠ 0) && decide (len * sz ≤ 16777216) && chkPartsSl ps.toList qs
      | none => false)
    | _ => false
  | .mark y => match o with
    | .convert s d x => s == d && (match P.underlying s with | some (.slice e) => isU8T P e | _ => false) && chkArg x y && okTk y true
    | _ => false
  | .load ag sz y => match o with
    | .load t x => chkTy P t ag sz && chkArg x y
    | _ => false
  | .loadT y => match o with
    | .load t x => chkTy P t false 1 && chkArg x y
    | _ => false
  | .store sz p' y tk => match o with
    | .store t p x => decide (szOf P t = some sz) && chkArg p p' && chkArg x y && okTk y tk
    | _ => false
  | .nilc y => match o with
    | .nilCheck x => chkArg x y
    | _ => false
  | .bin op' k x' y' => match o with
    | .binOp op t x y _ => decide (op = op') && chkEq P op k t x y && chkArg x x' && chkArg y y'
    | _ => false
  | .un op' y => match o with
    | .unOp op _ x => decide (op = op') && chkArg x y
    | _ => false
  | .conv k y => match o with
    | .convert s d x => chkArg x y && (match k, P.underlying s, P.underlying d with
      | .toInt k', some _, some (.int j) => decide (k' = j)
      | .same, some .string, some .string => true
      | .intStr, some (.int _), some .string => true
      | .strBytes, some .string, some (.slice e) => isU8T P e
      | .bytesStr, some (.slice e), some .string => isU8T P e
      | .bytesStrN, some (.slice e), some .string => isU8T P e
      | _, _, _ => false)
    | _ => false
  | .bytesH y => match o with
    | .convert s d x => chkArg x y && (match P.underlying s, P.underlying d with
      | some .string, some (.slice e) => isU8T P e
      | _, _ => false)
    | _ => false
  | .cutS y lo' hi' => match o with
    | .slice t x lo hi mx => isStrT P t && mx.isNone && chkArg x y && chkOpt lo lo' && chkOpt hi hi'
    | _ => false
  | .cut sz y lo' hi' mx' => match o with
    | .slice t x lo hi mx => (match P.underlying t with | some (.slice e) => decide (szOf P e = some sz) | _ => false) && chkArg x y && chkOpt lo lo' && chkOpt hi hi' && chkOpt mx mx' && (mx'.isNone || hi'.isSome)
    | _ => false
  | .cutA n sz _ y lo' hi' => match o with
    | .slice t x lo hi mx => (match P.underlying t with | some (.array m e) => n == m && decide (szOf P e = some sz) | _ => false) && mx.isNone && chkArg x y && chkOpt lo lo' && chkOpt hi hi'
    | _ => false
  | .faddr off y => match o with
    | .fieldAddr s x f => (match chkField P s f off with | some t => (match szOf P t with | some sz => decide (sz ≠ 0) | none => false) | none => false) && chkArg x y
    | _ => false
  | .field ag off sz y => match o with
    | .field s x f => (match chkField P s f off with | some t => chkTy P t ag sz | none => false) && chkArg x y
    | _ => false
  | .iaddr sz y j => match o with
    | .indexAddr t x i => (match P.underlying t with | some (.slice e) => decide (szOf P e = some sz) | _ => false) && chkArg x y && chkArg i j
    | _ => false
  | .iaddrA n sz y j => match o with
    | .indexAddr t x i => (match P.underlying t with | some (.array m e) => n == m && decide (szOf P e = some sz) | _ => false) && chkArg x y && chkArg i j
    | _ => false
  | .idx y j => match o with
    | .index t x i => isStrT P t && chkArg x y && chkArg i j
    | _ => false
  | .idxA n ag sz y j => match o with
    | .index t x i => (match P.underlying t with | some (.array m e) => n == m && chkTy P e ag sz | _ => false) && chkArg x y && chkArg i j
    | _ => false
  | .lenS y => match o with
    | .call { callee := .builtin .len, args, argTypes } => chkArgs args.toList [y] && (match argTypes.toList with | [t] => isStrT P t | _ => false)
    | _ => false
  | .len y => match o with
    | .call { callee := .builtin .len, args, argTypes } => chkArgs args.toList [y] && (match argTypes.toList with | [t] => (match P.underlying t with | some (.slice _) => true | _ => false) | _ => false)
    | _ => false
  | .app str ag sz bytes x' y' tk => match o with
    | .call { callee := .builtin .append, args, argTypes } => chkArgs args.toList [x', y'] && okTk x' tk && (match argTypes.toList with | [t, tx] => chkApp P str ag sz bytes t tx | _ => false)
    | _ => false
  | .mkfn f' a' b' => match o with
    | .makeFunc (.func f) a b => f == f' && chkArgs a.toList a' && chkArgs b.toList b'
    | _ => false
  | .mkif t' y => match o with
    | .makeInterface t x => t == t' && chkArg x y && (match P.underlying t with | some d => notIface d | none => false)
    | _ => false
  | .extr y j => match o with
    | .extract x i => i == j && chkArg x y
    | _ => false
  | .mkSl ag sz bytes z l' c' _ => match o with
    | .makeSlice t l c => (match chkElem P t ag sz with
      | some e => chkZero P e z && decide (z.cells.length = sz) && decide (sz ≠ 0) && decide (bytes ≠ 0) && decide ((P.info? e).map (·.bytes) = some bytes) && chkArg l l' && chkArg c c'
      | none => false)
    | _ => false
  | .mm mx ys => match o with
    | .call { callee := .builtin b, args, argTypes := _ } => (match b, mx with | .max, true => true | .min, false => true | _, _ => false) && chkArgs args.toList ys
    | _ => false
  | .call f ys => match o with
    | .call { callee := .value (.func g), args, argTypes := _ } => f == g && chkArgs args.toList ys
    | _ => false
  | .callv y ys => match o with
    | .call { callee := .value x, args, argTypes := _ } => chkArg x y && chkArgs args.toList ys
    | _ => false
  | _ => false

section
variable {P : Program} {M : Mem} {ι : Plc} {X : Nat → Prop} {κ : Own} {w : World} {ρ : List V} {σ : Objs} {G : Nat → V} {a : Act}

theorem chkOpt_rep {r : Operand → Value} {A : Arg → V} (hA : Opd M ι r A) {x : Option Operand} {y : Option Arg} (h : chkOpt x y = true) : RepO M ι (x.map r) (y.map A) := by
  cases x <;> cases y <;> first | trivial | exact hA.ok _ _ h | cases h

theorem chkArgs_two {xs : List Operand} {y z : Arg} (h : chkArgs xs [y, z] = true) : ∃ p q, xs = [p, q] ∧ chkArg p y = true ∧ chkArg q z = true := by
  cases xs with
  | nil => simp [chkArgs] at h
  | cons p xs =>
    cases xs with
    | nil => simp [chkArgs] at h
    | cons q xs =>
      cases xs with
      | nil => simp only [chkArgs, Bool.and_eq_true] at h; exact ⟨p, q, rfl, h.1, h.2.1⟩
      | cons _ _ => simp [chkArgs] at h
theorem chkArgs_one {xs : List Operand} {y : Arg} (h : chkArgs xs [y] = true) : ∃ p, xs = [p] ∧ chkArg p y = true := by
  cases xs with
  | nil => simp [chkArgs] at h
  | cons p xs =>
    cases xs with
    | nil => simp only [chkArgs, Bool.and_eq_true] at h; exact ⟨p, rfl, h.1⟩
    | cons _ _ => simp [chkArgs] at h

theorem exec_len {r : Operand → Value} {dst : Option Tmp} {args : Array Operand} {ts : Array TypeId} {type : TypeId} {pos : String} {after : Array Edge} {guard : Option (Nat × Bool)} :
    execOp r ⟨dst, .call { callee := .builtin .len, args := args, argTypes := ts }, type, pos, after, guard⟩ = (do pure (.value (← Builtin.len_ ts type (args.map r)))) := rfl
theorem exec_append {r : Operand → Value} {dst : Option Tmp} {args : Array Operand} {ts : Array TypeId} {type : TypeId} {pos : String} {after : Array Edge} {guard : Option (Nat × Bool)} :
    execOp r ⟨dst, .call { callee := .builtin .append, args := args, argTypes := ts }, type, pos, after, guard⟩ = (do pure (.value (← Builtin.append_ ts type (args.map r)))) := rfl

/-- Steps that read alone: the program's step answers the value, in the world as it is. -/
theorem run_pure (h : Wd M ι X κ w σ) {o : Oper} {i : Ins} {A : Arg → V} {x : V} (hA : Opd M ι a.eval A) (hc : chkIns P o.op i = true) (hns : ∀ y, i ≠ .conv .strBytes y) (he : evPure A σ i = some x) :
    ∃ u, (execOp a.eval o).run P w = .ok (.value u) w ∧ Rep M ι u x := by
  obtain ⟨dst, op, type, pos, after, guard⟩ := o
  have val : ∀ (s : Sem Value) {y : V}, (∃ u, s.run P w = .ok u w ∧ Rep M ι u y) → (execOp a.eval ⟨dst, op, type, pos, after, guard⟩ = (do pure (.value (← s)))) → ∃ u, (execOp a.eval ⟨dst, op, type, pos, after, guard⟩).run P w = .ok (.value u) w ∧ Rep M ι u y := by
    intro s y ⟨u, h1, h2⟩ he
    refine ⟨u, ?_, h2⟩
    rw [he, sem_bind_run, h1]
    rfl
  cases i <;> (try (simp only [evPure] at he; cases he; done))
  case pick c' a' b' =>
    cases op <;> (try (cases hc; done))
    simp only [chkIns, Bool.and_eq_true] at hc
    simp only [evPure] at he
    split at he
    · rename_i t ht
      cases he
      have hcv := hA.ok _ _ hc.1.1
      rw [ht] at hcv
      have hb := hcv.inv_bool
      rename_i c1 a1 b1 _
      refine ⟨if t then a.eval a1 else a.eval b1, ?_, ?_⟩
      · simp only [execOp, sem_bind_run, hb, asBool, sem_pure_run, Result.andThen]
      · cases t
        · exact hA.ok _ _ hc.2
        · exact hA.ok _ _ hc.1.2
    · cases he
  case build z qs =>
    cases op <;> (try (cases hc; done))
    simp only [chkIns] at hc
    exact val _ (snd_build hA hc he) rfl
  case load ag sz y =>
    cases op <;> (try (cases hc; done))
    simp only [chkIns, Bool.and_eq_true] at hc
    exact val _ (snd_load h hc.1 (hA.ok _ _ hc.2) he) rfl
  case nilc y =>
    cases op <;> (try (cases hc; done))
    simp only [chkIns] at hc
    have hv := hA.ok _ _ hc
    simp only [evPure] at he
    unfold evNilc at he
    split at he
    · rename_i hy
      cases he
      rw [hy] at hv
      obtain ⟨b, hvb, hi⟩ := hv.inv_ptr
      refine ⟨_, ?_, .ptr _ _ b hi⟩
      simp only [execOp, hvb]; rfl
    · rename_i cs off hy
      cases he
      rw [hy] at hv
      have hv' := hv
      obtain ⟨b, base, us, hvb, _, _⟩ := hv.inv_eptr
      rw [hvb] at hv'
      refine ⟨_, ?_, hv'⟩
      simp only [execOp, hvb]; rfl
    · rename_i f p q hy
      cases he
      rw [hy] at hv
      have hv' := hv
      generalize hg : a.eval _ = vv at hv hv'
      cases hv with
      | fn _ as bs _ _ _ _ _ _ =>
        refine ⟨_, ?_, hv'⟩
        simp only [execOp, hg]; rfl
    · cases he
  case bin op' k x' y' =>
    cases op <;> (try (cases hc; done))
    simp only [chkIns, Bool.and_eq_true, decide_eq_true_eq] at hc
    obtain ⟨⟨⟨rfl, h2⟩, h3⟩, h4⟩ := hc
    exact val _ (snd_bin h2 (hA.ok _ _ h3) (hA.ok _ _ h4) he) rfl
  case un op' y =>
    cases op <;> (try (cases hc; done))
    simp only [chkIns, Bool.and_eq_true, decide_eq_true_eq] at hc
    obtain ⟨rfl, h2⟩ := hc
    exact val _ (snd_un (hA.ok _ _ h2) he) rfl
  case conv k y =>
    cases op <;> (try (cases hc; done))
    simp only [chkIns, Bool.and_eq_true] at hc
    obtain ⟨h1, h2⟩ := hc
    have hv := hA.ok _ _ h1
    simp only [evPure] at he
    split at h2 <;> (try (cases h2; done))
    · rename_i hs hd
      have hkj : _ = _ := of_decide_eq_true h2
      subst hkj
      exact val _ (snd_toInt (σ := σ) hs hd hv he) rfl
    · rename_i hs hd
      exact val _ (snd_same (σ := σ) hs hd hv he) rfl
    · rename_i hs hd
      exact val _ (snd_intStr (σ := σ) hs hd hv he) rfl
    · exact absurd rfl (hns y)
    · rename_i hs hd
      exact val _ (snd_bytesStr h hs (isU8T_spec h2) hd hv he) rfl
    · rename_i hs hd
      exact val _ (snd_bytesStr h hs (isU8T_spec h2) hd hv (evConv_N he)) rfl
  case cutS y lo' hi' =>
    cases op <;> (try (cases hc; done))
    rename_i t x lo hi mx
    simp only [chkIns, Bool.and_eq_true, decide_eq_true_eq] at hc
    obtain ⟨⟨⟨⟨h1, h2⟩, h3⟩, h4⟩, h5⟩ := hc
    cases mx with
    | some _ => cases h2
    | none => exact val _ (snd_cutS (isStrT_spec h1) (hA.ok _ _ h3) (chkOpt_rep hA h4) (chkOpt_rep hA h5) he) rfl
  case cut sz y lo' hi' mx' =>
    cases op <;> (try (cases hc; done))
    rename_i t x lo hi mx
    simp only [chkIns, Bool.and_eq_true] at hc
    obtain ⟨⟨⟨⟨⟨h1, h2⟩, h3⟩, h4⟩, h5⟩, h6⟩ := hc
    split at h1
    · rename_i e hu
      refine val _ (snd_cut hu (of_decide_eq_true h1) (hA.ok _ _ h2) (chkOpt_rep hA h3) (chkOpt_rep hA h4) (chkOpt_rep hA h5) (fun hm => ?_) he) rfl
      cases mx' <;> cases hi' <;> simp_all
    · cases h1
  case cutA n sz ag y lo' hi' =>
    cases op <;> (try (cases hc; done))
    rename_i t x lo hi mx
    simp only [chkIns, Bool.and_eq_true] at hc
    obtain ⟨⟨⟨⟨h1, h2⟩, h3⟩, h4⟩, h5⟩ := hc
    split at h1
    · rename_i m e hu
      simp only [Bool.and_eq_true, beq_iff_eq] at h1
      obtain ⟨rfl, h1⟩ := h1
      cases mx with
      | some _ => cases h2
      | none => exact val _ (snd_cutA h hu (of_decide_eq_true h1) (hA.ok _ _ h3) (chkOpt_rep hA h4) (chkOpt_rep hA h5) he) rfl
    · cases h1
  case faddr off y =>
    cases op <;> (try (cases hc; done))
    simp only [chkIns, Bool.and_eq_true] at hc
    obtain ⟨h1, h2⟩ := hc
    split at h1
    · rename_i t ht
      split at h1
      · rename_i sz hsz
        exact val _ (snd_faddr ht hsz (of_decide_eq_true h1) (hA.ok _ _ h2) he) rfl
      · cases h1
    · cases h1
  case field ag off sz y =>
    cases op <;> (try (cases hc; done))
    simp only [chkIns, Bool.and_eq_true] at hc
    obtain ⟨h1, h2⟩ := hc
    split at h1
    · rename_i t ht
      exact val _ (snd_field ht h1 (hA.ok _ _ h2) he) rfl
    · cases h1
  case iaddr sz y j =>
    cases op <;> (try (cases hc; done))
    simp only [chkIns, Bool.and_eq_true] at hc
    obtain ⟨⟨h1, h2⟩, h3⟩ := hc
    split at h1
    · rename_i e hu
      exact val _ (snd_iaddr h hu (of_decide_eq_true h1) (hA.ok _ _ h2) (hA.ok _ _ h3) he) rfl
    · cases h1
  case iaddrA n sz y j =>
    cases op <;> (try (cases hc; done))
    simp only [chkIns, Bool.and_eq_true] at hc
    obtain ⟨⟨h1, h2⟩, h3⟩ := hc
    split at h1
    · rename_i m e hu
      simp only [Bool.and_eq_true, beq_iff_eq] at h1
      obtain ⟨rfl, h1⟩ := h1
      exact val _ (snd_iaddrA hu (of_decide_eq_true h1) (hA.ok _ _ h2) (hA.ok _ _ h3) he) rfl
    · cases h1
  case idx y j =>
    cases op <;> (try (cases hc; done))
    simp only [chkIns, Bool.and_eq_true, decide_eq_true_eq] at hc
    obtain ⟨⟨h1, h2⟩, h3⟩ := hc
    exact val _ (snd_idx (isStrT_spec h1) (hA.ok _ _ h2) (hA.ok _ _ h3) he) rfl
  case idxA n ag sz y j =>
    cases op <;> (try (cases hc; done))
    simp only [chkIns, Bool.and_eq_true] at hc
    obtain ⟨⟨h1, h2⟩, h3⟩ := hc
    split at h1
    · rename_i m e hu
      simp only [Bool.and_eq_true, beq_iff_eq] at h1
      obtain ⟨rfl, h1⟩ := h1
      exact val _ (snd_idxA hu h1 (hA.ok _ _ h2) (hA.ok _ _ h3) he) rfl
    · cases h1
  case extr y j =>
    cases op <;> (try (cases hc; done))
    simp only [chkIns, Bool.and_eq_true, beq_iff_eq] at hc
    obtain ⟨rfl, h2⟩ := hc
    exact val _ (snd_extr (hA.ok _ _ h2) he) rfl
  case mkif t' y =>
    cases op <;> (try (cases hc; done))
    simp only [chkIns, Bool.and_eq_true, beq_iff_eq] at hc
    obtain ⟨⟨rfl, h2⟩, h3⟩ := hc
    simp only [evPure] at he
    cases he
    split at h3
    · rename_i d hd
      refine val _ ⟨_, ?_, .ifc _ _ _ (hA.ok _ _ h2)⟩ rfl
      unfold Instr.makeInterface
      simp only [sem_bind_run, run_underlying hd, Result.andThen]
      cases d <;> first | rfl | cases h3
    · cases h3
  case mkfn f' a' b' =>
    cases op <;> (try (cases hc; done))
    rename_i fn fi ca
    cases fn <;> (try (cases hc; done))
    simp only [chkIns, Bool.and_eq_true, beq_iff_eq] at hc
    obtain ⟨⟨rfl, h2⟩, h3⟩ := hc
    simp only [evPure] at he
    cases he
    have r1 := hA.args h2
    have r2 := hA.args h3
    refine val _ ⟨_, rfl, ?_⟩ rfl
    refine .fn _ _ _ _ _ (by have := r1.1; simpa using this) (by have := r2.1; simpa using this) (fun i v c hv hcc => r1.2 i v c ?_ hcc) (fun i v c hv hcc => r2.2 i v c ?_ hcc)
    · simpa using hv
    · simpa using hv
  case lenS y =>
    cases op <;> (try (cases hc; done))
    rename_i c
    obtain ⟨callee, args, argTypes⟩ := c
    cases callee <;> (try (cases hc; done))
    rename_i b
    cases b <;> (try (cases hc; done))
    simp only [chkIns, Bool.and_eq_true] at hc
    obtain ⟨h1, h2⟩ := hc
    obtain ⟨p, hp, hpy⟩ := chkArgs_one h1
    split at h2
    · rename_i t htt
      have hat : argTypes = #[t] := by apply Array.ext'; simpa using htt
      have har : args = #[p] := by apply Array.ext'; simpa using hp
      subst hat har
      exact val _ (snd_lenS (ty := type) (isStrT_spec h2) (hA.ok _ _ hpy) he) (by rw [exec_len]; simp)
    · cases h2
  case len y =>
    cases op <;> (try (cases hc; done))
    rename_i c
    obtain ⟨callee, args, argTypes⟩ := c
    cases callee <;> (try (cases hc; done))
    rename_i b
    cases b <;> (try (cases hc; done))
    simp only [chkIns, Bool.and_eq_true] at hc
    obtain ⟨h1, h2⟩ := hc
    obtain ⟨p, hp, hpy⟩ := chkArgs_one h1
    split at h2
    · rename_i t htt
      have hat : argTypes = #[t] := by apply Array.ext'; simpa using htt
      have har : args = #[p] := by apply Array.ext'; simpa using hp
      subst hat har
      split at h2
      · rename_i e hu
        exact val _ (snd_len (ty := type) hu (hA.ok _ _ hpy) he) (by rw [exec_len]; simp)
      · cases h2
    · cases h2
  case mm mx ys =>
    cases op <;> (try (cases hc; done))
    rename_i c
    obtain ⟨callee, args, argTypes⟩ := c
    cases callee <;> (try (cases hc; done))
    rename_i b
    simp only [chkIns, Bool.and_eq_true] at hc
    obtain ⟨h1, h2⟩ := hc
    have hr := hA.args h2
    simp only [evPure] at he
    split at he
    · rename_i x0 r hys
      split at he
      · rename_i hint
        rw [hys] at hr
        cases hal : args.toList with
        | nil => rw [hal] at hr; have := hr.1; simp at this
        | cons p ps =>
          rw [hal] at hr
          have har : args = (p :: ps).toArray := by apply Array.ext'; simpa using hal
          subst har
          obtain ⟨u, hrun, hu⟩ := snd_mm (P := P) (w := w) (mx := mx) hr.head hint hr.tail he
          cases mx <;> cases b <;> (try (cases h1; done))
          · refine val (Builtin.min_ argTypes type ((p :: ps).toArray.map a.eval)) ⟨u, ?_, hu⟩ rfl
            simpa [Builtin.min_] using hrun
          · refine val (Builtin.max_ argTypes type ((p :: ps).toArray.map a.eval)) ⟨u, ?_, hu⟩ rfl
            simpa [Builtin.max_] using hrun
      · cases he
    · cases he
  case mget => cases hc
end
end Go.Ev
