/- Reckoning: what operators answer. -/
import Derived.Test.YtehbeicmmnjpfaaGreatDoorEvJ
set_option linter.unusedSimpArgs false
set_option linter.unusedVariables false
namespace Go.Ev
open Go

def isC : Operand → Bool
  | .const _ => true
  | _ => false

/-- Types whose values are compared cell by cell: of which kinds the cells are. -/
def fieldsKs (P : Program) (ks : TypeId → Option (List CK)) : List Field → Nat → Option (List CK)
  | [], _ => some []
  | f :: fs, off =>
    if f.name ≠ "_" ∧ f.offset = off then
      match ks f.type with
      | some k => if szOf P f.type = some k.length then
          match fieldsKs P ks fs (off + k.length) with
          | some r => some (k ++ r)
          | none => none
        else none
      | none => none
    else none

def plainKs (P : Program) : Nat → TypeId → Option (List CK)
  | 0, _ => none
  | n + 1, t =>
    match P.underlying t with
    | some .bool => some [.b]
    | some (.int _) => some [.i]
    | some .string => some [.s]
    | some (.struct fs) => if P.stoodInHeld t then none else fieldsKs P (plainKs P n) fs.toList 0
    | _ => none

def kindOf : TypeDesc → Option EqK
  | .bool => some .bool
  | .pointer _ => some .ptr
  | .slice _ => some .row
  | .interface _ => some .ifc
  | .func .. => some .fn
  | .map .. => some .mp
  | _ => none

def chkKind (P : Program) (k : EqK) (t : TypeId) (x y : Operand) : Bool :=
  match k with
  | .no => true
  | .agg ks => decide (agOf P t = some true) && decide (plainKs P 20 t = some ks) && !P.eqGuardType P.depth t
  | _ => decide ((P.underlying t).bind kindOf = some k) && (decide (k ≠ .ifc) || isC x || isC y)

def chkEq (P : Program) (op : BinOp) (k : EqK) (t : TypeId) (x y : Operand) : Bool :=
  match op with
  | .eql | .neq => chkKind P k t x y
  | _ => true

section
variable {P : Program} {M : Mem} {ι : Plc} {X : Nat → Prop} {κ : Own} {w : World} {σ : Objs}

theorem run_eqGuard_other {op : BinOp} {t : TypeId} {x y : Operand} {a b : Value} (h1 : ¬ (a = .nilIface ∧ b = .nilIface)) (h2 : ∀ u v, ¬ (a = .agg u ∧ b = .agg v)) :
    (eqGuard op t x y a b).run P w = .ok () w := by
  unfold eqGuard
  cases op <;> simp only [] <;> (try rfl)
  all_goals
    cases a <;> (try rfl) <;> cases b <;> (try rfl)
    · exact absurd ⟨rfl, rfl⟩ h1
    · exact absurd ⟨rfl, rfl⟩ (h2 _ _)

theorem snd_un {op : UnOp} {v : Value} {x y : V} (hv : Rep M ι v x) (hx : evUn op x = some y) : ∃ u, (Op.unary op v).run P w = .ok u w ∧ Rep M ι u y := by
  unfold evUn at hx
  split at hx
  · cases hx; cases hv.inv_int; exact ⟨_, rfl, .int _ _⟩
  · cases hx; cases hv.inv_int; exact ⟨_, rfl, .int _ _⟩
  · cases hx; cases hv.inv_bool; exact ⟨_, rfl, .bool _⟩
  · cases hx

theorem bytes_toList (s : ByteArray) : s.toList = s.data.toList := ByteArray.toList_eq s

theorem bytesLess_eq : ∀ (a b : List UInt8), Op.bytesLess a b = bytesLess a b
  | _, [] => by cases ‹List UInt8› <;> rfl
  | [], _ :: _ => rfl
  | a :: x, b :: y => by simp only [Op.bytesLess, bytesLess, bytesLess_eq x y]

theorem beq_decide (a b : List UInt8) : (a == b) = decide (a = b) := by
  rw [Bool.eq_iff_iff]; simp

theorem snd_str {op : BinOp} {va vb : ByteArray} {y : V} (hx : evBin op .no (.str va.data.toList) (.str vb.data.toList) = some y) :
    ∃ u, (Op.stringOp op va vb).run P w = .ok u w ∧ Rep M ι u y := by
  have hl : ∀ s : ByteArray, s.data.toList.length = s.size := fun s => Array.length_toList
  unfold Op.stringOp
  simp only [bytes_toList, bytesLess_eq, beq_decide]
  cases op <;> simp only [evBin] at hx <;> (try cases hx)
  · split at hx
    · rename_i hle
      cases hx
      refine ⟨.string (va ++ vb), ?_, .str _ _ (by rw [ByteArray.data_append, Array.toList_append])⟩
      rw [if_neg]
      · rfl
      · rw [hl, hl] at hle
        unfold strMax at hle
        show ¬ (((va.size + vb.size : Nat) : Int) > 9223372036854775807)
        omega
    · cases hx
  all_goals exact ⟨_, rfl, .bool _⟩

theorem snd_int {op : BinOp} {t : TypeId} {k j : IntKind} {a b : Int} {e : EqK} {y : V} (hx : evBin op e (.int k a) (.int j b) = some y) :
    ∃ u, (binOp op t (.int k a) (.int j b)).run P w = .ok u w ∧ Rep M ι u y := by
  unfold evBin at hx
  simp only at hx
  cases op <;> simp only [] at hx
  case shl =>
    split at hx
    · cases hx
    · rename_i hb
      cases hx
      refine ⟨_, ?_, .int _ _⟩
      simp only [binOp, Op.shift, hb, if_false]
      rfl
  case shr =>
    split at hx
    · cases hx
    · rename_i hb
      cases hx
      refine ⟨_, ?_, .int _ _⟩
      simp only [binOp, Op.shift, hb, if_false]
      rfl
  case quo =>
    split at hx
    · rename_i hk; subst hk
      split at hx
      · cases hx
      · rename_i hb
        cases hx
        refine ⟨_, ?_, .int _ _⟩
        simp only [binOp, Op.intDiv, ne_eq, not_true_eq_false, if_false, hb]
        rfl
    · cases hx
  case rem =>
    split at hx
    · rename_i hk; subst hk
      split at hx
      · cases hx
      · rename_i hb
        cases hx
        refine ⟨_, ?_, .int _ _⟩
        simp only [binOp, Op.intDiv, ne_eq, not_true_eq_false, if_false, hb]
        rfl
    · cases hx
  all_goals
    split at hx
    · rename_i hk; subst hk
      cases hx
      refine ⟨_, ?_, by first | exact .int _ _ | exact .bool _⟩
      simp only [binOp, Op.intArith, Op.intBits, Op.intCmp, ne_eq, not_true_eq_false, if_false]
      rfl
    · cases hx

/-- Comparisons by kinds, but of structs. -/
theorem snd_eqV {t : TypeId} {va vb : Value} {x y : V} {k : EqK} {b : Bool} (hk : (P.underlying t).bind kindOf = some k) (ha : Rep M ι va x) (hb : Rep M ι vb y) (hx : eqV k x y = some b) :
    (Op.equal t va vb).run P w = .ok b w := by
  rw [Option.bind_eq_some_iff] at hk
  obtain ⟨d, ht, hd⟩ := hk
  suffices h : ∀ d0, (Op.equalIn (d0 + 1) t va vb).run P w = .ok b w from h 9999
  intro d0
  unfold eqV at hx
  split at hx <;> (try (cases d <;> cases hd; done)) <;> (try (cases hx; done)) <;> cases hx <;> cases ha <;> cases hb <;> cases d <;> (try (cases hd; done)) <;>
    (simp only [Op.equalIn, sem_bind_run, run_underlying ht, Result.andThen]; rfl)

/-- A value of so many cells. -/
def Val (ag : Bool) (us : List Value) (v : Value) : Prop := if ag then v = .agg us.toArray else us = [v]

theorem run_partVal {t : TypeId} {ag : Bool} {n off : Nat} {us : List Value} (hag : agOf P t = some ag) (hsz : szOf P t = some n) (h1 : ag = false → n = 1) (hle : off + n ≤ us.length) :
    ∃ v, (Go.part t us.toArray off).run P w = .ok v w ∧ Val ag ((us.drop off).take n) v := by
  cases ag with
  | true =>
    refine ⟨.agg (us.toArray.extract off (off + n)), ?_, ?_⟩
    · unfold Go.part
      simp only [sem_bind_run, run_isAgg hag, run_sizeOf hsz, Result.andThen, if_true]
      rfl
    · unfold Val
      rw [if_pos rfl]
      congr 1
      apply Array.ext'
      rw [Array.toList_extract, List.extract_eq_take_drop]
      simp
  | false =>
    have h1 := h1 rfl
    subst h1
    have hlt : off < us.length := by omega
    refine ⟨us[off], ?_, ?_⟩
    · unfold Go.part
      simp only [sem_bind_run, run_isAgg hag, Result.andThen, Bool.false_eq_true, if_false]
      rw [show us.toArray[off]? = some us[off] by simp [hlt]]
      rfl
    · unfold Val
      rw [if_neg (by simp), List.drop_eq_getElem_cons hlt]
      rfl

theorem eqCells_len : ∀ {ks : List CK} {cs ds : List V} {b : Bool}, eqCells ks cs ds = some b → cs.length = ks.length ∧ ds.length = ks.length
  | [], [], [], _, _ => ⟨rfl, rfl⟩
  | k :: ks, c :: cs, d :: ds, b, h => by
    simp only [eqCells, Option.bind_eq_bind, Option.bind_eq_some_iff] at h
    obtain ⟨_, _, b', hb', _⟩ := h
    have := eqCells_len hb'
    simp [this.1, this.2]
  | [], _ :: _, _, _, h => by simp [eqCells] at h
  | [], [], _ :: _, _, h => by simp [eqCells] at h
  | _ :: _, [], _, _, h => by simp [eqCells] at h
  | _ :: _, _ :: _, [], _, h => by simp [eqCells] at h

theorem eqCells_append : ∀ {k r : List CK} {cs ds : List V} {b : Bool}, eqCells (k ++ r) cs ds = some b →
    ∃ b1 b2, eqCells k (cs.take k.length) (ds.take k.length) = some b1 ∧ eqCells r (cs.drop k.length) (ds.drop k.length) = some b2 ∧ b = (b1 && b2)
  | [], r, cs, ds, b, h => ⟨true, b, by simp [eqCells], by simpa using h, by simp⟩
  | x :: k, r, c :: cs, d :: ds, b, h => by
    simp only [List.cons_append, eqCells, Option.bind_eq_bind, Option.bind_eq_some_iff] at h
    obtain ⟨a, ha, b', hb', he⟩ := h
    obtain ⟨b1, b2, h1, h2, rfl⟩ := eqCells_append hb'
    refine ⟨a && b1, b2, by simp [eqCells, ha, h1], by simpa using h2, ?_⟩
    simp at he
    rw [← he, Bool.and_assoc]
  | _ :: _, _, [], _, _, h => by simp [eqCells] at h
  | _ :: _, _, _ :: _, [], _, h => by simp [eqCells] at h

theorem eqFields_run {ks : TypeId → Option (List CK)} {d : Nat}
    (ih : ∀ (t : TypeId) (k : List CK) (ag : Bool) (us us' : List Value) (cs ds : List V) (v v' : Value) (b : Bool), ks t = some k → agOf P t = some ag → (ag = false → k.length = 1) → Val ag us v → Val ag us' v' → Reps M ι us cs → Reps M ι us' ds → eqCells k cs ds = some b →
      (Op.equalIn d t v v').run P w = .ok b w) (hks : ∀ t k, ks t = some k → ∃ ag, agOf P t = some ag ∧ (ag = false → k.length = 1)) :
    ∀ (fs : List Field) (off : Nat) (r : List CK) (us us' : List Value) (cs ds : List V) (b : Bool), fieldsKs P ks fs off = some r → Reps M ι us cs → Reps M ι us' ds → off ≤ us.length → off ≤ us'.length →
      eqCells r (cs.drop off) (ds.drop off) = some b → (Op.eqFields d us.toArray us'.toArray fs).run P w = .ok b w
  | [], off, r, us, us', cs, ds, b, hf, hr, hr', _, _, hb => by
    simp only [fieldsKs] at hf
    cases hf
    have hl := eqCells_len hb
    have h1 : cs.drop off = [] := List.length_eq_zero_iff.1 hl.1
    have h2 : ds.drop off = [] := List.length_eq_zero_iff.1 hl.2
    rw [h1, h2] at hb
    simp only [eqCells] at hb
    cases hb
    rfl
  | f :: fs, off, r, us, us', cs, ds, b, hf, hr, hr', hle, hle', hb => by
    simp only [fieldsKs] at hf
    split at hf
    · rename_i hcond
      obtain ⟨hname, hoff⟩ := hcond
      split at hf
      · rename_i k hk
        split at hf
        · rename_i hsz
          split at hf
          · rename_i r' hr''
            cases hf
            obtain ⟨ag, hag, hone⟩ := hks _ _ hk
            obtain ⟨b1, b2, e1, e2, rfl⟩ := eqCells_append hb
            have hl := eqCells_len e1
            have hl1 : off + k.length ≤ us.length := by have h0 := hr.1; have := hl.1; rw [List.length_take, List.length_drop] at this; omega
            have hl2 : off + k.length ≤ us'.length := by have h0 := hr'.1; have := hl.2; rw [List.length_take, List.length_drop] at this; omega
            obtain ⟨v, hv, hval⟩ := run_partVal (P := P) (w := w) hag hsz hone hl1
            obtain ⟨v', hv', hval'⟩ := run_partVal (P := P) (w := w) hag hsz hone hl2
            have h1 := ih f.type k ag _ _ _ _ v v' b1 hk hag hone hval hval' ((hr.drop off).take k.length) ((hr'.drop off).take k.length) e1
            have h2 := eqFields_run ih hks fs (off + k.length) r' us us' cs ds b2 hr'' hr hr' hl1 hl2 (by rw [List.drop_drop, List.drop_drop] at e2; exact e2)
            unfold Op.eqFields
            rw [if_pos hname]
            subst hoff
            simp only [sem_bind_run, hv, hv', h1, Result.andThen]
            cases b1
            · rfl
            · simp only [Bool.not_true, Bool.false_eq_true, if_false, h2, Bool.true_and]
          · cases hf
        · cases hf
      · cases hf
    · cases hf

theorem eqCellK_b {x y : V} {b : Bool} (h : eqCellK .b x y = some b) : ∃ a c, x = .bool a ∧ y = .bool c ∧ b = (a == c) := by
  cases x <;> (try (cases h; done))
  cases y <;> (try (cases h; done))
  cases h; exact ⟨_, _, rfl, rfl, rfl⟩
theorem eqCellK_i {x y : V} {b : Bool} (h : eqCellK .i x y = some b) : ∃ k a c, x = .int k a ∧ y = .int k c ∧ b = (a == c) := by
  cases x <;> (try (cases h; done))
  cases y <;> (try (cases h; done))
  simp only [eqCellK] at h
  split at h
  · rename_i hk; subst hk; cases h; exact ⟨_, _, _, rfl, rfl, rfl⟩
  · cases h
theorem eqCellK_s {x y : V} {b : Bool} (h : eqCellK .s x y = some b) : ∃ a c, x = .str a ∧ y = .str c ∧ b = decide (a = c) := by
  cases x <;> (try (cases h; done))
  cases y <;> (try (cases h; done))
  cases h; exact ⟨_, _, rfl, rfl, rfl⟩

theorem plainKs_ag : ∀ (n : Nat) (t : TypeId) (k : List CK), plainKs P n t = some k → ∃ ag, agOf P t = some ag ∧ (ag = false → k.length = 1)
  | 0, t, k, h => by simp [plainKs] at h
  | n + 1, t, k, h => by
    unfold plainKs at h
    unfold agOf
    split at h <;> (try (cases h; done))
    · rename_i hu; cases h; exact ⟨false, by rw [hu]; rfl, fun _ => rfl⟩
    · rename_i hu; cases h; exact ⟨false, by rw [hu]; rfl, fun _ => rfl⟩
    · rename_i hu; cases h; exact ⟨false, by rw [hu]; rfl, fun _ => rfl⟩
    · rename_i hu; exact ⟨true, by rw [hu]; rfl, fun h => by cases h⟩

theorem eq_plain : ∀ (n : Nat) (d : Nat) (t : TypeId) (k : List CK) (ag : Bool) (us us' : List Value) (cs ds : List V) (v v' : Value) (b : Bool), plainKs P n t = some k → agOf P t = some ag → (ag = false → k.length = 1) →
    Val ag us v → Val ag us' v' → Reps M ι us cs → Reps M ι us' ds → eqCells k cs ds = some b → (Op.equalIn (n + d) t v v').run P w = .ok b w
  | 0, _, t, k, _, _, _, _, _, _, _, _, h, _, _, _, _, _, _, _ => by simp [plainKs] at h
  | n + 1, d, t, k, ag, us, us', cs, ds, v, v', b, h, hag, hone, hv, hv', hr, hr', hb => by
    have one : ∀ {c : CK}, k = [c] → ag = false → ∃ x y, us = [v] ∧ us' = [v'] ∧ Rep M ι v x ∧ Rep M ι v' y ∧ eqCellK c x y = some b := by
      intro c hk hag'
      subst hk hag'
      unfold Val at hv hv'
      rw [if_neg (by simp)] at hv hv'
      subst hv hv'
      obtain ⟨hl1, hl2⟩ := eqCells_len hb
      obtain ⟨x, rfl⟩ := List.length_eq_one_iff.1 hl1
      obtain ⟨y, rfl⟩ := List.length_eq_one_iff.1 hl2
      refine ⟨x, y, rfl, rfl, hr.head, hr'.head, ?_⟩
      simp only [eqCells, Option.bind_eq_bind, Option.bind_eq_some_iff] at hb
      obtain ⟨a, ha, b', hb', he⟩ := hb
      cases hb'
      simp at he
      rw [ha, he]
    rw [show n + 1 + d = (n + d) + 1 from by omega]
    unfold plainKs at h
    split at h <;> (try (cases h; done))
    · rename_i hu
      cases h
      obtain ⟨x, y, _, _, hx, hy, he⟩ := one rfl (by unfold agOf at hag; rw [hu] at hag; cases hag; rfl)
      obtain ⟨a, c, rfl, rfl, rfl⟩ := eqCellK_b he
      cases hx.inv_bool; cases hy.inv_bool
      simp only [Op.equalIn, sem_bind_run, run_underlying hu, Result.andThen]
      rfl
    · rename_i kk hu
      cases h
      obtain ⟨x, y, _, _, hx, hy, he⟩ := one rfl (by unfold agOf at hag; rw [hu] at hag; cases hag; rfl)
      obtain ⟨k, a, c, rfl, rfl, rfl⟩ := eqCellK_i he
      cases hx.inv_int; cases hy.inv_int
      simp only [Op.equalIn, sem_bind_run, run_underlying hu, Result.andThen, if_true]
      rfl
    · rename_i hu
      cases h
      obtain ⟨x, y, _, _, hx, hy, he⟩ := one rfl (by unfold agOf at hag; rw [hu] at hag; cases hag; rfl)
      obtain ⟨_, _, rfl, rfl, rfl⟩ := eqCellK_s he
      obtain ⟨sa, rfl, rfl⟩ := hx.inv_str
      obtain ⟨sb, rfl, rfl⟩ := hy.inv_str
      rw [run_equalIn_string w _ t sa sb hu, bytes_toList, bytes_toList, beq_decide]
    · rename_i fs hu
      split at h
      · cases h
      · rename_i hst
        have hag' : ag = true := by unfold agOf at hag; rw [hu] at hag; cases hag; rfl
        subst hag'
        unfold Val at hv hv'
        rw [if_pos rfl] at hv hv'
        subst hv hv'
        have hfo : P.fieldsOf t = fs := by unfold Program.fieldsOf; rw [hu]
        rw [run_equalIn_struct w (n + d) t us.toArray us'.toArray (by rw [hfo]; exact hu) (by simpa using hst), hfo]
        exact eqFields_run (fun t k ag us us' cs ds v v' b => eq_plain n d t k ag us us' cs ds v v' b) (fun t k hk => plainKs_ag n t k hk) fs.toList 0 k us us' cs ds b h hr hr' (Nat.zero_le _) (Nat.zero_le _) (by simpa using hb)

theorem nilifc_const {ox : Operand} {ax : Arg} (h : chkArg ox ax = true) (hc : isC ox = true) : ∃ x, ax = .c x := by
  cases ox <;> simp [isC] at hc
  cases ax <;> simp [chkArg] at h
  exact ⟨_, rfl⟩

theorem eqGuard_const {op : BinOp} {t : TypeId} {ox oy : Operand} (h : (isC ox || isC oy) = true) : (eqGuard op t ox oy .nilIface .nilIface).run P w = .ok () w := by
  cases ox <;> cases oy <;> (try (simp [isC] at h; done)) <;> cases op <;> rfl

/-- Values that an equality looks at by their type. -/
def cmpOk : Value → Value → Bool
  | .int _ _, .int _ _ | .float _ _, .float _ _ | .complex _ _ _, .complex _ _ _ | .string _, .string _ => false
  | _, _ => true

theorem binOp_eql {t : TypeId} {va vb : Value} (h : cmpOk va vb = true) : binOp .eql t va vb = (do pure (.bool (← Op.equal t va vb))) := by
  cases va <;> cases vb <;> first | rfl | cases h
theorem binOp_neq {t : TypeId} {va vb : Value} (h : cmpOk va vb = true) : binOp .neq t va vb = (do pure (.bool (!(← Op.equal t va vb)))) := by
  cases va <;> cases vb <;> first | rfl | cases h

theorem snd_bin {op : BinOp} {t : TypeId} {ox oy : Operand} {k : EqK} {va vb : Value} {x y z : V} (hc : chkEq P op k t ox oy = true) (ha : Rep M ι va x) (hb : Rep M ι vb y) (hx : evBin op k x y = some z) :
    ∃ u, ((do eqGuard op t ox oy va vb; binOp op t va vb : Sem Value)).run P w = .ok u w ∧ Rep M ι u z := by
  by_cases hi : (∃ k a, x = .int k a) ∧ ∃ j b, y = .int j b
  · obtain ⟨⟨kk, a, rfl⟩, j, b, rfl⟩ := hi
    cases ha.inv_int; cases hb.inv_int
    obtain ⟨u, hrun, hu⟩ := snd_int (P := P) (M := M) (ι := ι) (w := w) (t := t) hx
    refine ⟨u, ?_, hu⟩
    rw [sem_bind_run, run_eqGuard_other (fun h => by cases h.1) (fun _ _ h => by cases h.1)]
    exact hrun
  by_cases hs : (∃ a, x = .str a) ∧ ∃ b, y = .str b
  · obtain ⟨⟨a, rfl⟩, b, rfl⟩ := hs
    obtain ⟨sa, rfl, rfl⟩ := ha.inv_str
    obtain ⟨sb, rfl, rfl⟩ := hb.inv_str
    have hx' : evBin op .no (.str sa.data.toList) (.str sb.data.toList) = some z := by rw [← hx]; cases op <;> rfl
    obtain ⟨u, hrun, hu⟩ := snd_str (P := P) (M := M) (ι := ι) (w := w) hx'
    refine ⟨u, ?_, hu⟩
    rw [sem_bind_run, run_eqGuard_other (fun h => by cases h.1) (fun _ _ h => by cases h.1)]
    have : binOp op t (.string sa) (.string sb) = Op.stringOp op sa sb := by cases op <;> rfl
    simp only [Result.andThen, this]
    exact hrun
  have hev : ∃ b, eqV k x y = some b ∧ ((op = .eql ∧ z = .bool b) ∨ (op = .neq ∧ z = .bool (!b))) := by
    have : evBin op k x y = match op with
        | .eql => (eqV k x y).map V.bool
        | .neq => (eqV k x y).map fun b => .bool (!b)
        | _ => none := by
      unfold evBin
      split
      · exact absurd ⟨⟨_, _, rfl⟩, _, _, rfl⟩ hi
      · exact absurd ⟨⟨_, rfl⟩, _, rfl⟩ hs
      · cases op <;> rfl
    rw [this] at hx
    cases op <;> (try (cases hx; done))
    · simp only [Option.map_eq_some_iff] at hx
      obtain ⟨b, hb, rfl⟩ := hx
      exact ⟨b, hb, .inl ⟨rfl, rfl⟩⟩
    · simp only [Option.map_eq_some_iff] at hx
      obtain ⟨b, hb, rfl⟩ := hx
      exact ⟨b, hb, .inr ⟨rfl, rfl⟩⟩
  obtain ⟨b, heq, hop⟩ := hev
  have fin : (eqGuard op t ox oy va vb).run P w = .ok () w → (Op.equal t va vb).run P w = .ok b w → cmpOk va vb = true →
      ∃ u, ((do eqGuard op t ox oy va vb; binOp op t va vb : Sem Value)).run P w = .ok u w ∧ Rep M ι u z := by
    intro h1 h2 hn
    rcases hop with ⟨rfl, rfl⟩ | ⟨rfl, rfl⟩
    · refine ⟨.bool b, ?_, .bool _⟩
      rw [sem_bind_run, h1]
      simp only [Result.andThen, binOp_eql hn, sem_bind_run, h2]
      rfl
    · refine ⟨.bool (!b), ?_, .bool _⟩
      rw [sem_bind_run, h1]
      simp only [Result.andThen, binOp_neq hn, sem_bind_run, h2]
      rfl
  have hc' : chkKind P k t ox oy = true := by
    rcases hop with ⟨rfl, _⟩ | ⟨rfl, _⟩ <;> exact hc
  unfold chkKind at hc'
  by_cases hag : ∃ ks, k = .agg ks
  · obtain ⟨ks, rfl⟩ := hag
    simp only [Bool.and_eq_true, decide_eq_true_eq, Bool.not_eq_true'] at hc'
    obtain ⟨⟨h1, h2⟩, h3⟩ := hc'
    cases x <;> (try (cases heq; done))
    cases y <;> (try (cases heq; done))
    rename_i cs ds
    have heq' : eqCells ks cs ds = some b := heq
    cases ha with
    | agg vs _ hl hr =>
      cases hb with
      | agg us _ hl' hr' =>
        refine fin (run_eqGuard_agg w op t ox oy vs us h3) ?_ rfl
        exact eq_plain 20 9980 t ks true vs.toList us.toList cs ds _ _ b h2 h1 (fun e => by cases e) rfl rfl (Rep.agg_iff.1 (.agg vs cs hl hr)) (Rep.agg_iff.1 (.agg us ds hl' hr')) heq'
  · have hk : (P.underlying t).bind kindOf = some k ∧ (k = .ifc → (isC ox || isC oy) = true) := by
      cases k
      case no => cases heq
      case agg ks => exact absurd ⟨ks, rfl⟩ hag
      all_goals
        simp only [Bool.and_eq_true, decide_eq_true_eq] at hc'
        refine ⟨hc'.1, fun e => ?_⟩
        first
          | (cases e; done)
          | simpa using hc'.2
    have hrun := snd_eqV (w := w) hk.1 ha hb heq
    refine fin ?_ hrun ?_
    · by_cases hn : va = .nilIface ∧ vb = .nilIface
      · obtain ⟨rfl, rfl⟩ := hn
        have hkk : k = .ifc := by
          cases ha with
          | any _ => cases k <;> cases heq
          | nili => cases k <;> first | rfl | (cases y <;> cases heq)
        exact eqGuard_const (hk.2 hkk)
      · refine run_eqGuard_other hn fun u v huv => ?_
        obtain ⟨rfl, rfl⟩ := huv
        cases ha with
        | any _ => cases k <;> cases heq
        | agg _ _ _ _ =>
          cases k <;> first | exact hag ⟨_, rfl⟩ | (cases y <;> cases heq)
    · unfold eqV at heq
      split at heq <;> (try (cases heq; done)) <;> cases ha <;> cases hb <;> rfl
end
end Go.Ev
