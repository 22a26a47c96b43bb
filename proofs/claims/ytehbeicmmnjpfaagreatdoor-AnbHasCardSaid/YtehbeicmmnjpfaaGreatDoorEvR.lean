/- One step, but calls: what it leaves. -/
import Derived.Test.YtehbeicmmnjpfaaGreatDoorEvQ
set_option linter.unusedSimpArgs false
set_option linter.unusedVariables false
namespace Go.Ev
open Go

/-- A cell whose holder is at work. -/
def lkAt (σ : Objs) (o i : Nat) : Prop := ∃ cs x, σ[o]? = some (.cells cs) ∧ cs[i]? = some x ∧ x.isLk = true

/-- What a step leaves of the objects that are there: their places, and what is locked. -/
structure Kp (ι : Plc) (w : World) (σ : Objs) (ι' : Plc) (w' : World) (σ' : Objs) : Prop where
  len : σ.length ≤ σ'.length
  dom : ∀ o, o < σ.length → ι' o = ι o
  lk : ∀ o b i, ι o = some b → lkAt σ' o i → lkAt σ o i ∧ w'.cell? ⟨b, i, none⟩ = w.cell? ⟨b, i, none⟩

/-- The program's step has run, and the state is as the small language has it. -/
def Left (P : Program) (a : Act) (o : Oper) (M : Mem) (ι : Plc) (X : Nat → Prop) (w : World) (σ : Objs) (ρ' : List V) (σ' : Objs) : Prop :=
  ∃ nx v w' M' ι' κ', (execOp a.eval o).run P w = .ok nx w' ∧ (nx = .value v ∨ (nx = .skip ∧ v = undef)) ∧ (Ext X M ι w M' ι' w' ∧ Kp ι w σ ι' w' σ' ∧ ((∀ t p x, o.op ≠ .store t p x) → HK ι w w')) ∧ St M' ι' X κ' w' (putL a.tmps.toList o.dst v) ρ' σ'

section
variable {P : Program} {M : Mem} {ι : Plc} {X : Nat → Prop} {κ : Own} {w : World} {ρ : List V} {σ : Objs} {G : Nat → V} {a : Act}

theorem Kp.same (ι : Plc) (σ : Objs) {w w' : World} (h : HK ι w w') : Kp ι w σ ι w' σ :=
  ⟨Nat.le_refl _, fun _ _ => rfl, fun o b i hi hl => ⟨hl, by unfold World.cell?; rw [h o b hi]⟩⟩
theorem Kp.refl (ι : Plc) (w : World) (σ : Objs) : Kp ι w σ ι w σ := Kp.same ι σ (HK.refl ι w)
theorem Kp.trans {ι ι' ι'' : Plc} {w w' w'' : World} {σ σ' σ'' : Objs} (h : Kp ι w σ ι' w' σ') (hi : PlcLe ι ι') (k : Kp ι' w' σ' ι'' w'' σ'') : Kp ι w σ ι'' w'' σ'' :=
  ⟨Nat.le_trans h.len k.len, fun o ho => (k.dom o (Nat.lt_of_lt_of_le ho h.len)).trans (h.dom o ho), fun o b i hb hl => by
    obtain ⟨h1, h2⟩ := k.lk o b i (hi.le _ _ hb) hl
    obtain ⟨h3, h4⟩ := h.lk o b i hb h1
    exact ⟨h3, h2.trans h4⟩⟩
theorem Wd.lt_of (h : Wd M ι X κ w σ) {o b : Nat} (hi : ι o = some b) : o < σ.length := by
  obtain ⟨O, hO, _⟩ := h.obj o b hi
  exact (List.getElem?_eq_some_iff.1 hO).1
/-- A new object. -/
theorem Kp.newObj (h : Wd M ι X κ w σ) {ι' : Plc} {w' : World} (hk : HK ι w w') (hd : ∀ o, o ≠ σ.length → ι' o = ι o) (O : O) : Kp ι w σ ι' w' (σ ++ [O]) :=
  ⟨by simp, fun o ho => hd o (by omega), fun o b i hi hl => by
    have hlt := h.lt_of hi
    obtain ⟨cs, x, h1, h2⟩ := hl
    rw [List.getElem?_append_left hlt] at h1
    exact ⟨⟨cs, x, h1, h2⟩, by unfold World.cell?; rw [hk o b hi]⟩⟩
/-- An object is written. -/
theorem Kp.set (h : Wd M ι X κ w σ) {o b : Nat} {cs cs' : List V} {w' : World} (hi : ι o = some b) (hcs : σ[o]? = some (.cells cs)) (hw : ∀ c, c ≠ b → w'.heap[c]? = w.heap[c]?)
    (hl : ∀ (i : Nat) x, cs'[i]? = some x → x.isLk = true → cs[i]? = some x ∧ w'.cell? ⟨b, i, none⟩ = w.cell? ⟨b, i, none⟩) : Kp ι w σ ι w' (σ.set o (.cells cs')) := by
  refine ⟨by simp, fun _ _ => rfl, fun o' b' i hb' hlk => ?_⟩
  obtain ⟨ds, x, h1, h2, h3⟩ := hlk
  by_cases ho : o = o'
  · subst ho
    rw [hi] at hb'; cases hb'
    rw [List.getElem?_set_self (h.lt_of hi)] at h1
    cases h1
    obtain ⟨h4, h5⟩ := hl i x h2 h3
    exact ⟨⟨cs, x, hcs, h4, h3⟩, h5⟩
  · rw [List.getElem?_set_ne ho] at h1
    have hb : b' ≠ b := fun e => ho (h.inj o o' b hi (e ▸ hb'))
    exact ⟨⟨ds, x, h1, h2, h3⟩, by unfold World.cell?; rw [hw b' hb]⟩

theorem nogr_lk (x : V) : x.nogr.isLk = false := by cases x <;> rfl

theorem left_value' {o : Oper} {v : Value} {ρ' : List V} {σ' : Objs} (hrun : (execOp a.eval o).run P w = .ok (.value v) w) (hk : Kp ι w σ ι w σ') (h : St M ι X κ w (putL a.tmps.toList o.dst v) ρ' σ') : Left P a o M ι X w σ ρ' σ' :=
  ⟨_, v, w, M, ι, κ, hrun, .inl rfl, ⟨Ext.refl .., hk, fun _ => HK.refl _ _⟩, h⟩
theorem left_value {o : Oper} {v : Value} {ρ' : List V} (hrun : (execOp a.eval o).run P w = .ok (.value v) w) (h : St M ι X κ w (putL a.tmps.toList o.dst v) ρ' σ) : Left P a o M ι X w σ ρ' σ :=
  left_value' hrun (Kp.refl ..) h

theorem tk_slot {y : Arg} (h : okTk y true = true) : ∃ n, y = .t n := by cases y <;> first | exact ⟨_, rfl⟩ | cases h

theorem chkArg_t {x : Operand} {n : Nat} (h : chkArg x (.t n) = true) : x = .tmp n := by
  cases x <;> simp [chkArg] at h
  rw [h]

theorem eval_tmp (n : Nat) : a.eval (.tmp n) = a.tmps.toList.getD n undef := by
  simp [Act.eval, Array.getD_eq_getD_getElem?, List.getD]

theorem unslot_false (ρ : List V) (y : Arg) : unslot ρ y false = ρ := by cases y <;> rfl

theorem own_never {v : Value} {x : V} (hr : Rep M ι v x) (h : ownB v x = none) : ∀ u, ownB u x = none := by
  intro u
  cases hr with
  | sl xs c b off cap sz us _ _ _ _ _ _ =>
    cases c with
    | gr s => cases h
    | no => unfold ownB; split <;> simp_all
    | fx => unfold ownB; split <;> simp_all
    | lk => unfold ownB; split <;> simp_all
  | _ => unfold ownB; split <;> simp_all

theorem step_mv (h : St M ι X κ w a.tmps.toList ρ σ) (hG : GOK G M ι) {o : Oper} {x : Operand} {y : Arg} {tk : Bool} (ho : o.op = .move x ∨ o.op = .assign x) (hc : chkArg x y = true) (ht : okTk y tk = true) :
    Left P a o M ι X w σ (put (unslot ρ y tk) o.dst (if tk then argT G ρ y else arg G ρ y)) σ := by
  have hrun : (execOp a.eval o).run P w = .ok (.value (a.eval x)) w := by
    unfold execOp
    rcases ho with ho | ho <;> rw [ho] <;> rfl
  cases tk with
  | false =>
    rw [unslot_false]
    exact left_value hrun (h.putNone ((chkArg_rep h.rep hG hc).nogr) (ownB_nogr _ _) _)
  | true =>
    obtain ⟨n, rfl⟩ := tk_slot ht
    have hx := chkArg_t hc
    subst hx
    simp only [if_true]
    show Left P a o M ι X w σ (put (ρ.set n (ρ.getD n .undef).nogr) o.dst (ρ.getD n .undef)) σ
    by_cases hn : n < ρ.length
    · have hnu : n < a.tmps.toList.length := by rw [h.rep.1]; exact hn
      have hv : a.tmps.toList[n]? = some (a.tmps.toList[n]) := List.getElem?_eq_getElem hnu
      have hρ : ρ[n]? = some ρ[n] := List.getElem?_eq_getElem hn
      have e1 : ρ.getD n .undef = ρ[n] := by simp [List.getD, hρ]
      have e2 : a.eval (.tmp n) = a.tmps.toList[n] := by rw [eval_tmp]; simp only [List.getD, hv, Option.getD_some]
      rw [e1]
      rw [e2] at hrun
      cases hd : o.dst with
      | none =>
        have := h.dropSlot n
        rw [e1] at this
        refine left_value (κ := κ) hrun ?_
        rw [hd]
        exact this
      | some d =>
        obtain ⟨κ', hs, _⟩ := h.moveSlot (d := d) hv hρ
        refine ⟨_, _, w, M, ι, κ', hrun, .inl rfl, ⟨Ext.refl .., Kp.refl .., fun _ => HK.refl _ _⟩, ?_⟩
        rw [hd]
        exact hs
    · have e1 : ρ.getD n .undef = .undef := by simp [List.getD, List.getElem?_eq_none (Nat.not_lt.1 hn)]
      have e2 : a.eval (.tmp n) = undef := by
        rw [eval_tmp]
        have : ¬ n < a.tmps.toList.length := by rw [h.rep.1]; exact hn
        simp [List.getD, List.getElem?_eq_none (Nat.not_lt.1 this)]
      rw [e1, List.set_eq_of_length_le (Nat.not_lt.1 hn)]
      rw [e2] at hrun
      exact left_value hrun (h.putNone .undef rfl _)

theorem run_zero {e : TypeId} {zv : Value} (h : zeroOf P e = some zv) : (zeroValue e).run P w = .ok zv w := by
  unfold zeroOf at h
  rw [Option.bind_eq_some_iff] at h
  obtain ⟨i, hi, hz⟩ := h
  unfold zeroValue
  simp only [sem_bind_run, run_typeInfo hi, Result.andThen, hz]
  rfl

theorem run_newVar {e : TypeId} {v : Value} : (newVar e v).run P w = .ok ⟨w.heap.size, 0, none⟩ (pushB w (.cells v.cells e)) := rfl

/-- A new variable. -/
theorem step_new (h : St M ι X κ w a.tmps.toList ρ σ) {o : Oper} {e : TypeId} {v : Value} {cs : List V} (hr : Reps M ι v.cells.toList cs) (h1 : ∀ c ∈ cs, c.one = true)
    (hrun : (execOp a.eval o).run P w = .ok (.value (.pointer (some ⟨w.heap.size, 0, none⟩))) (pushB w (.cells v.cells e))) : Left P a o M ι X w σ (put ρ o.dst (.ptr σ.length 0)) (σ ++ [.cells (cs.map V.nogr)]) := by
  have hl : cs.length = v.cells.size := by have := hr.1; simpa using this.symm
  obtain ⟨M', ι', he, hi, hs, hdm⟩ := h.newObj (h.wd.none_of_ge (Nat.le_refl _)) v.cells e (0, 0) (cs.map V.nogr) (by rw [List.length_map, hl, ← Array.length_toList, List.take_length]; exact hr.nogr)
    (fun i _ => by unfold frozenAt; simp) (fun c hc => by
      obtain ⟨c', hc', rfl⟩ := List.mem_map.1 hc
      rw [V.nogr_one]; exact h1 c' hc') (fun c hc u => by
      obtain ⟨c', _, rfl⟩ := List.mem_map.1 hc
      exact ownB_nogr _ _)
  exact ⟨_, _, _, M', ι', κ, hrun, .inl rfl, ⟨he, Kp.newObj h.wd (h.wd.hkPush' _) hdm _, fun _ => h.wd.hkPush' _⟩, hs.putNone (.ptr _ 0 _ hi) rfl _⟩

theorem step_store (h : St M ι X κ w a.tmps.toList ρ σ) (hG : GOK G M ι) {o : Oper} {t : TypeId} {p x : Operand} {p' y : Arg} {sz : Nat} {tk : Bool} {v : V} {σ' : Objs} (ho : o.op = .store t p x) (hz : szOf P t = some sz)
    (hp : chkArg p p' = true) (hx : chkArg x y = true) (ht : okTk y tk = true) {call : FuncId → List V → Objs → Option (V × Objs)} (he : evIns call (arg G ρ) (argT G ρ) σ (.store sz p' y tk) = some (v, σ')) :
    Left P a o M ι X w σ (put (unslot ρ y tk) o.dst v) σ' := by
  have hA := Opd.of_state h.rep hG
  have hvp := hA.ok _ _ hp
  have hvx := hA.ok _ _ hx
  simp only [evIns] at he
  split at he
  · rename_i oo off hpp
    simp only [Option.bind_eq_bind, Option.bind_eq_some_iff] at he
    obtain ⟨cs, hcs, he⟩ := he
    split at he
    · rename_i hcond
      obtain ⟨hlen, hle, hok⟩ := hcond
      rw [hpp] at hvp
      obtain ⟨b, hpb, hi⟩ := hvp.inv_ptr
      have hone := ok_one hok
      have hrc := hvx.cells hone
      have hcs' : σ[oo]? = some (.cells cs) := by
        unfold Objs.get at hcs
        split at hcs
        · cases hcs; assumption
        · cases hcs
      obtain ⟨O, hO, hor⟩ := h.wd.obj oo b hi
      rw [hcs'] at hO; cases hO
      obtain ⟨ws, T, fz, hb, hr2, hfz, hM, hone2⟩ := hor
      have hwl : cs.length ≤ ws.size := by have := hr2.1; simp at this; omega
      have hvl : (a.eval x).cells.toList.length = sz := by rw [hrc.1]; exact hlen
      have hkp : ∀ (ds' : List V) (vs : List Value), ds'.length = vs.length → off + ds'.length ≤ cs.length → (∀ d ∈ ds', d.isLk = false) → Kp ι w σ ι (setRow w b (layA ws off vs) T fz) (σ.set oo (.cells (putAt cs off ds'))) := by
        intro ds' vs hl1 hl2 hnl
        refine Kp.set h.wd hi hcs' (fun c hc => by rw [setRow_heap, if_neg (Ne.symm hc)]) (fun i y hy hlk => ?_)
        rw [putAt_get cs off ds' i hl2] at hy
        split at hy
        · have := hnl y (List.mem_of_getElem? hy); rw [this] at hlk; cases hlk
        · rename_i hout
          refine ⟨hy, ?_⟩
          have hbl := h.wd.olt oo b hi
          rw [cell_row hb, cell_row (w := setRow w b (layA ws off vs) T fz) (ws := layA ws off vs) (T := T) (fz := fz) (by rw [setRow_heap, if_pos rfl, if_pos hbl]), layA_get vs ws off i (by omega), if_neg (by omega)]
      have hrun : (execOp a.eval o).run P w = .ok .skip (setRow w b (layA ws off (a.eval x).cells.toList) T fz) := by
        have hst := run_storeCells (P := P) b off T fz (a.eval x).cells.toList w ws 0 hb (by omega) (fun j h1 h2 => hfz j (by omega)) (reps_one hrc hone)
        have : (Instr.storeAt t (a.eval p) (a.eval x)).run P w = .ok () (setRow w b (layA ws off (a.eval x).cells.toList) T fz) := by
          unfold Instr.storeAt Instr.sureAddr storeVar
          rw [hpb]
          simp only [sem_bind_run, sem_pure_run, run_sizeOf hz, Result.andThen]
          rw [if_neg (by rw [Array.length_toList] at hvl; omega)]
          simpa using hst
        unfold execOp
        rw [ho]
        simp only [sem_bind_run, this, Result.andThen]
        rfl
      split at he
      · -- a struct
        cases he
        have hso := h.setObj hi hcs' hb (hrc.nogr) (by rw [List.length_map, hlen]; exact hle) (fun c hc => by
          obtain ⟨c', hc', rfl⟩ := List.mem_map.1 hc
          rw [V.nogr_one]; exact hone c' hc') (fun c hc u => by
          obtain ⟨c', _, rfl⟩ := List.mem_map.1 hc
          exact ownB_nogr _ _)
        have hs' : ∃ κ', St M ι X κ' (setRow w b (layA ws off (a.eval x).cells.toList) T fz) a.tmps.toList (unslot ρ y tk) (σ.set oo (.cells (putAt cs off ((arg G ρ y).cells.map V.nogr)))) := by
          unfold unslot
          split
          · exact ⟨κ, hso.1.dropSlot _⟩
          · exact ⟨κ, hso.1⟩
        obtain ⟨κ', hs'⟩ := hs'
        exact ⟨_, undef, _, M, ι, κ', hrun, .inr ⟨rfl, rfl⟩, ⟨hso.2, hkp _ _ (by rw [List.length_map]; exact hrc.1.symm) (by rw [List.length_map, hlen]; exact hle) (fun d hd => by
          obtain ⟨d', _, rfl⟩ := List.mem_map.1 hd; exact nogr_lk d'), fun hns => absurd ho (hns _ _ _)⟩, hs'.putNone .undef rfl _⟩
      · -- one cell
        rename_i hna
        have hnlk : (if tk = true then argT G ρ y else arg G ρ y).isLk = false := by
          cases hq : (if tk = true then argT G ρ y else arg G ρ y).isLk
          · rfl
          · rw [hq, if_pos rfl] at he; cases he
        rw [hnlk, if_neg Bool.false_ne_true] at he
        cases he
        have hcell : (arg G ρ y).cells = [arg G ρ y] := by
          cases hyy : arg G ρ y <;> first | rfl | exact absurd hyy (hna _)
        rw [hcell] at hrc hone hlen
        have hsz : sz = 1 := hlen.symm
        subst hsz
        have h1 : (arg G ρ y).one = true := hone _ (by simp)
        have hvc : (a.eval x).cells.toList = [a.eval x] := by
          have hoc := hvx.one h1
          cases hev : a.eval x <;> first | rfl | (rw [hev] at hoc; cases hoc)
        have hoff : off < cs.length := by omega
        have hput : ∀ q : V, putAt cs off [q] = cs.set off q := by
          intro q
          apply List.ext_getElem?
          intro j
          rw [putAt_get cs off [q] j (by simp; omega), List.getElem?_set]
          by_cases hj : off = j
          · subst hj; rw [if_pos ⟨Nat.le_refl _, by simp⟩, if_pos rfl, if_pos hoff]; simp
          · rw [if_neg (by simp only [List.length_singleton]; omega), if_neg hj]
        have hk1 : ∀ q : V, q.isLk = false → Kp ι w σ ι (setRow w b (layA ws off (a.eval x).cells.toList) T fz) (σ.set oo (.cells (cs.set off q))) := fun q hq => by
          rw [← hput q]
          exact hkp [q] _ (by rw [hvl]; rfl) (by simp; omega) (by simpa using hq)
        -- the state with the value that owns nothing
        have base : ∀ {κ0 : Own} {ρ0 : List V}, St M ι X κ0 w a.tmps.toList ρ0 σ → St M ι X κ0 (setRow w b (layA ws off (a.eval x).cells.toList) T fz) a.tmps.toList ρ0 (σ.set oo (.cells (cs.set off (arg G ρ y)))) ∧ Ext X M ι w M ι (setRow w b (layA ws off (a.eval x).cells.toList) T fz) := by
          intro κ0 ρ0 h0
          have := h0.setObj hi hcs' hb hrc (by simp; omega) hone (fun c hc u => by simp at hc; subst hc; exact ownB_nogr _ _)
          rwa [hput] at this
        cases tk with
        | false =>
          rw [unslot_false]
          obtain ⟨hs, hx'⟩ := base h
          exact ⟨_, undef, _, M, ι, κ, hrun, .inr ⟨rfl, rfl⟩, ⟨hx', hk1 _ hnlk, fun hns => absurd ho (hns _ _ _)⟩, hs.putNone .undef rfl _⟩
        | true =>
          obtain ⟨n, rfl⟩ := tk_slot ht
          have hxx := chkArg_t hx
          subst hxx
          simp only [if_true]
          show Left P a o M ι X w σ (put (ρ.set n (ρ.getD n .undef).nogr) o.dst .undef) (σ.set oo (.cells (cs.set off (ρ.getD n .undef))))
          have harg : arg G ρ (.t n) = (ρ.getD n .undef).nogr := rfl
          by_cases hn : n < ρ.length
          · have hnu : n < a.tmps.toList.length := by rw [h.rep.1]; exact hn
            have hv : a.tmps.toList[n]? = some (a.tmps.toList[n]) := List.getElem?_eq_getElem hnu
            have hρ : ρ[n]? = some ρ[n] := List.getElem?_eq_getElem hn
            have e1 : ρ.getD n .undef = ρ[n] := by simp [List.getD, hρ]
            have e2 : a.eval (.tmp n) = a.tmps.toList[n] := by rw [eval_tmp]; simp only [List.getD, hv, Option.getD_some]
            rw [e1] at harg ⊢
            cases hob : ownB (a.tmps.toList[n]) ρ[n] with
            | none =>
              -- the value owns nothing: the cell may hold it as it stands
              have hd := h.dropSlot n
              rw [e1] at hd
              have hso := hd.setObj hi hcs' hb (ds := [ρ[n]]) (vs := [a.tmps.toList[n]]) (Reps.cons (h.rep.2 n _ _ hv hρ) Reps.nil) (by simp; omega) (fun c hc => by
                simp at hc; subst hc; rw [← V.nogr_one, ← harg]; exact h1) (fun c hc u => by
                simp at hc; subst hc; exact own_never (h.rep.2 n _ _ hv hρ) hob u)
              rw [hput] at hso
              rw [hvc, e2] at hrun
              rw [hvc, e2] at hk1
              exact ⟨_, undef, _, M, ι, κ, hrun, .inr ⟨rfl, rfl⟩, ⟨hso.2, hk1 _ (by rw [← e1]; exact hnlk), fun hns => absurd ho (hns _ _ _)⟩, hso.1.putNone .undef rfl _⟩
            | some bb =>
              obtain ⟨κ1, hs1, hf, hg⟩ := h.takeSlot hv hρ hob
              obtain ⟨hs2, hx'⟩ := base hs1
              have hol : oo < σ.length := (List.getElem?_eq_some_iff.1 hcs').1
              have hbl := h.wd.olt oo b hi
              have hne : b ≠ bb := fun e => by subst e; exact hf.i oo hi
              obtain ⟨κ2, hs3⟩ := hs2.giveCell (o := oo) (i := off) hi (by rw [setRow_heap, if_pos rfl, if_pos hbl]) (List.getElem?_set_self hol) (v := a.tmps.toList[n]) (x := ρ[n])
                (by rw [layA_get _ _ _ _ (by omega), hvc, if_pos ⟨Nat.le_refl _, by simp⟩, Nat.sub_self, e2]; rfl) (by simpa using hoff) (h.rep.2 n _ _ hv hρ) (by rw [← V.nogr_one, ← harg]; exact h1) hob
                ⟨hf.k, hf.x, hf.i, by rw [setRow_size]; exact hf.lt⟩ (hg.setRow (fun c hc => by rw [hob] at hc; cases hc; exact hne))
              rw [List.set_set, List.set_set] at hs3
              exact ⟨_, undef, _, M, ι, κ2, hrun, .inr ⟨rfl, rfl⟩, ⟨hx', hk1 _ (by rw [← e1]; exact hnlk), fun hns => absurd ho (hns _ _ _)⟩, hs3.putNone .undef rfl _⟩
          · -- no such slot: nothing is known to be stored
            exfalso
            have e1 : ρ.getD n .undef = .undef := by simp [List.getD, List.getElem?_eq_none (Nat.not_lt.1 hn)]
            rw [harg, e1] at h1
            cases h1
    · cases he
  · cases he
end
end Go.Ev
