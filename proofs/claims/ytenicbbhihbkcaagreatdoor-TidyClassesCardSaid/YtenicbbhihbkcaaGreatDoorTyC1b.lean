/- Part of a proof: the small language, and functions of the program on it. -/
import Derived.Test.YtenicbbhihbkcaaGreatDoorTyC1a
import Derived.Lib.ConvBytes
import Derived.Laws.MakeOwn
set_option linter.unusedSimpArgs false
set_option linter.unusedVariables false
namespace Go.Ev
open Go
def lkAt (σ : Objs) (o i : Nat) : Prop := ∃ cs x, σ[o]? = some (.cells cs) ∧ cs[i]? = some x ∧ x.isLk = true
structure Kp (ι : Plc) (w : World) (σ : Objs) (ι' : Plc) (w' : World) (σ' : Objs) : Prop where
  len : σ.length ≤ σ'.length
  dom : ∀ o, o < σ.length → ι' o = ι o
  lk : ∀ o b i, ι o = some b → lkAt σ' o i → lkAt σ o i ∧ w'.cell? ⟨b, i, none⟩ = w.cell? ⟨b, i, none⟩
def wrOp : Op → Bool
  | .store .. | .mapUpdate .. | .insert .. | .next .. => true
  | .call { callee := .builtin .copy, .. } | .call { callee := .builtin .clear, .. } | .call { callee := .builtin .append, .. } => true
  | _ => false
def Left (P : Program) (a : Act) (o : Oper) (M : Mem) (ι : Plc) (X : Nat → Prop) (w : World) (σ : Objs) (ρ' : List V) (σ' : Objs) : Prop :=
  ∃ nx v w' M' ι' κ', (execOp a.eval o).run P w = .ok nx w' ∧ (nx = .value v ∨ (nx = .skip ∧ v = undef)) ∧ (Ext X M ι w M' ι' w' ∧ Kp ι w σ ι' w' σ' ∧ (wrOp o.op = false → HK ι w w')) ∧ St M' ι' X κ' w' (putL a.tmps.toList o.dst v) ρ' σ'
section
variable {P : Program} {M : Mem} {ι : Plc} {X : Nat → Prop} {κ : Own} {w : World} {ρ : List V} {σ : Objs} {G : GV} {a : Act}
theorem Kp.same (ι : Plc) (σ : Objs) {w w' : World} (h : HK ι w w') : Kp ι w σ ι w' σ :=
  ⟨Nat.le_refl _, fun _ _ => rfl, fun o b i hi hl => ⟨hl, by unfold World.cell?; rw [h o b hi]⟩⟩
theorem Kp.refl (ι : Plc) (w : World) (σ : Objs) : Kp ι w σ ι w σ := Kp.same ι σ (HK.refl ι w)
theorem Kp.trans {ι ι' ι'' : Plc} {w w' w'' : World} {σ σ' σ'' : Objs} (h : Kp ι w σ ι' w' σ') (hi : PlcLe ι ι') (k : Kp ι' w' σ' ι'' w'' σ'') : Kp ι w σ ι'' w'' σ'' :=
  ⟨Nat.le_trans h.len k.len, fun o ho => (k.dom o (Nat.lt_of_lt_of_le ho h.len)).trans (h.dom o ho), fun o b i hb hl => by
    obtain ⟨h1, h2⟩ := k.lk o b i (hi.le _ _ hb) hl
    obtain ⟨h3, h4⟩ := h.lk o b i hb h1
    exact ⟨h3, h2.trans h4⟩⟩
theorem Wd.lt_of (h : Wd M ι X κ w σ) {o b : Nat} (hi : ι o = some b) : o < σ.length := by
  obtain ⟨O, hO, _⟩ := h.obj o b hi
  exact (List.getElem?_eq_some_iff.1 hO).1
theorem Kp.newObj (h : Wd M ι X κ w σ) {ι' : Plc} {w' : World} (hk : HK ι w w') (hd : ∀ o, o ≠ σ.length → ι' o = ι o) (O : O) : Kp ι w σ ι' w' (σ ++ [O]) :=
  ⟨by simp, fun o ho => hd o (by omega), fun o b i hi hl => by
    have hlt := h.lt_of hi
    obtain ⟨cs, x, h1, h2⟩ := hl
    rw [List.getElem?_append_left hlt] at h1
    exact ⟨⟨cs, x, h1, h2⟩, by unfold World.cell?; rw [hk o b hi]⟩⟩
theorem Kp.set (h : Wd M ι X κ w σ) {o b : Nat} {cs cs' : List V} {w' : World} (hi : ι o = some b) (hcs : σ[o]? = some (.cells cs)) (hw : ∀ c, c ≠ b → w'.heap[c]? = w.heap[c]?)
    (hl : ∀ (i : Nat) x, cs'[i]? = some x → x.isLk = true → cs[i]? = some x ∧ w'.cell? ⟨b, i, none⟩ = w.cell? ⟨b, i, none⟩) : Kp ι w σ ι w' (σ.set o (.cells cs')) := by
  refine ⟨by simp, fun _ _ => rfl, fun o' b' i hb' hlk => ?_⟩
  obtain ⟨ds, x, h1, h2, h3⟩ := hlk
  by_cases ho : o = o'
  · subst ho
    rw [hi] at hb'; cases hb'
    rw [List.getElem?_set_self (h.lt_of hi)] at h1
    cases h1
    obtain ⟨h4, h5⟩ := hl i x h2 h3
    exact ⟨⟨cs, x, hcs, h4, h3⟩, h5⟩
  · rw [List.getElem?_set_ne ho] at h1
    have hb : b' ≠ b := fun e => ho (h.inj o o' b hi (e ▸ hb') (by rw [hcs]; simp) (by rw [h1]; simp))
    exact ⟨⟨ds, x, h1, h2, h3⟩, by unfold World.cell?; rw [hw b' hb]⟩
theorem nogr_lk (x : V) : x.ng.isLk = false := by cases x <;> rfl
theorem left_value' {o : Oper} {v : Value} {ρ' : List V} {σ' : Objs} (hrun : (execOp a.eval o).run P w = .ok (.value v) w) (hk : Kp ι w σ ι w σ') (h : St M ι X κ w (putL a.tmps.toList o.dst v) ρ' σ') : Left P a o M ι X w σ ρ' σ' :=
  ⟨_, v, w, M, ι, κ, hrun, .inl rfl, ⟨Ext.refl .., hk, fun _ => HK.refl _ _⟩, h⟩
theorem left_value {o : Oper} {v : Value} {ρ' : List V} (hrun : (execOp a.eval o).run P w = .ok (.value v) w) (h : St M ι X κ w (putL a.tmps.toList o.dst v) ρ' σ) : Left P a o M ι X w σ ρ' σ :=
  left_value' hrun (Kp.refl ..) h
theorem tk_slot {y : Arg} (h : okTk y true = true) : ∃ n, y = .t n := by cases y <;> first | exact ⟨_, rfl⟩ | cases h
theorem chkArg_t {x : Operand} {n : Nat} (h : chkArg x (.t n) = true) : x = .tmp n := by
  cases x <;> simp [chkArg] at h
  rw [h]
theorem eval_tmp (n : Nat) : a.eval (.tmp n) = a.tmps.toList.getD n undef := by
  simp [Act.eval, Array.getD_eq_getD_getElem?, List.getD]
theorem unslot_false (ρ : List V) (y : Arg) : unslot ρ y false = ρ := by cases y <;> rfl
theorem own_never {v : Value} {x : V} (hr : Rep M ι v x) (h : ownB v x = none) : ∀ u, ownB u x = none := by
  intro u
  cases hr with
  | sl xs c b off cap sz us _ _ _ _ _ _ =>
    cases c with
    | gr s => cases h
    | no => unfold ownB; split <;> simp_all
    | fx => unfold ownB; split <;> simp_all
    | lk => unfold ownB; split <;> simp_all
  | sl0 a c hg =>
    cases c with
    | gr s => exact absurd rfl (hg s)
    | no => unfold ownB; split <;> simp_all
    | fx => unfold ownB; split <;> simp_all
    | lk => unfold ownB; split <;> simp_all
  | _ => unfold ownB; split <;> simp_all
theorem step_mv (h : St M ι X κ w a.tmps.toList ρ σ) (hG : GOK G M ι) {o : Oper} {x : Operand} {y : Arg} {tk : Bool} (ho : o.op = .move x ∨ o.op = .assign x) (hc : chkArg x y = true) (ht : okTk y tk = true) :
    Left P a o M ι X w σ (put (unslot ρ y tk) o.dst (if tk then argT G ρ y else arg G ρ y)) σ := by
  have hrun : (execOp a.eval o).run P w = .ok (.value (a.eval x)) w := by
    unfold execOp
    rcases ho with ho | ho <;> rw [ho] <;> rfl
  cases tk with
  | false =>
    rw [unslot_false]
    exact left_value hrun (h.putNone ((chkArg_rep h.rep hG hc).ng) (ownB_nogr _ _) _)
  | true =>
    obtain ⟨n, rfl⟩ := tk_slot ht
    have hx := chkArg_t hc
    subst hx
    simp only [if_true]
    show Left P a o M ι X w σ (put (ρ.set n (ρ.getD n .undef).ng) o.dst (ρ.getD n .undef)) σ
    by_cases hn : n < ρ.length
    · have hnu : n < a.tmps.toList.length := by rw [h.rep.1]; exact hn
      have hv : a.tmps.toList[n]? = some (a.tmps.toList[n]) := List.getElem?_eq_getElem hnu
      have hρ : ρ[n]? = some ρ[n] := List.getElem?_eq_getElem hn
      have e1 : ρ.getD n .undef = ρ[n] := by simp [List.getD, hρ]
      have e2 : a.eval (.tmp n) = a.tmps.toList[n] := by rw [eval_tmp]; simp only [List.getD, hv, Option.getD_some]
      rw [e1]
      rw [e2] at hrun
      cases hd : o.dst with
      | none =>
        have := h.dropSlot n
        rw [e1] at this
        refine left_value (κ := κ) hrun ?_
        rw [hd]
        exact this
      | some d =>
        obtain ⟨κ', hs, _⟩ := h.moveSlot (d := d) hv hρ
        refine ⟨_, _, w, M, ι, κ', hrun, .inl rfl, ⟨Ext.refl .., Kp.refl .., fun _ => HK.refl _ _⟩, ?_⟩
        rw [hd]
        exact hs
    · have e1 : ρ.getD n .undef = .undef := by simp [List.getD, List.getElem?_eq_none (Nat.not_lt.1 hn)]
      have e2 : a.eval (.tmp n) = undef := by
        rw [eval_tmp]
        have : ¬ n < a.tmps.toList.length := by rw [h.rep.1]; exact hn
        simp [List.getD, List.getElem?_eq_none (Nat.not_lt.1 this)]
      rw [e1, List.set_eq_of_length_le (Nat.not_lt.1 hn)]
      rw [e2] at hrun
      exact left_value hrun (h.putNone .undef rfl _)
theorem run_zero {e : TypeId} {zv : Value} (h : zeroOf P e = some zv) : (zeroValue e).run P w = .ok zv w := by
  unfold zeroOf at h
  rw [Option.bind_eq_some_iff] at h
  obtain ⟨i, hi, hz⟩ := h
  unfold zeroValue
  simp only [sem_bind_run, run_typeInfo hi, Result.andThen, hz]
  rfl
theorem run_newVar {e : TypeId} {v : Value} : (newVar e v).run P w = .ok ⟨w.heap.size, 0, none⟩ (pushB w (.cells v.cells e)) := rfl
theorem step_new (h : St M ι X κ w a.tmps.toList ρ σ) {o : Oper} {e : TypeId} {v : Value} {cs : List V} (hr : Reps M ι v.cells.toList cs) (h1 : ∀ c ∈ cs, c.one = true)
    (hrun : (execOp a.eval o).run P w = .ok (.value (.pointer (some ⟨w.heap.size, 0, none⟩))) (pushB w (.cells v.cells e))) : Left P a o M ι X w σ (put ρ o.dst (.ptr σ.length 0)) (σ ++ [.cells (cs.map V.ng)]) := by
  have hl : cs.length = v.cells.size := by have := hr.1; simpa using this.symm
  obtain ⟨M', ι', he, hi, hs, hdm, -⟩ := h.newObj (h.wd.none_of_ge (Nat.le_refl _)) v.cells e (0, 0) (cs.map V.ng) (by rw [List.length_map, hl, ← Array.length_toList, List.take_length]; exact hr.ng)
    (fun i _ => by unfold frozenAt; simp) (fun c hc => by
      obtain ⟨c', hc', rfl⟩ := List.mem_map.1 hc
      rw [V.nogr_one]; exact h1 c' hc') (fun c hc u => by
      obtain ⟨c', _, rfl⟩ := List.mem_map.1 hc
      exact ownB_nogr _ _)
  exact ⟨_, _, _, M', ι', κ, hrun, .inl rfl, ⟨he, Kp.newObj h.wd (h.wd.hkPush' _) hdm _, fun _ => h.wd.hkPush' _⟩, hs.putNone (.ptr _ 0 _ hi) rfl _⟩
theorem step_store (h : St M ι X κ w a.tmps.toList ρ σ) (hG : GOK G M ι) {o : Oper} {t : TypeId} {p x : Operand} {p' y : Arg} {sz : Nat} {tk : Bool} {v : V} {σ' : Objs} (ho : o.op = .store t p x) (hz : szOf P t = some sz)
    (hp : chkArg p p' = true) (hx : chkArg x y = true) (ht : okTk y tk = true) {call : FuncId → List V → Objs → Option (V × Objs)} (he : evIns call (arg G ρ) (argT G ρ) σ (.store sz p' y tk) = some (v, σ')) :
    Left P a o M ι X w σ (put (unslot ρ y tk) o.dst v) σ' := by
  have hA := Opd.of_state h.rep hG
  have hvp := hA.ok _ _ hp
  have hvx := hA.ok _ _ hx
  simp only [evIns] at he
  split at he
  · rename_i oo off hpp
    simp only [Option.bind_eq_bind, Option.bind_eq_some_iff] at he
    obtain ⟨cs, hcs, he⟩ := he
    split at he
    · rename_i hcond
      obtain ⟨hlen, hle, hok⟩ := hcond
      rw [hpp] at hvp
      obtain ⟨b, hpb, hi⟩ := hvp.inv_ptr
      have hone := ok_one hok
      have hrc := hvx.cells hone
      have hcs' : σ[oo]? = some (.cells cs) := by
        unfold Objs.get at hcs
        split at hcs
        · cases hcs; assumption
        · cases hcs
      obtain ⟨O, hO, hor⟩ := h.wd.obj oo b hi
      rw [hcs'] at hO; cases hO
      obtain ⟨ws, T, fz, hb, hr2, hfz, hM, hone2⟩ := hor
      have hwl : cs.length ≤ ws.size := by have := hr2.1; simp at this; omega
      have hvl : (a.eval x).cells.toList.length = sz := by rw [hrc.1]; exact hlen
      have hkp : ∀ (ds' : List V) (vs : List Value), ds'.length = vs.length → off + ds'.length ≤ cs.length → (∀ d ∈ ds', d.isLk = false) → Kp ι w σ ι (setRow w b (layA ws off vs) T fz) (σ.set oo (.cells (putAt cs off ds'))) := by
        intro ds' vs hl1 hl2 hnl
        refine Kp.set h.wd hi hcs' (fun c hc => by rw [setRow_heap, if_neg (Ne.symm hc)]) (fun i y hy hlk => ?_)
        rw [putAt_get cs off ds' i hl2] at hy
        split at hy
        · have := hnl y (List.mem_of_getElem? hy); rw [this] at hlk; cases hlk
        · rename_i hout
          refine ⟨hy, ?_⟩
          have hbl := h.wd.olt oo b hi
          rw [cell_row hb, cell_row (w := setRow w b (layA ws off vs) T fz) (ws := layA ws off vs) (T := T) (fz := fz) (by rw [setRow_heap, if_pos rfl, if_pos hbl]), layA_get vs ws off i (by omega), if_neg (by omega)]
      have hrun : (execOp a.eval o).run P w = .ok .skip (setRow w b (layA ws off (a.eval x).cells.toList) T fz) := by
        have hst := run_storeCells (P := P) b off T fz (a.eval x).cells.toList w ws 0 hb (by omega) (fun j h1 h2 => hfz j (by omega)) (reps_one hrc hone)
        have : (Instr.storeAt t (a.eval p) (a.eval x)).run P w = .ok () (setRow w b (layA ws off (a.eval x).cells.toList) T fz) := by
          unfold Instr.storeAt Instr.sureAddr storeVar
          rw [hpb]
          simp only [sem_bind_run, sem_pure_run, run_sizeOf hz, Result.andThen]
          rw [if_neg (by rw [Array.length_toList] at hvl; omega)]
          simpa using hst
        unfold execOp
        rw [ho]
        simp only [sem_bind_run, this, Result.andThen]
        rfl
      split at he
      ·
        cases he
        have hso := h.setObj hi hcs' hb (hrc.ng) (by rw [List.length_map, hlen]; exact hle) (fun c hc => by
          obtain ⟨c', hc', rfl⟩ := List.mem_map.1 hc
          rw [V.nogr_one]; exact hone c' hc') (fun c hc u => by
          obtain ⟨c', _, rfl⟩ := List.mem_map.1 hc
          exact ownB_nogr _ _)
        have hs' : ∃ κ', St M ι X κ' (setRow w b (layA ws off (a.eval x).cells.toList) T fz) a.tmps.toList (unslot ρ y tk) (σ.set oo (.cells (putAt cs off ((arg G ρ y).cells.map V.ng)))) := by
          unfold unslot
          split
          · exact ⟨κ, hso.1.dropSlot _⟩
          · exact ⟨κ, hso.1⟩
        obtain ⟨κ', hs'⟩ := hs'
        exact ⟨_, undef, _, M, ι, κ', hrun, .inr ⟨rfl, rfl⟩, ⟨hso.2, hkp _ _ (by rw [List.length_map]; exact hrc.1.symm) (by rw [List.length_map, hlen]; exact hle) (fun d hd => by
          obtain ⟨d', _, rfl⟩ := List.mem_map.1 hd; exact nogr_lk d'), fun hns => by rw [ho] at hns; cases hns⟩, hs'.putNone .undef rfl _⟩
      ·
        rename_i hna
        have hnlk : (if tk = true then argT G ρ y else arg G ρ y).isLk = false := by
          cases hq : (if tk = true then argT G ρ y else arg G ρ y).isLk
          · rfl
          · rw [hq, if_pos rfl] at he; cases he
        rw [hnlk, if_neg Bool.false_ne_true] at he
        cases he
        have hcell : (arg G ρ y).cells = [arg G ρ y] := by
          cases hyy : arg G ρ y <;> first | rfl | exact absurd hyy (hna _)
        rw [hcell] at hrc hone hlen
        have hsz : sz = 1 := hlen.symm
        subst hsz
        have h1 : (arg G ρ y).one = true := hone _ (by simp)
        have hvc : (a.eval x).cells.toList = [a.eval x] := by
          have hoc := hvx.one h1
          cases hev : a.eval x <;> first | rfl | (rw [hev] at hoc; cases hoc)
        have hoff : off < cs.length := by omega
        have hput : ∀ q : V, putAt cs off [q] = cs.set off q := by
          intro q
          apply List.ext_getElem?
          intro j
          rw [putAt_get cs off [q] j (by simp; omega), List.getElem?_set]
          by_cases hj : off = j
          · subst hj; rw [if_pos ⟨Nat.le_refl _, by simp⟩, if_pos rfl, if_pos hoff]; simp
          · rw [if_neg (by simp only [List.length_singleton]; omega), if_neg hj]
        have hk1 : ∀ q : V, q.isLk = false → Kp ι w σ ι (setRow w b (layA ws off (a.eval x).cells.toList) T fz) (σ.set oo (.cells (cs.set off q))) := fun q hq => by
          rw [← hput q]
          exact hkp [q] _ (by rw [hvl]; rfl) (by simp; omega) (by simpa using hq)
        have base : ∀ {κ0 : Own} {ρ0 : List V}, St M ι X κ0 w a.tmps.toList ρ0 σ → St M ι X κ0 (setRow w b (layA ws off (a.eval x).cells.toList) T fz) a.tmps.toList ρ0 (σ.set oo (.cells (cs.set off (arg G ρ y)))) ∧ Ext X M ι w M ι (setRow w b (layA ws off (a.eval x).cells.toList) T fz) := by
          intro κ0 ρ0 h0
          have := h0.setObj hi hcs' hb hrc (by simp; omega) hone (fun c hc u => by simp at hc; subst hc; exact ownB_nogr _ _)
          rwa [hput] at this
        cases tk with
        | false =>
          rw [unslot_false]
          obtain ⟨hs, hx'⟩ := base h
          exact ⟨_, undef, _, M, ι, κ, hrun, .inr ⟨rfl, rfl⟩, ⟨hx', hk1 _ hnlk, fun hns => by rw [ho] at hns; cases hns⟩, hs.putNone .undef rfl _⟩
        | true =>
          obtain ⟨n, rfl⟩ := tk_slot ht
          have hxx := chkArg_t hx
          subst hxx
          simp only [if_true]
          show Left P a o M ι X w σ (put (ρ.set n (ρ.getD n .undef).ng) o.dst .undef) (σ.set oo (.cells (cs.set off (ρ.getD n .undef))))
          have harg : arg G ρ (.t n) = (ρ.getD n .undef).ng := rfl
          by_cases hn : n < ρ.length
          · have hnu : n < a.tmps.toList.length := by rw [h.rep.1]; exact hn
            have hv : a.tmps.toList[n]? = some (a.tmps.toList[n]) := List.getElem?_eq_getElem hnu
            have hρ : ρ[n]? = some ρ[n] := List.getElem?_eq_getElem hn
            have e1 : ρ.getD n .undef = ρ[n] := by simp [List.getD, hρ]
            have e2 : a.eval (.tmp n) = a.tmps.toList[n] := by rw [eval_tmp]; simp only [List.getD, hv, Option.getD_some]
            rw [e1] at harg ⊢
            cases hob : ownB (a.tmps.toList[n]) ρ[n] with
            | none =>
              have hd := h.dropSlot n
              rw [e1] at hd
              have hso := hd.setObj hi hcs' hb (ds := [ρ[n]]) (vs := [a.tmps.toList[n]]) (Reps.cons (h.rep.2 n _ _ hv hρ) Reps.nil) (by simp; omega) (fun c hc => by
                simp at hc; subst hc; rw [← V.nogr_one, ← harg]; exact h1) (fun c hc u => by
                simp at hc; subst hc; exact own_never (h.rep.2 n _ _ hv hρ) hob u)
              rw [hput] at hso
              rw [hvc, e2] at hrun
              rw [hvc, e2] at hk1
              exact ⟨_, undef, _, M, ι, κ, hrun, .inr ⟨rfl, rfl⟩, ⟨hso.2, hk1 _ (by rw [← e1]; exact hnlk), fun hns => by rw [ho] at hns; cases hns⟩, hso.1.putNone .undef rfl _⟩
            | some bb =>
              obtain ⟨κ1, hs1, hf, hg⟩ := h.takeSlot hv hρ hob
              obtain ⟨hs2, hx'⟩ := base hs1
              have hol : oo < σ.length := (List.getElem?_eq_some_iff.1 hcs').1
              have hbl := h.wd.olt oo b hi
              have hne : b ≠ bb := fun e => by subst e; exact hf.i oo hi
              obtain ⟨κ2, hs3⟩ := hs2.giveCell (o := oo) (i := off) hi (by rw [setRow_heap, if_pos rfl, if_pos hbl]) (List.getElem?_set_self hol) (v := a.tmps.toList[n]) (x := ρ[n])
                (by rw [layA_get _ _ _ _ (by omega), hvc, if_pos ⟨Nat.le_refl _, by simp⟩, Nat.sub_self, e2]; rfl) (by simpa using hoff) (h.rep.2 n _ _ hv hρ) (by rw [← V.nogr_one, ← harg]; exact h1) hob
                ⟨hf.k, hf.x, hf.i, by rw [setRow_size]; exact hf.lt⟩ (hg.setRow (fun c hc => by rw [hob] at hc; cases hc; exact hne))
              rw [List.set_set, List.set_set] at hs3
              exact ⟨_, undef, _, M, ι, κ2, hrun, .inr ⟨rfl, rfl⟩, ⟨hx', hk1 _ (by rw [← e1]; exact hnlk), fun hns => by rw [ho] at hns; cases hns⟩, hs3.putNone .undef rfl _⟩
          ·
            exfalso
            have e1 : ρ.getD n .undef = .undef := by simp [List.getD, List.getElem?_eq_none (Nat.not_lt.1 hn)]
            rw [harg, e1] at h1
            cases h1
    · cases he
  · cases he
end
end Go.Ev
set_option linter.unusedSimpArgs false
set_option linter.unusedVariables false
namespace Go.Ev
open Go
section
variable {P : Program} {M : Mem} {ι : Plc} {X : Nat → Prop} {κ : Own} {w : World} {ρ : List V} {σ : Objs} {G : GV} {a : Act}
theorem get_cells {o : Nat} {cs : List V} (h : Objs.get σ o = some cs) : σ[o]? = some (.cells cs) := by
  unfold Objs.get at h
  split at h
  · cases h; assumption
  · cases h
theorem ownB_notgr {u : Value} {c : V} (h : ∀ xs s, c = .sl xs (.gr s) → False) : ownB u c = none := by
  unfold ownB
  split
  · exact absurd rfl (fun e => h _ _ e)
  · rfl
theorem step_loadT (h : St M ι X κ w a.tmps.toList ρ σ) (hG : GOK G M ι) {o : Oper} {t : TypeId} {x : Operand} {y : Arg} {v : V} {σ' : Objs} (ho : o.op = .load t x) (ht : chkTy P t false 1 = true) (hx : chkArg x y = true)
    (he : (match arg G ρ y with
      | .ptr o off => (Objs.get σ o).bind fun cs => (cs[off]?).bind fun v =>
        match v with
        | .sl xs (.gr s) => some (.sl xs (.gr s), σ.set o (.cells (cs.set off (.sl xs .no))))
        | .sl _ .lk => none
        | v => some (v, σ)
      | .eptr cs off => (cs[off]?).bind fun v => some (v.ng, σ)
      | _ => none) = some (v, σ')) : Left P a o M ι X w σ (put ρ o.dst v) σ' := by
  have hA := Opd.of_state h.rep hG
  have hv := hA.ok _ _ hx
  have hag : agOf P t = some false := by simp only [chkTy, Bool.and_eq_true, beq_iff_eq] at ht; exact ht.1.1
  have run : ∀ b off u, a.eval x = .pointer (some ⟨b, off, none⟩) → w.cell? ⟨b, off, none⟩ = some u → (execOp a.eval o).run P w = .ok (.value u) w := by
    intro b off u hev hc
    unfold execOp
    rw [ho]
    simp only [Instr.loadAt, Instr.sureAddr, hev, loadVar, sem_bind_run, sem_pure_run, run_isAgg hag, Result.andThen, Bool.false_eq_true, if_false, run_load hc]
  split at he
  · rename_i oo off hpp
    rw [hpp] at hv
    obtain ⟨b, hpb, hi⟩ := hv.inv_ptr
    simp only [Option.bind_eq_some_iff] at he
    obtain ⟨cs, hcs, c, hc, he⟩ := he
    have hcs' := get_cells hcs
    obtain ⟨O, hO, hor⟩ := h.wd.obj oo b hi
    rw [hcs'] at hO; cases hO
    obtain ⟨ws, T, fz, hb, hr2, hfz, hM, hone2⟩ := hor
    obtain ⟨u, hu, hru⟩ := hr2.get hc
    have hu' : ws[off]? = some u := by
      rw [List.getElem?_take] at hu
      split at hu
      · simpa using hu
      · cases hu
    have hrun := run b off u hpb (by rw [cell_row hb]; exact hu')
    have hc1 := hone2 _ (List.mem_of_getElem? hc)
    split at he
    case h_2 => cases he
    case h_3 hng _ =>
      simp only [Option.some.injEq, Prod.mk.injEq] at he
      obtain ⟨rfl, rfl⟩ := he
      exact left_value hrun (h.putNone hru (ownB_notgr hng) _)
    rename_i xs s
    simp only [Option.some.injEq, Prod.mk.injEq] at he
    obtain ⟨rfl, rfl⟩ := he
    have hk : Kp ι w σ ι w (σ.set oo (.cells (cs.set off (V.sl xs (.gr s)).ng))) := Kp.set h.wd hi hcs' (fun _ _ => rfl) (fun i y hy hlk => by
      rw [List.getElem?_set] at hy
      split at hy
      · split at hy
        · cases hy; rw [nogr_lk] at hlk; cases hlk
        · cases hy
      · exact ⟨hy, rfl⟩)
    cases hob : ownB u (V.sl xs (.gr s)) with
    | none =>
      have hd := h.dropCell hcs' hc (by rw [V.nogr_one]; exact hc1)
      exact left_value' hrun hk (hd.putNone hru hob _)
    | some bb =>
      obtain ⟨κ', hs, hf, hg⟩ := h.takeCell hi hb hcs' hu' hc hob
      obtain ⟨κ2, hs2⟩ := hs.putOwn hru (fun b' hb' => by rw [hob] at hb'; cases hb'; exact ⟨hf, hg⟩) o.dst
      exact left_value' hrun hk hs2
  · rename_i cs off hpp
    rw [hpp] at hv
    obtain ⟨b, base, us, hpb, hr, hm⟩ := hv.inv_eptr
    simp only [Option.bind_eq_some_iff] at he
    obtain ⟨c, hc, he⟩ := he
    cases he
    obtain ⟨u, hu, hru⟩ := hr.get hc
    exact left_value (run b _ u hpb (h.wd.cells hm off u hu)) (h.putNone hru.ng (ownB_nogr _ _) _)
  · cases he
theorem step_app (h : St M ι X κ w a.tmps.toList ρ σ) (hG : GOK G M ι) {o : Oper} {p q : Operand} {x y : Arg} {str ag tk : Bool} {sz bytes : Nat} {t tx : TypeId} {v : V}
    (ho : o.op = .call { callee := .builtin .append, args := #[p, q], argTypes := #[t, tx] }) (hp : chkArg p x = true) (hq : chkArg q y = true) (ht : okTk x tk = true) (hc : chkApp P str ag sz bytes t tx = true) {ys : List V}
    (hs : srcOf str σ (arg G ρ y) = some ys) (he : evApp ag sz bytes (if tk then argT G ρ x else arg G ρ x) ys = some v) : Left P a o M ι X w σ (put (unslot ρ x tk) o.dst v) σ := by
  have hA := Opd.of_state h.rep hG
  have hvx := chkArg_rep h.rep hG hp
  have hvy := hA.ok _ _ hq
  have lift : ∀ {u : Value} {w' : World}, (Builtin.append_ #[t, tx] o.type #[a.eval p, a.eval q]).run P w = .ok u w' → (execOp a.eval o).run P w = .ok (.value u) w' := by
    intro u w' hrun
    obtain ⟨dst, op, type, pos, after, guard⟩ := o
    simp only at ho hrun
    subst ho
    rw [exec_append, sem_bind_run]
    simp only [List.map_toArray, List.map_cons, List.map_nil, hrun, Result.andThen]
    rfl
  have fin : ∀ {u : Value} {w' : World} {M' : Mem} {κ' : Own} {ρ' : List V}, (Builtin.append_ #[t, tx] o.type #[a.eval p, a.eval q]).run P w = .ok u w' → Ext X M ι w M' ι w' → HK ι w w' → St M' ι X κ' w' (putL a.tmps.toList o.dst u) ρ' σ → Left P a o M ι X w σ ρ' σ :=
    fun h1 h2 hk h3 => ⟨_, _, _, _, _, _, lift h1, .inl rfl, ⟨h2, Kp.same _ _ hk, fun _ => hk⟩, h3⟩
  cases tk with
  | false =>
    rw [unslot_false]
    simp only [Bool.false_eq_true, if_false] at he
    have hvn : Rep M ι (a.eval p) (arg G ρ x) := hvx.ng
    by_cases hys : ys = []
    · subst hys
      obtain ⟨hrun, rfl⟩ := app_none h.wd (ty := o.type) hc hvn hvy hs he
      exact fin hrun (Ext.refl ..) (HK.refl _ _) (h.putNone hvn (ownB_nogr _ _) _)
    · obtain ⟨u, w', M', κ', hrun, hx, hk, hst⟩ := app_new h (ty := o.type) hc hvn hvy hs hys (fun xs s e => by
        have := V.nogr_nogr (argT G ρ x)
        rw [show (argT G ρ x).ng = arg G ρ x from rfl, e] at this
        cases this) he o.dst
      exact fin hrun hx hk hst
  | true =>
    obtain ⟨n, rfl⟩ := tk_slot ht
    have hpt := chkArg_t hp
    subst hpt
    simp only [if_true] at he
    show Left P a o M ι X w σ (put (ρ.set n (ρ.getD n .undef).ng) o.dst v) σ
    have hT : argT G ρ (.t n) = ρ.getD n .undef := rfl
    rw [hT] at he hvx
    by_cases hn : n < ρ.length
    · have hnu : n < a.tmps.toList.length := by rw [h.rep.1]; exact hn
      have hv : a.tmps.toList[n]? = some (a.tmps.toList[n]) := List.getElem?_eq_getElem hnu
      have hρ : ρ[n]? = some ρ[n] := List.getElem?_eq_getElem hn
      have e1 : ρ.getD n .undef = ρ[n] := by simp [List.getD, hρ]
      have e2 : a.eval (.tmp n) = a.tmps.toList[n] := by rw [eval_tmp]; simp only [List.getD, hv, Option.getD_some]
      rw [e1] at he hvx ⊢
      have hdrop := h.dropSlot n
      rw [e1] at hdrop
      by_cases hys : ys = []
      · subst hys
        obtain ⟨hrun, rfl⟩ := app_none h.wd (ty := o.type) hc hvx hvy hs he
        cases hd : o.dst with
        | none =>
          refine fin hrun (Ext.refl ..) (HK.refl _ _) ?_ (κ' := κ)
          rw [hd]; exact hdrop
        | some d =>
          obtain ⟨κ', hs', _⟩ := h.moveSlot (d := d) hv hρ
          refine fin hrun (Ext.refl ..) (HK.refl _ _) ?_ (κ' := κ')
          rw [hd, e2]; exact hs'
      · by_cases hgr : ∃ xs s, ρ[n] = .sl xs (.gr s)
        · obtain ⟨xs, s, hxs⟩ := hgr
          have hρ' : ρ[n]? = some (.sl xs (.gr s)) := by rw [hρ, hxs]
          rw [hxs] at he ⊢
          obtain ⟨u, w', M', κ', hrun, hx, hk, hst⟩ := app_gr h (ty := o.type) hc hv hρ' hvy hs hys he o.dst
          rw [← e2] at hrun
          exact fin hrun hx hk hst
        · obtain ⟨u, w', M', κ', hrun, hx, hk, hst⟩ := app_new hdrop (ty := o.type) hc hvx hvy hs hys (fun xs s e => hgr ⟨xs, s, e⟩) he o.dst
          exact fin hrun hx hk hst
    · exfalso
      have e1 : ρ.getD n .undef = .undef := by simp [List.getD, List.getElem?_eq_none (Nat.not_lt.1 hn)]
      rw [e1] at he
      rcases evApp_other he with h | ⟨_, _, h⟩ <;> cases h
theorem drew_pushB (e : TypeId) (s : ByteArray) : Lib.bytesWorld w e s = pushB { w with drawn := w.drawn + 1 } (.cells (Lib.bytesCells w e s) e ((Lib.bytesCells w e s).size, (Lib.bytesCells w e s).size + 1)) := by
  have h : (Lib.bytesWorld w e s).heap = (pushB { w with drawn := w.drawn + 1 } (.cells (Lib.bytesCells w e s) e ((Lib.bytesCells w e s).size, (Lib.bytesCells w e s).size + 1))).heap := by
    apply Array.ext_getElem?
    intro j
    rw [pushB_heap]
    rcases Nat.lt_trichotomy j w.heap.size with hj | hj | hj
    · rw [Lib.bytesWorld_at_old w e s j hj, if_neg (by show ¬ j = w.heap.size; omega)]
    · subst hj
      rw [Lib.bytesWorld_at_new, if_pos rfl]
    · rw [if_neg (by show ¬ j = w.heap.size; omega), Array.getElem?_eq_none (by rw [Lib.bytesWorld_size]; omega), Array.getElem?_eq_none (by show w.heap.size ≤ j; omega)]
  unfold Lib.bytesWorld World.freeze World.alloc World.drew pushB at h ⊢
  simp only [Nat.one_ne_zero, if_false] at h ⊢
  rw [h]
theorem bytesCells_reps (e : TypeId) (s : ByteArray) : Reps M ι ((Lib.bytesCells w e s).toList.take (ofBytes s.data.toList).length) (ofBytes s.data.toList) := by
  have e1 : (Lib.bytesCells w e s).toList.take (ofBytes s.data.toList).length = s.data.toList.map fun b => Value.int .u8 b.toNat := by
    unfold Lib.bytesCells ofBytes
    simp
  rw [e1]
  refine ⟨by simp [ofBytes], fun i u y hu hy => ?_⟩
  unfold ofBytes at hy
  rw [List.getElem?_map, Option.map_eq_some_iff] at hu hy
  obtain ⟨b, hb, rfl⟩ := hu
  obtain ⟨c, hc, rfl⟩ := hy
  rw [hb] at hc; cases hc
  exact .int _ _
theorem ofBytes_mem {s : List UInt8} {y : V} (h : y ∈ ofBytes s) : ∃ n : Nat, y = .int .u8 n := by
  unfold ofBytes at h
  obtain ⟨b, _, rfl⟩ := List.mem_map.1 h
  exact ⟨_, rfl⟩
theorem step_strBytes (h : St M ι X κ w a.tmps.toList ρ σ) (hG : GOK G M ι) {o : Oper} {s d e : TypeId} {x : Operand} {y : Arg} {v : V} (ho : o.op = .convert s d x) (hs : P.underlying s = some .string) (hd : P.underlying d = some (.slice e)) (he : P.underlying e = some (.int .u8))
    (hx : chkArg x y = true) (hv : eC σ .strBytes (arg G ρ y) = some v) : Left P a o M ι X w σ (put ρ o.dst v) σ := by
  have hA := Opd.of_state h.rep hG
  have hvx := hA.ok _ _ hx
  unfold eC at hv
  split at hv <;> first | (rename_i hk _; cases hk; done) | (rename_i hk _ _; cases hk; done) | skip
  · rename_i bs _ hb
    cases hv
    rw [hb] at hvx
    obtain ⟨b, hxb, hbd⟩ := hvx.inv_str
    subst hbd
    have hrun := Lib.run_convert_string_bytes (P := P) w s d e b hs hd he
    rw [drew_pushB] at hrun
    have hsz : b.size = (ofBytes b.data.toList).length := by simp [ofBytes]
    obtain ⟨M', κ', hx', hst⟩ := h.drew.putRow (Lib.bytesCells w e b) e ((Lib.bytesCells w e b).size, (Lib.bytesCells w e b).size + 1) (ofBytes b.data.toList) (.gr 1) (grownCap w b.size 0 e) 1
      (by rw [ofBytes_flat]; exact bytesCells_reps e b) (fun y hy => by obtain ⟨n, rfl⟩ := ofBytes_mem hy; rfl) (by rw [← hsz]; exact grownCap_ge ..) (fun hc => by cases hc)
      (fun s' hs' => by
        cases hs'
        have hge := grownCap_ge w b.size 0 e
        refine ⟨rfl, ?_, fun i _ hi => ?_⟩
        · unfold Lib.bytesCells; simp; omega
        · unfold frozenAt; simp; omega) o.dst
    rw [← hsz] at hst
    refine ⟨_, _, _, M', ι, κ', ?_, .inl rfl, ⟨(Ext.drew X M ι w).trans hx', Kp.same _ _ (h.wd.hkPush _ _), fun _ => h.wd.hkPush _ _⟩, hst⟩
    unfold execOp
    rw [ho]
    simp only [sem_bind_run, hxb, hrun, Result.andThen]
    rfl
  · cases hv
end
end Go.Ev
set_option linter.unusedSimpArgs false
set_option linter.unusedVariables false
namespace Go.Ev
open Go
section
variable {P : Program} {M : Mem} {ι : Plc} {X : Nat → Prop} {κ : Own} {w : World} {ρ : List V} {σ : Objs} {G : GV} {a : Act}
theorem nogr_map_len (cs : List V) : (cs.map V.ng).length = cs.length := by simp
theorem nogr_map_one {cs : List V} (h : ∀ c ∈ cs, c.one = true) : ∀ c ∈ cs.map V.ng, c.one = true := fun c hc => by
  obtain ⟨c', hc', rfl⟩ := List.mem_map.1 hc
  rw [V.nogr_one]; exact h c' hc'
theorem nogr_map_own {cs : List V} : ∀ c ∈ cs.map V.ng, ∀ u, ownB u c = none := fun c hc u => by
  obtain ⟨c', _, rfl⟩ := List.mem_map.1 hc
  exact ownB_nogr _ _
theorem nogr_map_id {cs : List V} (h : ∀ c ∈ cs, c.ng = c) : cs.map V.ng = cs := by
  conv => rhs; rw [← List.map_id cs]
  exact List.map_congr_left fun c hc => h c hc
theorem step_alloc (h : St M ι X κ w a.tmps.toList ρ σ) {o : Oper} {e : TypeId} {zv : Value} {z : List V} (ho : o.op = .alloc e) (hz : zeroOf P e = some zv) (hc : chkCells zv.cells.toList z = true) :
    Left P a o M ι X w σ (put ρ o.dst (.ptr σ.length 0)) (σ ++ [.cells z]) := by
  obtain ⟨hr, h1, _⟩ := chkCells_reps (M := M) (ι := ι) hc
  have := step_new (P := P) (a := a) (o := o) h (e := e) (v := zv) hr (fun c hc => (h1 c hc).1) (by
    unfold execOp
    rw [ho]
    simp only [Instr.alloc, sem_bind_run, run_zero hz, Result.andThen, run_newVar, sem_pure_run])
  rwa [nogr_map_id (fun c hc => (h1 c hc).2)] at this
theorem step_box (h : St M ι X κ w a.tmps.toList ρ σ) (hG : GOK G M ι) {o : Oper} {e : TypeId} {x : Operand} {y : Arg} (ho : o.op = .box e x) (hx : chkArg x y = true) (hok : okCells (arg G ρ y).cells = true) :
    Left P a o M ι X w σ (put ρ o.dst (.ptr σ.length 0)) (σ ++ [.cells ((arg G ρ y).cells.map V.ng)]) := by
  have hA := Opd.of_state h.rep hG
  have hvx := hA.ok _ _ hx
  refine step_new h (e := e) (v := a.eval x) (hvx.cells (ok_one hok)) (ok_one hok) ?_
  unfold execOp
  rw [ho]
  simp only [sem_bind_run, run_newVar, Result.andThen]
  rfl
theorem left_hs (h : St M ι X κ w a.tmps.toList ρ σ) {o : Oper} {w0 : World} (hw0 : Ext X M ι w M ι w0) (hk0 : w0.heap = w.heap) (h0 : St M ι X κ w0 a.tmps.toList ρ σ) {ars : Array Value} {T : TypeId} {fz : Nat × Nat} {cs : List V} {len cap sz : Nat} {ag : Bool}
    (hr : Reps M ι (ars.toList.take cs.length) cs) (hfz : ∀ i, i < ars.size → frozenAt fz i = false) (hone : ∀ c ∈ cs, c.one = true) (hno : ∀ c ∈ cs, ∀ v, ownB v c = none) (hlc : len ≤ cap)
    (hrun : (execOp a.eval o).run P w = .ok (.value (.slice (some ⟨w0.heap.size, 0, none⟩) len cap)) (pushB w0 (.cells ars T fz))) :
    Left P a o M ι X w σ (put ρ o.dst (.hs σ.length 0 len sz ag)) (σ ++ [.cells cs]) := by
  obtain ⟨M', ι', he, hi, hs, hdm, -⟩ := h0.newObj (h0.wd.none_of_ge (Nat.le_refl _)) ars T fz cs hr hfz hone hno
  exact ⟨_, _, _, M', ι', κ, hrun, .inl rfl, ⟨hw0.trans he, Kp.newObj h.wd (fun o b hb => by rw [h0.wd.hkPush' _ o b hb, hk0]) hdm _, fun _ o b hb => by rw [h0.wd.hkPush' _ o b hb, hk0]⟩, hs.putNone (.hs _ 0 _ sz ag _ cap hi hlc) rfl _⟩
theorem left_hg (h : St M ι X κ w a.tmps.toList ρ σ) {o : Oper} {w0 : World} (hw0 : Ext X M ι w M ι w0) (hk0 : w0.heap = w.heap) (h0 : St M ι X κ w0 a.tmps.toList ρ σ) {ars : Array Value} {T : TypeId} {fz : Nat × Nat} {cs : List V} {len cap sz : Nat} {ag : Bool}
    (hr : Reps M ι (ars.toList.take cs.length) cs) (hfz : ∀ i, i < ars.size → frozenAt fz i = false) (hone : ∀ c ∈ cs, c.one = true) (hno : ∀ c ∈ cs, ∀ v, ownB v c = none) (hlc : len ≤ cap) (hcs : cap * sz ≤ ars.size)
    (hrun : (execOp a.eval o).run P w = .ok (.value (.slice (some ⟨w0.heap.size, 0, none⟩) len cap)) (pushB w0 (.cells ars T fz))) :
    Left P a o M ι X w σ (put ρ o.dst (.hg σ.length len sz ag)) (σ ++ [.cells cs]) := by
  obtain ⟨M', ι', he, hi, hs, hdm, hsn⟩ := h0.newObj (h0.wd.none_of_ge (Nat.le_refl _)) ars T fz cs hr hfz hone hno
  exact ⟨_, _, _, M', ι', κ, hrun, .inl rfl, ⟨hw0.trans he, Kp.newObj h.wd (fun o b hb => by rw [h0.wd.hkPush' _ o b hb, hk0]) hdm _, fun _ o b hb => by rw [h0.wd.hkPush' _ o b hb, hk0]⟩, hs.putNone (.hg _ _ sz ag _ cap _ hi hsn hlc hcs) rfl _⟩
theorem step_bytesH (h : St M ι X κ w a.tmps.toList ρ σ) (hG : GOK G M ι) {o : Oper} {s d e : TypeId} {x : Operand} {y : Arg} {bs : List UInt8} (ho : o.op = .convert s d x) (hs : P.underlying s = some .string) (hd : P.underlying d = some (.slice e)) (he : P.underlying e = some (.int .u8))
    (hx : chkArg x y = true) (hy : arg G ρ y = .str bs) : Left P a o M ι X w σ (put ρ o.dst (.hs σ.length 0 bs.length 1 false)) (σ ++ [.cells (ofBytes bs)]) := by
  have hA := Opd.of_state h.rep hG
  have hvx := hA.ok _ _ hx
  rw [hy] at hvx
  obtain ⟨b, hxb, hbd⟩ := hvx.inv_str
  subst hbd
  have hrun := Lib.run_convert_string_bytes (P := P) w s d e b hs hd he
  rw [drew_pushB] at hrun
  have hsz : b.size = b.data.toList.length := by simp
  have hge := grownCap_ge w b.size 0 e
  have hcs : (Lib.bytesCells w e b).size = grownCap w b.size 0 e := by unfold Lib.bytesCells; simp; omega
  rw [← hsz]
  refine left_hs h (Ext.drew X M ι w) rfl h.drew (ars := Lib.bytesCells w e b) (bytesCells_reps e b) (fun i hi => ?_) (fun c hc => ?_) (fun c hc v => ?_) hge ?_ (fz := ((Lib.bytesCells w e b).size, (Lib.bytesCells w e b).size + 1)) (T := e)
  · unfold frozenAt; simp; omega
  · obtain ⟨n, rfl⟩ := ofBytes_mem hc; rfl
  · obtain ⟨n, rfl⟩ := ofBytes_mem hc; unfold ownB; split <;> first | rfl | (rename_i hh; cases hh)
  · unfold execOp
    rw [ho]
    simp only [sem_bind_run, hxb, hrun, Result.andThen]
    rfl
theorem step_buildSl (h : St M ι X κ w a.tmps.toList ρ σ) (hG : GOK G M ι) {o : Oper} {t e : TypeId} {ag hh : Bool} {sz len : Nat} {z : V} {ps : Array (Nat × Operand)} {qs : List (Nat × Arg)} {v : V} {σ' : Objs} (ho : o.op = .buildSlice t len ps)
    (ht : chkElem P t ag sz = some e) (hz : len = 0 ∨ chkZero P e z = true ∧ z.cells.length = sz) (hpos : sz ≠ 0) (hsmall : len * sz ≤ 16777216) (hps : chkPartsSl ps.toList qs = true)
    {call : FuncId → List V → Objs → Option (V × Objs)} (he : evIns call (arg G ρ) (argT G ρ) σ (.buildSl ag sz len z qs hh) = some (v, σ')) : Left P a o M ι X w σ (put ρ o.dst v) σ' := by
  have hA := Opd.of_state h.rep hG
  simp only [evIns, Option.bind_eq_bind, Option.bind_eq_some_iff] at he
  obtain ⟨xs, hxs, he⟩ := he
  obtain ⟨ars, hrun, hr, hl, hs⟩ := snd_buildSl h hA ht hz hpos hsmall hps hxs
  have hrun' : (execOp a.eval o).run P w = .ok (.value (.slice (some ⟨w.heap.size, 0, none⟩) len len)) (pushB w (.cells ars e (0, 0))) := by
    unfold execOp
    rw [ho]
    simp only [sem_bind_run, hrun, Result.andThen]
    rfl
  have hfl := flat_len hs
  have has : ars.size = (xs.flatMap V.cells).length := by have := hr.1; simpa using this
  split at he
  · rename_i hok
    cases hh with
    | true =>
      simp only [if_true] at he
      cases he
      refine left_hg h (Ext.refl ..) rfl h (T := e) (fz := (0, 0)) (ars := ars) ?_ (fun i _ => by unfold frozenAt; simp) (nogr_map_one (okRow_flat hok)) nogr_map_own (Nat.le_refl _) (by rw [has, hfl, hl]; exact Nat.le_refl _) hrun'
      rw [nogr_map_len, ← has, ← Array.length_toList, List.take_length]
      exact hr.ng
    | false =>
      simp only [Bool.false_eq_true, if_false] at he
      cases he
      obtain ⟨M', κ', hx', hst⟩ := h.putRow ars e (0, 0) xs .fx len sz (by rw [← has, ← Array.length_toList, List.take_length]; exact hr) hs (Nat.le_of_eq hl) (fun _ => hl.symm) (fun s hc => by cases hc) o.dst
      rw [hl] at hst
      exact ⟨_, _, _, M', ι, κ', hrun', .inl rfl, ⟨hx', Kp.same _ _ (h.wd.hkPush' _), fun _ => h.wd.hkPush' _⟩, hst⟩
  · cases he
theorem step_buildG (h : St M ι X κ w a.tmps.toList ρ σ) (hG : GOK G M ι) {o : Oper} {t e : TypeId} {ag : Bool} {sz len : Nat} {z : V} {ps : Array (Nat × Operand)} {qs : List (Nat × Arg)} {v : V} {σ' : Objs} (ho : o.op = .buildSlice t len ps)
    (ht : chkElem P t ag sz = some e) (hz : len = 0 ∨ chkZero P e z = true ∧ z.cells.length = sz) (hpos : sz ≠ 0) (hsmall : len * sz ≤ 16777216) (hps : chkPartsSl ps.toList qs = true)
    {call : FuncId → List V → Objs → Option (V × Objs)} (he : evIns call (arg G ρ) (argT G ρ) σ (.buildG ag sz len z qs) = some (v, σ')) : Left P a o M ι X w σ (put ρ o.dst v) σ' := by
  have hA := Opd.of_state h.rep hG
  simp only [evIns, Option.bind_eq_bind, Option.bind_eq_some_iff] at he
  obtain ⟨xs, hxs, he⟩ := he
  obtain ⟨ars, hrun, hr, hl, hs⟩ := snd_buildSl h hA ht hz hpos hsmall hps hxs
  have hrun' : (execOp a.eval o).run P w = .ok (.value (.slice (some ⟨w.heap.size, 0, none⟩) len len)) (pushB w (.cells ars e (0, 0))) := by
    unfold execOp
    rw [ho]
    simp only [sem_bind_run, hrun, Result.andThen]
    rfl
  have hfl := flat_len hs
  have has : ars.size = (xs.flatMap V.cells).length := by have := hr.1; simpa using this
  split at he
  · rename_i hok
    cases he
    obtain ⟨M', κ', hx', hst⟩ := h.putRow ars e (0, 0) xs (.gr sz) len sz (by rw [← has, ← Array.length_toList, List.take_length]; exact hr) hs (Nat.le_of_eq hl) (fun hc => by cases hc) (fun s hc => by
      cases hc
      refine ⟨rfl, ?_, fun i _ _ => by unfold frozenAt; simp⟩
      rw [has, hfl, hl]; exact Nat.le_refl _) o.dst
    rw [hl] at hst
    exact ⟨_, _, _, M', ι, κ', hrun', .inl rfl, ⟨hx', Kp.same _ _ (h.wd.hkPush' _), fun _ => h.wd.hkPush' _⟩, hst⟩
  · cases he
theorem St.refreeze {us : List Value} (h : St M ι X κ w us ρ σ) {b : Nat} (hf : Free M ι X κ w b) {ws : Array Value} {T : TypeId} {fz : Nat × Nat} (hb : w.heap[b]? = some (.cells ws T fz)) (fz' : Nat × Nat) :
    St M ι X κ (setRow w b ws T fz') us ρ σ ∧ Ext X M ι w M ι (setRow w b ws T fz') ∧ HK ι w (setRow w b ws T fz') := by
  have hatb : ∀ p v x, At ι (setRow w b ws T fz') us ρ σ p v x → At ι w us ρ σ p v x := by
    intro p v x ha
    cases p with
    | s i => exact ha
    | c o i =>
      obtain ⟨b', ws', T', fz2, cs', g1, g2, g3⟩ := ha
      have hbb : b ≠ b' := fun e => by subst e; exact hf.i o g1
      rw [setRow_heap, if_neg hbb] at g2
      exact ⟨b', ws', T', fz2, cs', g1, g2, g3⟩
  have hownb : ∀ p v x c, At ι w us ρ σ p v x → ownB v x = some c → b ≠ c := fun p v x c ha hc e => by
    subst e; have := h.own p v x _ ha hc; rw [hf.k] at this; cases this
  refine ⟨⟨⟨fun c i u hm => ?_, fun o c hi => ?_, fun o c hi => by rw [setRow_size]; exact h.wd.olt o c hi, h.wd.inj, fun c hc => by rw [setRow_size]; exact h.wd.xlt c hc, h.wd.xobj,
    fun c p hp => by rw [setRow_size]; exact h.wd.kap c p hp, fun c n hz => ?_⟩, h.rep, fun p v x c ha hc => h.own p v x c (hatb p v x ha) hc, fun p v x ha => ?_⟩, Ext.setRow hf.x ws T fz', fun o c hi => ?_⟩
  · have := h.wd.mem c i u hm
    by_cases hcb : c = b
    · subst hcb
      rw [cell_row hb] at this
      rw [cell_row (by rw [setRow_heap, if_pos rfl, if_pos hf.lt] : (setRow w c ws T fz').heap[c]? = some (.cells ws T fz'))]
      exact this
    · simp only [World.cell?, setRow_heap, if_neg (Ne.symm hcb)]
      simpa [World.cell?] using this
  · obtain ⟨O, hO, hor⟩ := h.wd.obj o c hi
    exact ⟨O, hO, hor.setRow fun e => hf.i o (by rw [e]; exact hi)⟩
  · obtain ⟨⟨q, hq⟩, ars, T', fz2, h2, h3⟩ := h.wd.szs c n hz
    exact ⟨⟨q, hq⟩, ars, T', fz2, by rw [setRow_heap, if_neg (fun e => hf.i q (by rw [e]; exact hq))]; exact h2, h3⟩
  · have ha' := hatb p v x ha
    exact (h.gr p v x ha').setRow fun c hc => hownb p v x c ha' hc
  · rw [setRow_heap, if_neg (fun e => hf.i o (by rw [e]; exact hi))]
theorem setRow_freeze {w : World} {b n : Nat} {ws : Array Value} {T : TypeId} {fz : Nat × Nat} (hb : w.heap[b]? = some (.cells ws T fz)) :
    w.freeze ⟨b, n, none⟩ 1 = setRow w b ws T (if fz.1 == fz.2 then (n, n + 1) else (min fz.1 n, max fz.2 (n + 1))) := by
  unfold World.freeze setRow
  rw [if_neg (by decide)]
  have hlt : b < w.heap.size := (Array.getElem?_eq_some_iff.1 hb).1
  congr 1
  apply Array.ext
  · simp
  · intro i h1 h2
    have h3 : i < w.heap.size := by simpa using h1
    rw [Array.getElem_modify, Array.getElem_setIfInBounds h3]
    split
    · rename_i hbi
      subst hbi
      have : w.heap[b] = .cells ws T fz := by rw [Array.getElem?_eq_getElem hlt] at hb; exact Option.some.inj hb
      rw [this]
    · rfl
theorem step_mark (h : St M ι X κ w a.tmps.toList ρ σ) (hG : GOK G M ι) {o : Oper} {s e : TypeId} {x : Operand} {y : Arg} {v : V} {σ' : Objs} (ho : o.op = .convert s s x) (hs : P.underlying s = some (.slice e)) (he : P.underlying e = some (.int .u8))
    (hc : chkArg x y = true) (ht : okTk y true = true) {call : FuncId → List V → Objs → Option (V × Objs)} (hv : evIns call (arg G ρ) (argT G ρ) σ (.mark y) = some (v, σ')) : Left P a o M ι X w σ (put (unslot ρ y true) o.dst v) σ' := by
  obtain ⟨n, rfl⟩ := tk_slot ht
  have hx := chkArg_t hc
  subst hx
  simp only [evIns] at hv
  split at hv
  · rename_i xs sz hgx
    cases hv
    have hgx : ρ.getD n .undef = .sl xs (.gr sz) := hgx
    have hn : n < ρ.length := by
      rcases Nat.lt_or_ge n ρ.length with h1 | h1
      · exact h1
      · simp [List.getD, List.getElem?_eq_none h1] at hgx
    have hρ : ρ[n]? = some (.sl xs (.gr sz)) := by
      rw [List.getElem?_eq_getElem hn]
      simp [List.getD, List.getElem?_eq_getElem hn] at hgx
      rw [hgx]
    have hnu : n < a.tmps.toList.length := by rw [h.rep.1]; exact hn
    have hvv : a.tmps.toList[n]? = some (a.tmps.toList[n]) := List.getElem?_eq_getElem hnu
    have hrep := h.rep.2 n _ _ hvv hρ
    rcases hrep.inv_sl with ⟨b, off, cap, sz', us, hval, h1, h2, h3, h4, -⟩ | ⟨_, _, _, hng⟩
    case inr => exact absurd rfl (hng _)
    have hown : ownB (a.tmps.toList[n]) (.sl xs (.gr sz)) = some b := by rw [hval]; rfl
    obtain ⟨κ', hst, hfree, hgr⟩ := h.takeSlot hvv hρ hown
    obtain ⟨-, -, ws, T, fz, hb, -, -⟩ := hgr.ok xs sz rfl _ _ _ hval
    obtain ⟨hst2, hext, hhk⟩ := hst.refreeze hfree hb (if fz.1 == fz.2 then (ws.size, ws.size + 1) else (min fz.1 ws.size, max fz.2 (ws.size + 1)))
    have hev : a.eval (.tmp n) = .slice (some ⟨b, off, none⟩) xs.length cap := by
      rw [eval_tmp]; simp only [List.getD, hvv, Option.getD_some]; exact hval
    have hsh : w.shape? b = some (T, ws.size) := by unfold World.shape?; rw [hb]
    have hrun : (execOp a.eval o).run P w = .ok (.value (.slice (some ⟨b, off, none⟩) xs.length cap)) (setRow w b ws T (if fz.1 == fz.2 then (ws.size, ws.size + 1) else (min fz.1 ws.size, max fz.2 (ws.size + 1)))) := by
      unfold execOp
      rw [ho, ← setRow_freeze hb]
      simp only [sem_bind_run, hev, convert, run_underlying hs, run_underlying he, Result.andThen, BEq.rfl]
      simp [markStringish, sem_bind_run, shape, freeze, Sem.run, hsh, Result.andThen, sem_pure_run]
    refine ⟨_, _, _, M, ι, κ', hrun, .inl rfl, ⟨hext, Kp.same _ _ hhk, fun _ => hhk⟩, ?_⟩
    have hno : Rep M ι (.slice (some ⟨b, off, none⟩) xs.length cap) (.sl xs .no) := by rw [← hval]; exact hrep.ng
    have hun : unslot ρ (.t n) true = ρ.set n (V.sl xs (.gr sz)).ng := by
      show ρ.set n (ρ.getD n .undef).ng = _
      rw [hgx]
    rw [hun]
    exact hst2.putNone hno (ownB_nogr _ (.sl xs .no)) _
  · cases hv
theorem inv_intOf {v : Value} {x : V} {n : Int} (h : Rep M ι v x) (hn : intOf x = some n) : ∃ k, v = .int k n := by
  cases x <;> simp [intOf] at hn
  subst hn
  exact ⟨_, h.inv_int⟩
theorem mkSl_made {A : Arg → V} (hA : Opd M ι a.eval A) {T : Arg → V} {o : Oper} {t e : TypeId} {ag : Bool} {sz bytes : Nat} {z : V} {l c : Operand} {l' c' : Arg} {v : V} {σ' : Objs} (ho : o.op = .makeSlice t l c)
    (ht : chkElem P t ag sz = some e) (hz : chkZero P e z = true) (hzl : z.cells.length = sz) (hpos : sz ≠ 0) (hb0 : bytes ≠ 0) (hby : (P.info? e).map (·.bytes) = some bytes) (hl : chkArg l l' = true) (hcc : chkArg c c' = true)
    {call : FuncId → List V → Objs → Option (V × Objs)} (he : evIns call A T σ (.mkSl ag sz bytes z l' c' true) = some (v, σ')) :
    ∃ (ln cn : Nat) (ars : Array Value) (cs : List V), v = .hs σ.length 0 ln sz ag ∧ σ' = σ ++ [.cells cs] ∧ ln ≤ cn ∧ (execOp a.eval o).run P w = .ok (.value (.slice (some ⟨w.heap.size, 0, none⟩) ln cn)) (pushB w (.cells ars e)) ∧
      Reps M ι ars.toList cs ∧ (∀ y ∈ cs, y.one = true) ∧ ∀ y ∈ cs, y.ng = y := by
  simp only [evIns, Option.bind_eq_bind, Option.bind_eq_some_iff] at he
  obtain ⟨ln, hln, cn, hcn, he⟩ := he
  obtain ⟨kl, hlv⟩ := inv_intOf (hA.ok _ _ hl) hln
  obtain ⟨kc, hcv⟩ := inv_intOf (hA.ok _ _ hcc) hcn
  obtain ⟨hu, hty⟩ := chkElem_spec ht
  have hsz := chkTy_sz hty
  split at he
  · rename_i hcond
    obtain ⟨h0, hlc, hmax, -, hzok, hzag⟩ := hcond
    obtain ⟨i, zv, hi, his, hiz, hzs, hreps⟩ := zero_row (M := M) (ι := ι) (n := cn.toNat) hz hsz hzl hpos
    rw [hi] at hby
    have hby' : i.bytes = bytes := by simpa using hby
    have hmax' : (i.bytes : Int) * cn ≤ 281474976710656 := by rw [hby', Int.mul_comm]; unfold rowMax at hmax; omega
    have h63 : cn ≤ 9223372036854775807 := by
      have h1 : cn * 1 ≤ cn * (bytes : Int) := Int.mul_le_mul_of_nonneg_left (by omega) (by omega)
      unfold rowMax at hmax
      omega
    have hrun0 := run_make (P := P) w t e i zv hu hi hiz kl kc ln cn h0 hlc hmax' h63
    have hrun' : (execOp a.eval o).run P w = .ok (.value (.slice (some ⟨w.heap.size, 0, none⟩) ln.toNat cn.toNat)) (pushB w (.cells (madeCells zv.cells (cn.toNat * sz)) e)) := by
      unfold execOp
      rw [ho]
      rw [his] at hrun0
      simp only [sem_bind_run, hlv, hcv, hrun0, Result.andThen]
      rfl
    have hrep : Reps M ι (madeCells zv.cells (cn.toNat * sz)).toList ((List.replicate cn.toNat z).flatMap V.cells) := hreps
    have hzn : ∀ y ∈ z.cells, y.ng = y := by
      unfold chkZero at hz
      split at hz
      · exact fun y hy => ((chkCells_reps (M := M) (ι := ι) hz).2.1 y hy).2
      · cases hz
    simp only [if_true] at he
    cases he
    refine ⟨_, cn.toNat, _, _, rfl, rfl, by omega, hrun', hrep, fun y hy => ?_, fun y hy => ?_⟩
    · obtain ⟨q, hq, hy⟩ := List.mem_flatMap.1 hy
      rw [List.eq_of_mem_replicate hq] at hy
      exact ok_one hzok y hy
    · obtain ⟨q, hq, hy⟩ := List.mem_flatMap.1 hy
      rw [List.eq_of_mem_replicate hq] at hy
      exact hzn y hy
  · cases he
theorem step_mkSl (h : St M ι X κ w a.tmps.toList ρ σ) (hG : GOK G M ι) {o : Oper} {t e : TypeId} {ag hh : Bool} {sz bytes : Nat} {z : V} {l c : Operand} {l' c' : Arg} {v : V} {σ' : Objs} (ho : o.op = .makeSlice t l c)
    (ht : chkElem P t ag sz = some e) (hz : chkZero P e z = true) (hzl : z.cells.length = sz) (hpos : sz ≠ 0) (hb0 : bytes ≠ 0) (hby : (P.info? e).map (·.bytes) = some bytes) (hl : chkArg l l' = true) (hcc : chkArg c c' = true)
    {call : FuncId → List V → Objs → Option (V × Objs)} (he : evIns call (arg G ρ) (argT G ρ) σ (.mkSl ag sz bytes z l' c' hh) = some (v, σ')) : Left P a o M ι X w σ (put ρ o.dst v) σ' := by
  have hA := Opd.of_state h.rep hG
  simp only [evIns, Option.bind_eq_bind, Option.bind_eq_some_iff] at he
  obtain ⟨ln, hln, cn, hcn, he⟩ := he
  obtain ⟨kl, hlv⟩ := inv_intOf (hA.ok _ _ hl) hln
  obtain ⟨kc, hcv⟩ := inv_intOf (hA.ok _ _ hcc) hcn
  obtain ⟨hu, hty⟩ := chkElem_spec ht
  have hsz := chkTy_sz hty
  split at he
  · rename_i hcond
    obtain ⟨h0, hlc, hmax, -, hzok, hzag⟩ := hcond
    obtain ⟨i, zv, hi, his, hiz, hzs, hreps⟩ := zero_row (M := M) (ι := ι) (n := cn.toNat) hz hsz hzl hpos
    rw [hi] at hby
    have hby' : i.bytes = bytes := by simpa using hby
    have hmax' : (i.bytes : Int) * cn ≤ 281474976710656 := by rw [hby', Int.mul_comm]; unfold rowMax at hmax; omega
    have h63 : cn ≤ 9223372036854775807 := by
      have h1 : cn * 1 ≤ cn * (bytes : Int) := Int.mul_le_mul_of_nonneg_left (by omega) (by omega)
      unfold rowMax at hmax
      omega
    have hrun0 := run_make (P := P) w t e i zv hu hi hiz kl kc ln cn h0 hlc hmax' h63
    have hrun' : (execOp a.eval o).run P w = .ok (.value (.slice (some ⟨w.heap.size, 0, none⟩) ln.toNat cn.toNat)) (pushB w (.cells (madeCells zv.cells (cn.toNat * sz)) e)) := by
      unfold execOp
      rw [ho]
      rw [his] at hrun0
      simp only [sem_bind_run, hlv, hcv, hrun0, Result.andThen]
      rfl
    have hrep : Reps M ι (madeCells zv.cells (cn.toNat * sz)).toList ((List.replicate cn.toNat z).flatMap V.cells) := hreps
    have hzall : ∀ n, ∀ y ∈ List.replicate n z, y.cells.length = sz := fun n y hy => by rw [List.eq_of_mem_replicate hy]; exact hzl
    have hfl : ∀ n, ((List.replicate n z).flatMap V.cells).length = n * sz := fun n => by rw [flat_len (hzall n), List.length_replicate]
    have has : (madeCells zv.cells (cn.toNat * sz)).size = cn.toNat * sz := size_madeCells _ _
    have hln' : ln.toNat ≤ cn.toNat := by omega
    have hone : ∀ n, ∀ y ∈ (List.replicate n z).flatMap V.cells, y.one = true := fun n y hy => by
      obtain ⟨q, hq, hy⟩ := List.mem_flatMap.1 hy
      rw [List.eq_of_mem_replicate hq] at hy
      exact ok_one hzok y hy
    have hzn : ∀ y ∈ z.cells, y.ng = y := by
      unfold chkZero at hz
      split at hz
      · exact fun y hy => ((chkCells_reps (M := M) (ι := ι) hz).2.1 y hy).2
      · cases hz
    cases hh with
    | true =>
      simp only [if_true] at he
      cases he
      refine left_hs h (Ext.refl ..) rfl h (T := e) (fz := (0, 0)) (ars := madeCells zv.cells (cn.toNat * sz)) ?_ (fun i _ => by unfold frozenAt; simp) (hone _) (fun c hc u => ?_) hln' hrun'
      · rw [List.take_of_length_le (by rw [hfl]; have := has; simp only [Array.length_toList]; omega)]; exact hrep
      · obtain ⟨q, hq, hy⟩ := List.mem_flatMap.1 hc
        rw [List.eq_of_mem_replicate hq] at hy
        rw [← hzn c hy]
        exact ownB_nogr _ _
    | false =>
      simp only [Bool.false_eq_true, if_false] at he
      cases he
      have htake : Reps M ι ((madeCells zv.cells (cn.toNat * sz)).toList.take ((List.replicate ln.toNat z).flatMap V.cells).length) ((List.replicate ln.toNat z).flatMap V.cells) := by
        have e1 : (List.replicate cn.toNat z).flatMap V.cells = (List.replicate ln.toNat z).flatMap V.cells ++ (List.replicate (cn.toNat - ln.toNat) z).flatMap V.cells := by
          rw [← List.flatMap_append, List.replicate_append_replicate, Nat.add_sub_cancel' hln']
        rw [e1] at hrep
        refine ⟨?_, fun j u y hu hy => ?_⟩
        · have h1 := Nat.mul_le_mul_right sz hln'
          have h2 : (madeCells zv.cells (cn.toNat * sz)).toList.length = cn.toNat * sz := by rw [Array.length_toList]; exact has
          rw [List.length_take, h2, hfl]
          exact Nat.min_eq_left h1
        · rw [List.getElem?_take] at hu
          split at hu
          · exact hrep.2 j u y hu (by rw [List.getElem?_append_left (by assumption)]; exact hy)
          · cases hu
      obtain ⟨M', κ', hx', hst⟩ := h.putRow (madeCells zv.cells (cn.toNat * sz)) e (0, 0) (List.replicate ln.toNat z) (if ln = cn then .fx else .gr sz) cn.toNat sz htake (hzall _) (by rw [List.length_replicate]; exact hln')
        (fun hc => by
          split at hc
          · rename_i heq; rw [List.length_replicate, heq]
          · cases hc)
        (fun s hc => by
          split at hc
          · cases hc
          · cases hc
            exact ⟨rfl, by rw [has]; exact Nat.le_refl _, fun i _ _ => by unfold frozenAt; simp⟩) o.dst
      rw [List.length_replicate] at hst
      exact ⟨_, _, _, M', ι, κ', hrun', .inl rfl, ⟨hx', Kp.same _ _ (h.wd.hkPush' _), fun _ => h.wd.hkPush' _⟩, hst⟩
  · cases he
end
end Go.Ev
set_option linter.unusedSimpArgs false
set_option linter.unusedVariables false
namespace Go.Ev
open Go
def setB (w : World) (b : Nat) (ob : Obj) : World := { w with heap := w.heap.setIfInBounds b ob }
theorem setB_heap (w : World) (b : Nat) (ob : Obj) (c : Nat) : (setB w b ob).heap[c]? = if b = c then (if b < w.heap.size then some ob else none) else w.heap[c]? := by
  unfold setB; rw [Array.getElem?_setIfInBounds]
theorem setB_size (w : World) (b : Nat) (ob : Obj) : (setB w b ob).heap.size = w.heap.size := by simp [setB]
section
variable {P : Program} {M : Mem} {ι : Plc} {X : Nat → Prop} {κ : Own} {w : World} {us : List Value} {ρ : List V} {σ : Objs} {G : GV} {a : Act}
theorem ObjRep.setB {b c : Nat} {O : O} {ob : Obj} (h : ObjRep M ι w c O) (hbc : b ≠ c) : ObjRep M ι (setB w b ob) c O := by
  cases O with
  | cells cs =>
    obtain ⟨ars, T', fz', h1, h2⟩ := h
    exact ⟨ars, T', fz', by rw [setB_heap, if_neg hbc]; exact h1, h2⟩
  | mp es =>
    obtain ⟨en, k, h1, h2⟩ := h
    exact ⟨en, k, by rw [setB_heap, if_neg hbc]; exact h1, h2⟩
  | si r pos =>
    obtain ⟨s, h1, h2⟩ := h
    exact ⟨s, by rw [setB_heap, if_neg hbc]; exact h1, h2⟩
  | gone => trivial
theorem St.setO (h : St M ι X κ w us ρ σ) {o b : Nat} (hi : ι o = some b) {A B : O} (ho : σ[o]? = some A) (hg : A ≠ .gone) (hnc' : ∀ cs, B ≠ .cells cs) {ob0 ob : Obj} (hb : w.heap[b]? = some ob0) (hn0 : ∀ ars T fz, ob0 ≠ .cells ars T fz)
    (hn1 : ∀ ars T fz, ob ≠ .cells ars T fz) (hob : ObjRep M ι (Ev.setB w b ob) b B) : St M ι X κ (Ev.setB w b ob) us ρ (σ.set o B) ∧ Ext X M ι w M ι (Ev.setB w b ob) ∧ Kp ι w σ ι (Ev.setB w b ob) (σ.set o B) := by
  have hX := h.wd.xobj o b hi
  have hbl := h.wd.olt o b hi
  have hol : o < σ.length := (List.getElem?_eq_some_iff.1 ho).1
  have hcell : ∀ c i, (Ev.setB w b ob).cell? ⟨c, i, none⟩ = w.cell? ⟨c, i, none⟩ := fun c i => by
    unfold World.cell?
    rw [setB_heap]
    by_cases hc : b = c
    · subst hc
      simp only [if_true, if_pos hbl, hb]
      cases ob0 <;> first | exact absurd rfl (hn0 _ _ _) | (cases ob <;> first | exact absurd rfl (hn1 _ _ _) | rfl)
    · rw [if_neg hc]
  have hblk : ∀ c ars T fz, w.heap[c]? = some (.cells ars T fz) → b ≠ c := fun c ars T fz hc e => by
    subst e; rw [hb] at hc; cases hc; exact hn0 _ _ _ rfl
  have hback : ∀ c ars T fz, (Ev.setB w b ob).heap[c]? = some (Obj.cells ars T fz) → w.heap[c]? = some (Obj.cells ars T fz) := fun c ars T fz hc => by
    rw [setB_heap] at hc
    by_cases he : b = c
    · rw [if_pos he, if_pos hbl] at hc; cases hc; exact absurd rfl (hn1 _ _ _)
    · rw [if_neg he] at hc; exact hc
  have hcs : ∀ q cs, (σ.set o B)[q]? = some (O.cells cs) → σ[q]? = some (O.cells cs) := fun q cs hq => by
    by_cases he : o = q
    · subst he; rw [List.getElem?_set_self hol] at hq; cases hq; exact absurd rfl (hnc' _)
    · rwa [List.getElem?_set_ne he] at hq
  have key : ∀ p v x, At ι (Ev.setB w b ob) us ρ (σ.set o B) p v x → At ι w us ρ σ p v x := by
    intro p v x ha
    cases p with
    | s i => exact ha
    | c q i =>
      obtain ⟨b', ws, T, fz, cs, g1, g2, g3, g4⟩ := ha
      exact ⟨b', ws, T, fz, cs, g1, hback _ _ _ _ g2, hcs _ _ g3, g4⟩
  refine ⟨⟨⟨fun c i u hm => by rw [hcell]; exact h.wd.mem c i u hm, fun q c hq => ?_, fun q c hq => by rw [setB_size]; exact h.wd.olt q c hq, fun q q' c g1 g2 g3 g4 => h.wd.inj q q' c g1 g2 (live_set ho g3 hg) (live_set ho g4 hg),
    fun c hc => by rw [setB_size]; exact h.wd.xlt c hc, h.wd.xobj, fun c p hp => by rw [setB_size]; exact h.wd.kap c p hp, fun c n hz => ?_⟩, h.rep, fun p v x c ha hc => h.own p v x c (key p v x ha) hc, fun p v x ha => ?_⟩,
    ⟨.refl _, .refl _, fun _ _ _ => rfl, by rw [setB_size]; exact Nat.le_refl _, fun c hc => ?_, rfl, rfl, rfl⟩, ⟨by simp, fun _ _ => rfl, fun q c i hq hl => ?_⟩⟩
  · by_cases he : o = q
    · subst he
      rw [hi] at hq; cases hq
      exact ⟨B, List.getElem?_set_self hol, hob⟩
    · obtain ⟨Oq, hOq, hr⟩ := h.wd.obj q c hq
      refine ⟨Oq, by rw [List.getElem?_set_ne he]; exact hOq, ?_⟩
      by_cases hgq : Oq = .gone
      · subst hgq; trivial
      · exact hr.setB fun e => he (h.wd.inj o q b hi (e ▸ hq) (by rw [ho]; simpa using hg) (by rw [hOq]; simpa using hgq))
  · obtain ⟨h1, ars, T, fz, h2, h3⟩ := h.wd.szs c n hz
    exact ⟨h1, ars, T, fz, by rw [setB_heap, if_neg (hblk _ _ _ _ h2)]; exact h2, h3⟩
  · refine ⟨fun xs sz hx al len cap hv => ?_⟩
    obtain ⟨g1, g2, ars, T, fz, g3, g4⟩ := (h.gr p v x (key p v x ha)).ok xs sz hx al len cap hv
    exact ⟨g1, g2, ars, T, fz, by rw [setB_heap, if_neg (hblk _ _ _ _ g3)]; exact g3, g4⟩
  · rw [setB_heap, if_neg (fun e => by subst e; exact hX hc)]
  · obtain ⟨cs, x, h1, h2⟩ := hl
    exact ⟨⟨cs, x, hcs _ _ h1, h2⟩, hcell _ _⟩
theorem run_setB {r : Nat} {ob0 ob : Obj} (h : w.heap[r]? = some ob0) (hn : ∀ ars T fz, ob0 ≠ .cells ars T fz) : (Go.setObj r ob).run P w = .ok () (setB w r ob) := by
  unfold Go.setObj
  simp only [Sem.run, h]
  cases ob0 <;> first | exact absurd rfl (hn _ _ _) | rfl
theorem sameBits_key {d : TypeDesc} {u v : Value} (h : Instr.sameNow d u v = some true) (n : Nat) : Instr.sameBits (n + 1) v u = true := by
  unfold Instr.sameNow at h
  split at h
  · split at h
    · rename_i hk; subst hk
      simp at h; subst h
      simp [Instr.sameBits]
    · cases h
  · rename_i x y
    simp only [Option.some.injEq, bytes_beq, decide_eq_true_eq] at h
    show (y == x) = true
    rw [bytes_beq]
    exact decide_eq_true h.symm
  · rename_i x y
    have : x = y := by simpa using h
    subst this
    simp [Instr.sameBits]
  · cases h
theorem step_mkmp (h : St M ι X κ w a.tmps.toList ρ σ) {o : Oper} {t : TypeId} {r : Option Operand} (ho : o.op = .makeMap t r)
    (hc : r = none ∨ ∃ k n kt e, r = some (.const (.int k n)) ∧ P.underlying t = some (.map kt e)) :
    Left P a o M ι X w σ (put ρ o.dst (.mp σ.length)) (σ ++ [.mp []]) := by
  obtain ⟨M', ι', hx, hi, hs, hd, _⟩ := h.newO (h.wd.none_of_ge (Nat.le_refl _)) (.map #[] 0) (.mp []) (fun M' ι' _ _ _ => ⟨#[], 0, pushB_new w _, rfl, fun i e p he hp => by simp at hp⟩) (fun cs hc => by cases hc) (n := none) (fun k hk => by cases hk)
  refine ⟨_, _, _, M', ι', κ, ?_, .inl rfl, ⟨hx, Kp.newObj h.wd (h.wd.hkPush' _) hd _, fun _ => h.wd.hkPush' _⟩, hs.putNone (.mp _ _ hi) rfl _⟩
  unfold execOp
  rw [ho]
  have hn : (newObj (.map #[] 0)).run P w = .ok w.heap.size (pushB w (.map #[] 0)) := rfl
  rcases hc with rfl | ⟨k, n, kt, e, rfl, hu⟩
  · simp only [Option.map_none, Instr.makeMap, sem_bind_run, sem_pure_run, hn, Result.andThen]
  · simp only [Option.map_some, Instr.makeMap, sem_bind_run, sem_pure_run, hn, Result.andThen, run_underlying hu]
    rfl
theorem step_mset (h : St M ι X κ w a.tmps.toList ρ σ) (hG : GOK G M ι) {o : Oper} {kk : CK} {t kt e : TypeId} {m k x : Operand} {m' k' x' : Arg} {v : V} {σ' : Objs} (ho : o.op = .mapUpdate t m k x ∨ o.op = .insert t m k x) (ht : P.underlying t = some (.map kt e)) (hk : keyOk P kk kt = true)
    (hm : chkArg m m' = true) (hkk : chkArg k k' = true) (hx : chkArg x x' = true) {call : FuncId → List V → Objs → Option (V × Objs)} (he : evIns call (arg G ρ) (argT G ρ) σ (.mset kk m' k' x') = some (v, σ')) : Left P a o M ι X w σ (put ρ o.dst v) σ' := by
  have hA := Opd.of_state h.rep hG
  have hvm := hA.ok _ _ hm
  have hvk := hA.ok _ _ hkk
  have hvx := hA.ok _ _ hx
  simp only [evIns] at he
  split at he
  · rename_i oo hmo
    split at he
    · rename_i es hes
      simp only [Option.bind_eq_bind, Option.bind_eq_some_iff] at he
      obtain ⟨es', hp, he⟩ := he
      split at he
      · cases he
        rw [hmo] at hvm
        obtain ⟨b, hmb, hi⟩ := hvm.inv_mp
        obtain ⟨O, hO, hor⟩ := h.wd.obj oo b hi
        rw [hes] at hO; cases hO
        obtain ⟨en, clock, hb, her⟩ := hor
        obtain ⟨d, hu, hd⟩ := keyOk_spec hk
        have hbl := h.wd.olt oo b hi
        have fin : ∀ ob, ObjRep M ι (setB w b ob) b (.mp es') → (∀ ars T fz, ob ≠ .cells ars T fz) → (Instr.mapUpdate t (a.eval m) (a.eval k) (a.eval x)).run P w = .ok () (setB w b ob) → Left P a o M ι X w σ (put ρ o.dst .undef) (σ.set oo (.mp es')) := by
          intro ob hob hn1 hrun
          obtain ⟨hs, hxx, hkp⟩ := h.setO hi hes (by simp) (by simp) hb (by simp) hn1 hob
          refine ⟨_, undef, _, M, ι, κ, ?_, .inr ⟨rfl, rfl⟩, ⟨hxx, hkp, fun hns => by rcases ho with ho | ho <;> (rw [ho] at hns; cases hns)⟩, hs.putNone .undef rfl _⟩
          unfold execOp
          rcases ho with ho | ho <;>
          · rw [ho]
            simp only [sem_bind_run, hrun, Result.andThen]
            rfl
        have start : ∀ r (w' : World), (∀ q, q = r → (match q with
              | some (i, _) => do
                let key ← Instr.keyThatStays (((en[i]?).map (·.key)).getD (a.eval k)) (a.eval k)
                Go.setObj b (.map (en.modify i fun e => { e with key, val := a.eval x }) clock)
              | none => Go.setObj b (.map (en.push { key := a.eval k, val := a.eval x, born := clock }) (clock + 1)) : Sem Unit).run P w = .ok () w') →
            Instr.findNow d (a.eval k) en.toList 0 = some r → (Instr.mapUpdate t (a.eval m) (a.eval k) (a.eval x)).run P w = .ok () w' := by
          intro r w' hq hf
          unfold Instr.mapUpdate
          rw [sem_bind_run, run_underlying ht]
          simp only [Result.andThen, hmb]
          simp only [sem_bind_run, run_getMap hb, run_checkKey hu hd, run_findKey hu hf, Result.andThen]
          have := hq r rfl
          cases r with
          | none => simpa only using this
          | some p => obtain ⟨i, y⟩ := p; simpa only using this
        rcases put_ok hd hvk her 0 hp with ⟨hf, rfl⟩ | ⟨j, e0, hj, hf, hsn, rfl⟩
        · refine fin (.map (en.push { key := a.eval k, val := a.eval x, born := clock }) (clock + 1)) ⟨_, _, by rw [setB_heap, if_pos rfl, if_pos hbl], by simp [her.1], fun i e' p he' hp' => ?_⟩ (by simp) (start none _ (fun q hq => by subst hq; exact run_setB hb (by simp)) hf)
          rw [Array.toList_push, List.getElem?_append] at he'
          rw [List.getElem?_append, ← her.1] at hp'
          split at he'
          · rename_i hlt; rw [if_pos hlt] at hp'; exact her.2 i e' p he' hp'
          · rename_i hlt
            rw [if_neg hlt] at hp'
            generalize i - en.toList.length = q at he' hp'
            match q with
            | 0 => cases he'; cases hp'; exact ⟨hvk, hvx⟩
            | q + 1 => simp at hp'
        · rw [Nat.zero_add] at hf
          have hen : en[j]? = some e0 := by simpa using hj
          refine fin (.map (en.modify j fun e => { e with key := a.eval k, val := a.eval x }) clock) ⟨_, _, by rw [setB_heap, if_pos rfl, if_pos hbl], by simp [her.1], fun i e' p he' hp' => ?_⟩ (by simp) (start (some (j, e0.val)) _ (fun q hq => by
            subst hq
            have hkts : (Instr.keyThatStays (((en[j]?).map (·.key)).getD (a.eval k)) (a.eval k)).run P w = .ok (a.eval k) w := by
              rw [hen]
              unfold Instr.keyThatStays
              rw [show Instr.sameBits 10000 ((Option.map (fun x => x.key) (some e0)).getD (a.eval k)) (a.eval k) = true from sameBits_key hsn 9999, if_pos rfl]
              rfl
            simp only [sem_bind_run, hkts, Result.andThen]
            exact run_setB hb (by simp)) hf)
          rw [Array.getElem?_toList, Array.getElem?_modify] at he'
          rw [List.getElem?_set] at hp'
          by_cases hji : j = i
          · subst hji
            rw [if_pos rfl] at he' hp'
            rw [hen] at he'
            cases he'
            split at hp'
            · cases hp'; exact ⟨hvk, hvx⟩
            · cases hp'
          · rw [if_neg hji] at he' hp'
            exact her.2 i e' p (by simpa using he') hp'
      · cases he
    · cases he
  · cases he
theorem step_rng (h : St M ι X κ w a.tmps.toList ρ σ) (hG : GOK G M ι) {o : Oper} {t : TypeId} {x : Operand} {y : Arg} {s : List UInt8} (ho : o.op = .range t x) (ht : P.underlying t = some .string) (hx : chkArg x y = true) (hy : arg G ρ y = .str s) :
    Left P a o M ι X w σ (put ρ o.dst (.ptr σ.length 0)) (σ ++ [.si s 0]) := by
  have hv := (Opd.of_state h.rep hG).ok _ _ hx
  rw [hy] at hv
  obtain ⟨b, hxb, rfl⟩ := hv.inv_str
  obtain ⟨M', ι', hx', hi, hs, hd, _⟩ := h.newO (h.wd.none_of_ge (Nat.le_refl _)) (.stringIter b 0) (.si b.data.toList 0) (fun M' ι' _ _ _ => ⟨b, pushB_new w _, rfl⟩) (fun cs hc => by cases hc) (n := none) (fun k hk => by cases hk)
  refine ⟨_, _, _, M', ι', κ, ?_, .inl rfl, ⟨hx', Kp.newObj h.wd (h.wd.hkPush' _) hd _, fun _ => h.wd.hkPush' _⟩, hs.putNone (.ptr _ 0 _ hi) rfl _⟩
  unfold execOp
  rw [ho]
  have hn : (newObj (.stringIter b 0)).run P w = .ok w.heap.size (pushB w (.stringIter b 0)) := rfl
  simp only [hxb, Instr.range, sem_bind_run, run_underlying ht, sem_pure_run, hn, Result.andThen]
theorem decode_rune {s : ByteArray} {pos : Nat} (h : pos < s.size) : Utf8.decode s pos = runeOf (s.data.toList.drop pos) := by
  have hg : ∀ k, s.get! (pos + k) = (s.data.toList.drop pos).getD k 0 := fun k => by
    rw [List.getD_eq_getElem?_getD, List.getElem?_drop]
    show s.data[pos + k]! = _
    rw [getElem!_def]
    simp only [Array.getElem?_toList]
    cases s.data[pos + k]? <;> rfl
  have hl : ∀ k, decide (pos + k < s.size) = decide (k < (s.data.toList.drop pos).length) := fun k => by
    have : (s.data.toList.drop pos).length = s.size - pos := by simp
    rw [this]
    congr 1
    apply propext
    omega
  unfold Utf8.decode runeOf
  simp only [hg, hl]
  rfl
theorem step_nxt (h : St M ι X κ w a.tmps.toList ρ σ) (hG : GOK G M ι) {o : Oper} {x : Operand} {y : Arg} {v : V} {σ' : Objs} (ho : o.op = .next x true) (hx : chkArg x y = true)
    {call : FuncId → List V → Objs → Option (V × Objs)} (he : evIns call (arg G ρ) (argT G ρ) σ (.nxt y) = some (v, σ')) : Left P a o M ι X w σ (put ρ o.dst v) σ' := by
  have hv := (Opd.of_state h.rep hG).ok _ _ hx
  simp only [evIns] at he
  split at he
  · rename_i oo hy
    rw [hy] at hv
    obtain ⟨b, hxb, hi⟩ := hv.inv_ptr
    have get : ∀ r pos, σ[oo]? = some (.si r pos) → ∃ s : ByteArray, w.heap[b]? = some (.stringIter s pos) ∧ s.data.toList.drop pos = r := fun r pos hr => by
      obtain ⟨O, hO, hor⟩ := h.wd.obj oo b hi
      rw [hr] at hO; cases hO
      exact hor
    split at he
    · rename_i pos hs
      cases he
      obtain ⟨s, hb, hd⟩ := get _ _ hs
      have hlen : ¬ pos < s.size := by
        have := congrArg List.length hd
        simp at this
        omega
      refine left_value (κ := κ) (v := .tuple #[.bool false]) ?_ (h.putNone (.tup _ _ rfl fun i u c hu hc => ?_) rfl _)
      · unfold execOp
        rw [ho]
        have hget : (getObj b).run P w = .ok (.stringIter s pos) w := by unfold getObj; simp only [Sem.run, hb]
        simp only [hxb, Instr.next, sem_bind_run, hget, Result.andThen, if_neg hlen, sem_pure_run]
      · match i with
        | 0 => cases hu; cases hc; exact .bool false
        | i + 1 => simp at hc
    · rename_i c0 r pos hs
      cases he
      obtain ⟨s, hb, hd⟩ := get _ _ hs
      have hlen : pos < s.size := by
        have := congrArg List.length hd
        simp at this
        omega
      have hdec := decode_rune hlen
      rw [hd] at hdec
      have hbl := h.wd.olt oo b hi
      obtain ⟨hs', hxx, hkp⟩ := h.setO hi hs (by simp) (B := .si ((c0 :: r).drop (runeOf (c0 :: r)).2) (pos + (runeOf (c0 :: r)).2)) (by simp) hb (by simp) (ob := .stringIter s (pos + (runeOf (c0 :: r)).2)) (by simp)
        ⟨s, by rw [setB_heap, if_pos rfl, if_pos hbl], by rw [← List.drop_drop, hd]⟩
      refine ⟨_, .tuple #[.bool true, goInt pos, .int .i32 (runeOf (c0 :: r)).1], _, M, ι, κ, ?_, .inl rfl, ⟨hxx, hkp, fun hns => by rw [ho] at hns; cases hns⟩, hs'.putNone (.tup _ _ rfl fun i u c hu hc => ?_) rfl _⟩
      · unfold execOp
        rw [ho]
        have hget : (getObj b).run P w = .ok (.stringIter s pos) w := by unfold getObj; simp only [Sem.run, hb]
        have hset : (Go.setObj b (.stringIter s (pos + (runeOf (c0 :: r)).2))).run P w = .ok () (setB w b (.stringIter s (pos + (runeOf (c0 :: r)).2))) := run_setB hb (by simp)
        simp only [hxb, Instr.next, sem_bind_run, hget, Result.andThen, if_pos hlen, hdec, hset, sem_pure_run]
      · match i with
        | 0 => cases hu; cases hc; exact .bool true
        | 1 => cases hu; cases hc; exact .int _ _
        | 2 => cases hu; cases hc; exact .int _ _
        | i + 3 => simp at hc
    · cases he
  · cases he
end
end Go.Ev
set_option linter.unusedSimpArgs false
set_option linter.unusedVariables false
namespace Go.Ev
open Go
section
variable {P : Program} {M : Mem} {ι : Plc} {X : Nat → Prop} {κ : Own} {w : World} {us : List Value} {ρ : List V} {σ : Objs} {G : GV} {a : Act}
theorem exec_copy {r : Operand → Value} {dst : Option Tmp} {args : Array Operand} {ts : Array TypeId} {type : TypeId} {pos : String} {after : Array Edge} {guard : Option (Nat × Bool)} :
    execOp r ⟨dst, .call { callee := .builtin .copy, args := args, argTypes := ts }, type, pos, after, guard⟩ = (do pure (.value (← Builtin.copy_ ts type (args.map r)))) := rfl
theorem exec_clear {r : Operand → Value} {dst : Option Tmp} {args : Array Operand} {ts : Array TypeId} {type : TypeId} {pos : String} {after : Array Edge} {guard : Option (Nat × Bool)} :
    execOp r ⟨dst, .call { callee := .builtin .clear, args := args, argTypes := ts }, type, pos, after, guard⟩ = (do pure (.value (← Builtin.clear_ ts type (args.map r)))) := rfl
theorem St.layObj (h : St M ι X κ w us ρ σ) {oo b off : Nat} {cs ds : List V} {vs : List Value} (hi : ι oo = some b) (hcs : σ[oo]? = some (.cells cs)) (hr : Reps M ι vs ds) (hle : off + ds.length ≤ cs.length) (hone : ∀ c ∈ ds, c.one = true) :
    ∃ w', (storeCells ⟨b, off, none⟩ vs).run P w = .ok () w' ∧ Ext X M ι w M ι w' ∧ Kp ι w σ ι w' (σ.set oo (.cells (putAt cs off (ds.map V.ng)))) ∧ St M ι X κ w' us ρ (σ.set oo (.cells (putAt cs off (ds.map V.ng)))) := by
  obtain ⟨O, hO, hor⟩ := h.wd.obj oo b hi
  rw [hcs] at hO; cases hO
  obtain ⟨ws, T, fz, hb, hr2, hfz, hM, hone2⟩ := hor
  have hwl : cs.length ≤ ws.size := by have := hr2.1; simp at this; omega
  have hvl : vs.length = ds.length := hr.1
  have hst := run_storeCells (P := P) b off T fz vs w ws 0 hb (by omega) (fun j h1 h2 => hfz j (by omega)) (reps_one hr hone)
  rw [Nat.add_zero] at hst
  have hso := h.setObj hi hcs hb hr.ng (by rw [List.length_map]; exact hle) (nogr_map_one hone) nogr_map_own
  refine ⟨_, hst, hso.2, ?_, hso.1⟩
  refine Kp.set h.wd hi hcs (fun c hc => by rw [setRow_heap, if_neg (Ne.symm hc)]) (fun i y hy hlk => ?_)
  rw [putAt_get cs off (ds.map V.ng) i (by rw [List.length_map]; exact hle)] at hy
  split at hy
  · obtain ⟨d', _, rfl⟩ := List.mem_map.1 (List.mem_of_getElem? hy)
    rw [nogr_lk] at hlk; cases hlk
  · rename_i hout
    refine ⟨hy, ?_⟩
    have hbl := h.wd.olt oo b hi
    rw [List.length_map] at hout
    rw [cell_row hb, cell_row (w := setRow w b (layA ws off vs) T fz) (ws := layA ws off vs) (T := T) (fz := fz) (by rw [setRow_heap, if_pos rfl, if_pos hbl]), layA_get vs ws off i (by omega), if_neg (by omega)]
theorem step_cpy (h : St M ι X κ w a.tmps.toList ρ σ) (hG : GOK G M ι) {o : Oper} {t tx e : TypeId} {p q : Operand} {x y : Arg} {str : Bool} {sz : Nat} {v : V} {σ' : Objs} (ho : o.op = .call { callee := .builtin .copy, args := #[p, q], argTypes := #[t, tx] })
    (ht : P.underlying t = some (.slice e)) (hz : szOf P e = some sz) (hsrc : chkSrc P str tx sz = true) (hp : chkArg p x = true) (hq : chkArg q y = true) {call : FuncId → List V → Objs → Option (V × Objs)} (he : evIns call (arg G ρ) (argT G ρ) σ (.cpy str sz x y) = some (v, σ')) :
    Left P a o M ι X w σ (put ρ o.dst v) σ' := by
  have hA := Opd.of_state h.rep hG
  have hvx := hA.ok _ _ hp
  have hvy := hA.ok _ _ hq
  simp only [evIns] at he
  split at he
  · rename_i oo off len s ag hxx
    simp only [Option.bind_eq_bind, Option.bind_eq_some_iff] at he
    obtain ⟨ys, hys, cs, hcs, he⟩ := he
    split at he
    · rename_i hcond
      obtain ⟨rfl, hle, hok, hin⟩ := hcond
      cases he
      rw [hxx] at hvx
      obtain ⟨b, cap, hxb, hi, hlc⟩ := hvx.inv_hs
      obtain ⟨vs, hS, hrv⟩ := src_of h.wd hsrc hvy hys hok
      have hfl := flat_len (okRow_spec hok).1
      obtain ⟨w', hst, hx', hk', hs'⟩ := h.layObj (P := P) (off := off) hi (get_cells hcs) hrv (by rw [hfl]; exact hin) (okRow_flat hok)
      refine ⟨_, .int .i64 ys.length, w', M, ι, κ, ?_, .inl rfl, ⟨hx', hk', fun hns => by rw [ho] at hns; cases hns⟩, hs'.putNone (.int _ _) rfl _⟩
      obtain ⟨dst, op, type, pos, after, guard⟩ := o
      simp only at ho
      subst ho
      rw [exec_copy]
      have hmin : Nat.min ys.length len = ys.length := Nat.min_eq_left hle
      have hrun : (Builtin.copy_ #[t, tx] type #[a.eval p, a.eval q]).run P w = .ok (.int .i64 ys.length) w' := by
        unfold Builtin.copy_
        simp only [List.getElem?_toArray, List.getElem?_cons_zero, List.getElem?_cons_succ, sem_bind_run, run_underlying ht, Result.andThen, hxb, hS.len w, hmin, run_sizeOf hz, hS.cells, hst, sem_pure_run]
        rfl
      rw [sem_bind_run]
      simp only [List.map_toArray, List.map_cons, List.map_nil, hrun, Result.andThen]
      rfl
    · cases he
  · cases he
theorem step_clr (h : St M ι X κ w a.tmps.toList ρ σ) (hG : GOK G M ι) {o : Oper} {t e : TypeId} {p : Operand} {x : Arg} {z : V} {sz : Nat} {v : V} {σ' : Objs} (ho : o.op = .call { callee := .builtin .clear, args := #[p], argTypes := #[t] })
    (ht : P.underlying t = some (.slice e)) (hz : szOf P e = some sz) (hzz : chkZero P e z = true) (hpos : sz ≠ 0) (hp : chkArg p x = true) {call : FuncId → List V → Objs → Option (V × Objs)} (he : evIns call (arg G ρ) (argT G ρ) σ (.clr sz z x) = some (v, σ')) :
    Left P a o M ι X w σ (put ρ o.dst v) σ' := by
  have hA := Opd.of_state h.rep hG
  have hvx := hA.ok _ _ hp
  have fin : ∀ {w' : World} {σ2 : Objs}, (Builtin.clear_ #[t] o.type #[a.eval p]).run P w = .ok (.tuple #[]) w' → Ext X M ι w M ι w' → Kp ι w σ ι w' σ2 → St M ι X κ w' a.tmps.toList ρ σ2 → Left P a o M ι X w σ (put ρ o.dst .undef) σ2 := by
    intro w' σ2 hrun hx hk hs
    refine ⟨_, .tuple #[], w', M, ι, κ, ?_, .inl rfl, ⟨hx, hk, fun hns => by rw [ho] at hns; cases hns⟩, hs.putNone .undef rfl _⟩
    obtain ⟨dst, op, type, pos, after, guard⟩ := o
    simp only at ho hrun
    subst ho
    rw [exec_clear, sem_bind_run]
    simp only [List.map_toArray, List.map_cons, List.map_nil, hrun, Result.andThen]
    rfl
  simp only [evIns] at he
  split at he
  · rename_i hxx
    cases he
    rw [hxx] at hvx
    cases hvx'' : a.eval p <;> rw [hvx''] at hvx <;> cases hvx
    refine fin ?_ (Ext.refl ..) (Kp.refl ..) h
    rw [hvx'']
    unfold Builtin.clear_
    simp only [List.getElem?_toArray, List.getElem?_cons_zero, sem_bind_run, run_underlying ht, Result.andThen, sem_pure_run]
  · rename_i oo off len s ag hxx
    simp only [Option.bind_eq_bind, Option.bind_eq_some_iff] at he
    obtain ⟨cs, hcs, he⟩ := he
    split at he
    · rename_i hcond
      obtain ⟨rfl, hzl, hin, hzok⟩ := hcond
      cases he
      rw [hxx] at hvx
      obtain ⟨b, cap, hxb, hi, hlc⟩ := hvx.inv_hs
      obtain ⟨i, zv, hi', his, hiz, hzs, hreps⟩ := zero_row (M := M) (ι := ι) (n := len) hzz hz hzl hpos
      have hzn : (List.replicate len z).flatMap V.cells = ((List.replicate len z).flatMap V.cells).map V.ng := by
        symm
        refine nogr_map_id fun c hc => ?_
        obtain ⟨q, hq, hy⟩ := List.mem_flatMap.1 hc
        rw [List.eq_of_mem_replicate hq] at hy
        unfold chkZero at hzz
        split at hzz
        · exact ((chkCells_reps (M := M) (ι := ι) hzz).2.1 c hy).2
        · cases hzz
      have hone : ∀ c ∈ (List.replicate len z).flatMap V.cells, c.one = true := fun c hc => by
        obtain ⟨q, hq, hy⟩ := List.mem_flatMap.1 hc
        rw [List.eq_of_mem_replicate hq] at hy
        exact ok_one hzok c hy
      have hfl : ((List.replicate len z).flatMap V.cells).length = len * s := by
        rw [flat_len (sz := s) fun q hq => by rw [List.eq_of_mem_replicate hq]; exact hzl, List.length_replicate]
      by_cases hl0 : len = 0
      · subst hl0
        have hsame : σ.set oo (.cells (putAt cs off ((List.replicate 0 z).flatMap V.cells))) = σ := by
          rw [show putAt cs off ((List.replicate 0 z).flatMap V.cells) = cs from by cases cs <;> cases off <;> rfl]
          exact set_same (get_cells hcs)
        rw [hsame]
        refine fin ?_ (Ext.refl ..) (Kp.refl ..) h
        rw [hxb]
        unfold Builtin.clear_
        simp only [List.getElem?_toArray, List.getElem?_cons_zero, sem_bind_run, run_underlying ht, Result.andThen, sem_pure_run]
      · obtain ⟨w', hst, hx', hk', hs'⟩ := h.layObj (P := P) (off := off) hi (get_cells hcs) hreps (by rw [hfl]; exact hin) hone
        rw [← hzn] at hk' hs'
        refine fin ?_ hx' hk' hs'
        rw [hxb]
        have hzv : (zeroValue e).run P w = .ok zv w := by
          unfold zeroValue
          simp only [sem_bind_run, run_typeInfo hi', Result.andThen, hiz]
          rfl
        have hzc : (Builtin.zeroCells zv.cells len).toList = ((Array.range (len * s)).map (zv.cells[· % zv.cells.size]!)).toList := by
          unfold Builtin.zeroCells
          rw [hzs]
        unfold Builtin.clear_
        cases len with
        | zero => exact absurd rfl hl0
        | succ len =>
          simp only [List.getElem?_toArray, List.getElem?_cons_zero, sem_bind_run, run_underlying ht, Result.andThen, hzv, hzc, hst, sem_pure_run]
    · cases he
  · cases he
theorem St.goneO (h : St M ι X κ w us ρ σ) (o : Nat) : St M ι X κ w us ρ (σ.set o .gone) ∧ ∀ w' : World, HK ι w w' → Kp ι w σ ι w' (σ.set o .gone) := by
  have hcs : ∀ q cs, (σ.set o .gone)[q]? = some (O.cells cs) → σ[q]? = some (O.cells cs) := fun q cs hq => by
    rw [List.getElem?_set] at hq
    split at hq
    · split at hq <;> cases hq
    · exact hq
  have hlive : ∀ q, (σ.set o .gone)[q]? ≠ some O.gone → σ[q]? ≠ some O.gone := fun q hq => by
    rw [List.getElem?_set] at hq
    split at hq
    · split at hq
      · exact absurd rfl hq
      · rename_i h1 h2; subst h1; rw [List.getElem?_eq_none (Nat.not_lt.1 h2)]; simp
    · exact hq
  have key : ∀ p v x, At ι w us ρ (σ.set o .gone) p v x → At ι w us ρ σ p v x := by
    intro p v x ha
    cases p with
    | s i => exact ha
    | c q i =>
      obtain ⟨b', ws, T, fz, cs, g1, g2, g3, g4⟩ := ha
      exact ⟨b', ws, T, fz, cs, g1, g2, hcs _ _ g3, g4⟩
  refine ⟨⟨⟨h.wd.mem, fun q c hq => ?_, h.wd.olt, fun q q' c g1 g2 g3 g4 => h.wd.inj q q' c g1 g2 (hlive q g3) (hlive q' g4), h.wd.xlt, h.wd.xobj, h.wd.kap, h.wd.szs⟩, h.rep, fun p v x c ha hc => h.own p v x c (key p v x ha) hc, fun p v x ha => h.gr p v x (key p v x ha)⟩,
    fun w' hk => ⟨by simp, fun _ _ => rfl, fun q c i hq hl => ?_⟩⟩
  · obtain ⟨Oq, hOq, hr⟩ := h.wd.obj q c hq
    rw [List.getElem?_set]
    split
    · rename_i he
      subst he
      rw [if_pos (List.getElem?_eq_some_iff.1 hOq).1]
      exact ⟨.gone, rfl, trivial⟩
    · exact ⟨Oq, hOq, hr⟩
  · obtain ⟨cs, x, h1, h2⟩ := hl
    exact ⟨⟨cs, x, hcs _ _ h1, h2⟩, by unfold World.cell?; rw [hk q c hq]⟩
theorem ObjRep.monoI {ι' : Plc} (hι : PlcLe ι ι') {b : Nat} {O : O} (h : ObjRep M ι w b O) : ObjRep M ι' w b O := by
  cases O with
  | cells cs =>
    obtain ⟨ars, T', fz', h1, h2, h3⟩ := h
    exact ⟨ars, T', fz', h1, h2.mono (.refl _) hι, h3⟩
  | mp es =>
    obtain ⟨en, k, h1, h2⟩ := h
    exact ⟨en, k, h1, h2.1, fun i e p he hp => ⟨(h2.2 i e p he hp).1.mono (.refl _) hι, (h2.2 i e p he hp).2.mono (.refl _) hι⟩⟩
  | si r pos => exact h
  | gone => trivial
def Pl.tr (o n : Nat) : Pl → Pl
  | .c q i => if q = o then .c n i else .c q i
  | p => p
theorem St.rehome (h : St M ι X κ w us ρ σ) {o b b2 : Nat} {cs ds : List V} (hi : ι o = some b) (ho : σ[o]? = some (.cells cs)) {ws ws2 : Array Value} {T T2 : TypeId} {fz fz2 : Nat × Nat} (hb : w.heap[b]? = some (.cells ws T fz))
    (hb2 : w.heap[b2]? = some (.cells ws2 T2 fz2)) (hfz : ∀ i, i < ws2.size → frozenAt fz2 i = false) (hM : ∀ i, M b2 i = none) (hX : ¬ X b2) (hfree : b2 = b ∨ ∀ q, ι q ≠ some b2) (hk : ∀ p, κ b2 ≠ some p) (hsame : ∀ i, i < cs.length → ws2[i]? = ws[i]?)
    (hr : Reps M ι (ws2.toList.take (cs ++ ds).length) (cs ++ ds)) (hone : ∀ c ∈ ds, c.one = true) (hno : ∀ c ∈ ds, ∀ v, ownB v c = none) :
    ∃ ι' κ', PlcLe ι ι' ∧ ι' σ.length = some b2 ∧ ι'.sz b2 = some ws2.size ∧ Kp ι w σ ι' w (σ.set o .gone ++ [.cells (cs ++ ds)]) ∧ St M ι' X κ' w us ρ (σ.set o .gone ++ [.cells (cs ++ ds)]) := by
  have hol : o < σ.length := (List.getElem?_eq_some_iff.1 ho).1
  have hι0 := h.wd.none_of_ge (Nat.le_refl σ.length)
  have hat : ∀ q, ι.more σ.length b2 (some ws2.size) q = if q = σ.length then some b2 else ι q := fun q => rfl
  have hι : PlcLe ι (ι.more σ.length b2 (some ws2.size)) := ⟨fun q c hc => by
    rw [hat]
    by_cases hq : q = σ.length
    · subst hq; rw [hι0] at hc; cases hc
    · rw [if_neg hq]; exact hc, fun c n hc => by
    rw [more_sz]
    by_cases hcb : c = b2
    · subst hcb
      obtain ⟨_, ars, T', fz', h1, h2, _⟩ := h.wd.szs _ n hc
      rw [hb2] at h1; cases h1
      rw [if_pos rfl, h2]
    · rw [if_neg hcb]; exact hc⟩
  obtain ⟨O, hO, hor⟩ := h.wd.obj o b hi
  rw [ho] at hO; cases hO
  obtain ⟨ars, T', fz', h1, h2, h3, h4, h5⟩ := hor
  rw [hb] at h1; cases h1
  have hold : ∀ q c, q ≠ o → ι q = some c → σ[q]? ≠ some O.gone → b2 ≠ c := fun q c hq hc hlv e => by
    rcases hfree with rfl | hf
    · exact hq (h.wd.inj q o c hc (e ▸ hi) hlv (by rw [ho]; simp))
    · exact hf q (e ▸ hc)
  have hlen : (σ.set o .gone).length = σ.length := by simp
  have hcs : ∀ q cs', q ≠ σ.length → (σ.set o .gone ++ [O.cells (cs ++ ds)])[q]? = some (O.cells cs') → q ≠ o ∧ σ[q]? = some (O.cells cs') := fun q cs' hq hx => by
    rw [List.getElem?_append] at hx
    split at hx
    · rw [List.getElem?_set] at hx
      split at hx
      · first | (cases hx; done) | (split at hx <;> cases hx)
      · rename_i he; exact ⟨fun e => he e.symm, hx⟩
    · rename_i hge
      have := (List.getElem?_eq_some_iff.1 hx).1
      rw [hlen] at hge this
      simp at this
      omega
  have hlive : ∀ q, q ≠ σ.length → ι q ≠ none → (σ.set o .gone ++ [O.cells (cs ++ ds)])[q]? ≠ some O.gone → q ≠ o ∧ σ[q]? ≠ some O.gone := fun q hq hd hx => by
    have hlt : q < σ.length := by
      cases hc : ι q with
      | none => exact absurd hc hd
      | some c => exact h.wd.lt_of hc
    rw [List.getElem?_append_left (by rw [hlen]; exact hlt), List.getElem?_set] at hx
    split at hx
    · first | exact absurd rfl hx | (split at hx <;> first | exact absurd rfl hx | (rename_i h1 h2; exact absurd (by omega) h2))
    · rename_i he; exact ⟨fun e => he e.symm, hx⟩
  have key : ∀ p v x, At (ι.more σ.length b2 (some ws2.size)) w us ρ (σ.set o .gone ++ [.cells (cs ++ ds)]) p v x → (∃ p', At ι w us ρ σ p' v x ∧ p = p'.tr o σ.length) ∨ ownB v x = none := by
    intro p v x ha
    cases p with
    | s i => exact .inl ⟨.s i, ha, rfl⟩
    | c q i =>
      obtain ⟨b', ws', T', fz', cs', g1, g2, g3, g4, g5⟩ := ha
      rw [hat] at g1
      by_cases hq : q = σ.length
      · subst hq
        rw [if_pos rfl] at g1; cases g1
        rw [hb2] at g2; cases g2
        rw [List.getElem?_append_right (by simp), hlen, Nat.sub_self] at g3
        cases g3
        rw [List.getElem?_append] at g5
        split at g5
        · rename_i hlt
          exact .inl ⟨.c o i, ⟨b, ws, T, fz, cs, hi, hb, ho, by rw [← hsame i hlt]; exact g4, g5⟩, by simp [Pl.tr]⟩
        · exact .inr (hno x (List.mem_of_getElem? g5) v)
      · rw [if_neg hq] at g1
        obtain ⟨hqo, hsq⟩ := hcs q cs' hq g3
        exact .inl ⟨.c q i, ⟨b', ws', T', fz', cs', g1, g2, hsq, g4, g5⟩, by simp [Pl.tr, hqo]⟩
  refine ⟨ι.more σ.length b2 (some ws2.size), fun c => (κ c).map (Pl.tr o σ.length), hι, by rw [hat, if_pos rfl], by rw [more_sz, if_pos rfl], ⟨by simp, fun q hq => by rw [hat, if_neg (by omega)], fun q c i hq hlk => ?_⟩,
    ⟨⟨h.wd.mem, fun q c hq => ?_, fun q c hq => ?_, fun q q' c g1 g2 g3 g4 => ?_, h.wd.xlt, fun q c hq => ?_, fun c p hp => ?_, fun c n hz => ?_⟩, h.rep.mono (.refl _) hι, fun p v x c ha hc => ?_, fun p v x ha => ?_⟩⟩
  · obtain ⟨cs', x, g1, g2⟩ := hlk
    have hlt := h.wd.lt_of hq
    obtain ⟨hqo, hsq⟩ := hcs q cs' (by omega) g1
    exact ⟨⟨cs', x, hsq, g2⟩, rfl⟩
  · rw [hat] at hq
    by_cases hqq : q = σ.length
    · subst hqq
      rw [if_pos rfl] at hq; cases hq
      have hl2 : (cs ++ ds).length ≤ ws2.size := by have := hr.1; simp at this ⊢; omega
      refine ⟨.cells (cs ++ ds), by rw [List.getElem?_append_right (by simp), hlen, Nat.sub_self]; rfl, ws2, T2, fz2, hb2, hr.mono (.refl _) hι, fun i hi' => hfz i (by omega), hM, fun c hc => ?_⟩
      rcases List.mem_append.1 hc with hc | hc
      · exact h5 c hc
      · exact hone c hc
    · rw [if_neg hqq] at hq
      obtain ⟨Oq, hOq, hrq⟩ := h.wd.obj q c hq
      have hlt := h.wd.lt_of hq
      rw [List.getElem?_append_left (by rw [hlen]; exact hlt), List.getElem?_set]
      split
      · exact ⟨.gone, by first | rfl | rw [if_pos (by omega)], trivial⟩
      · exact ⟨Oq, hOq, hrq.monoI hι⟩
  · rw [hat] at hq
    split at hq
    · cases hq; exact (Array.getElem?_eq_some_iff.1 hb2).1
    · exact h.wd.olt q c hq
  · rw [hat] at g1 g2
    by_cases hq : q = σ.length
    · by_cases hq' : q' = σ.length
      · rw [hq, hq']
      · rw [if_pos hq] at g1; rw [if_neg hq'] at g2
        cases g1
        obtain ⟨h6, h7⟩ := hlive q' hq' (by rw [g2]; simp) g4
        exact absurd rfl (hold q' _ h6 g2 h7)
    · by_cases hq' : q' = σ.length
      · rw [if_neg hq] at g1; rw [if_pos hq'] at g2
        cases g2
        obtain ⟨h6, h7⟩ := hlive q hq (by rw [g1]; simp) g3
        exact absurd rfl (hold q _ h6 g1 h7)
      · rw [if_neg hq] at g1; rw [if_neg hq'] at g2
        exact h.wd.inj q q' c g1 g2 (hlive q hq (by rw [g1]; simp) g3).2 (hlive q' hq' (by rw [g2]; simp) g4).2
  · rw [hat] at hq
    split at hq
    · cases hq; exact hX
    · exact h.wd.xobj q c hq
  · rw [Option.map_eq_some_iff] at hp
    obtain ⟨p', hp', rfl⟩ := hp
    obtain ⟨k1, k2, k3⟩ := h.wd.kap c p' hp'
    refine ⟨k1, fun q hq => ?_, k3⟩
    rw [hat] at hq
    split at hq
    · cases hq; exact hk _ hp'
    · exact k2 q hq
  · rw [more_sz] at hz
    by_cases hcb : c = b2
    · subst hcb
      rw [if_pos rfl] at hz; cases hz
      exact ⟨⟨σ.length, by rw [hat, if_pos rfl]⟩, ws2, T2, fz2, hb2, rfl, hfz⟩
    · rw [if_neg hcb] at hz
      obtain ⟨⟨q, hq⟩, hrest⟩ := h.wd.szs c n hz
      exact ⟨⟨q, hι.le q c hq⟩, hrest⟩
  · rcases key p v x ha with ⟨p', ha', rfl⟩ | hn
    · show (κ c).map (Pl.tr o σ.length) = _
      rw [h.own p' v x c ha' hc]; rfl
    · rw [hn] at hc; cases hc
  · rcases key p v x ha with ⟨p', ha', rfl⟩ | hn
    · exact h.gr p' v x ha'
    · exact .of_none hn
theorem St.spare (h : St M ι X κ w us ρ σ) {o b : Nat} {cs : List V} (hi : ι o = some b) (ho : σ[o]? = some (.cells cs)) {ws : Array Value} {T : TypeId} {fz : Nat × Nat} (hb : w.heap[b]? = some (.cells ws T fz)) {vs : List Value} (hl : cs.length + vs.length ≤ ws.size) :
    Ext X M ι w M ι (setRow w b (layA ws cs.length vs) T fz) ∧ Kp ι w σ ι (setRow w b (layA ws cs.length vs) T fz) σ ∧ St M ι X κ (setRow w b (layA ws cs.length vs) T fz) us ρ σ := by
  have hX := h.wd.xobj o b hi
  have hbl := h.wd.olt o b hi
  obtain ⟨O, hO, hor⟩ := h.wd.obj o b hi
  rw [ho] at hO; cases hO
  obtain ⟨ars, T', fz', h1, h2, h3, h4, h5⟩ := hor
  rw [hb] at h1; cases h1
  have hget : ∀ j, j < cs.length → (layA ws cs.length vs)[j]? = ws[j]? := fun j hj => by rw [layA_get vs ws cs.length j (by omega), if_neg (by omega)]
  have hother : ∀ q c, q ≠ o → ι q = some c → σ[q]? ≠ some O.gone → b ≠ c := fun q c hq hc hlv e => hq (h.wd.inj q o c hc (e ▸ hi) hlv (by rw [ho]; simp))
  have key : ∀ p v x, At ι (setRow w b (layA ws cs.length vs) T fz) us ρ σ p v x → At ι w us ρ σ p v x := by
    intro p v x ha
    cases p with
    | s i => exact ha
    | c q i =>
      obtain ⟨b', ws', T', fz', cs', g1, g2, g3, g4, g5⟩ := ha
      by_cases hq : q = o
      · subst hq
        rw [hi] at g1; cases g1
        rw [setRow_heap, if_pos rfl, if_pos hbl] at g2; cases g2
        rw [ho] at g3; cases g3
        rw [hget i (List.getElem?_eq_some_iff.1 g5).1] at g4
        exact ⟨b, ws, T, fz, cs, hi, hb, ho, g4, g5⟩
      · rw [setRow_heap, if_neg (hother q b' hq g1 (by rw [g3]; simp))] at g2
        exact ⟨b', ws', T', fz', cs', g1, g2, g3, g4, g5⟩
  have hcell : ∀ q c cs', ι q = some c → σ[q]? = some (.cells cs') → ∀ i, i < cs'.length → (setRow w b (layA ws cs.length vs) T fz).cell? ⟨c, i, none⟩ = w.cell? ⟨c, i, none⟩ := fun q c cs' hq hs i hlt => by
    by_cases hqo : q = o
    · subst hqo
      rw [hi] at hq; cases hq
      rw [ho] at hs; cases hs
      rw [cell_row hb, cell_row (w := setRow w b (layA ws cs.length vs) T fz) (ws := layA ws cs.length vs) (T := T) (fz := fz) (by rw [setRow_heap, if_pos rfl, if_pos hbl]), hget i hlt]
    · unfold World.cell?
      rw [setRow_heap, if_neg (hother q c hqo hq (by rw [hs]; simp))]
  refine ⟨Ext.setRow hX _ _ _, ⟨Nat.le_refl _, fun _ _ => rfl, fun q c i hq hl => ⟨hl, ?_⟩⟩,
    ⟨⟨fun c i u hm => ?_, fun q c hq => ?_, fun q c hq => by rw [setRow_size]; exact h.wd.olt q c hq, h.wd.inj, fun c hc => by rw [setRow_size]; exact h.wd.xlt c hc, h.wd.xobj, fun c p hp => by rw [setRow_size]; exact h.wd.kap c p hp, fun c n hz => h.wd.szs_row hb (layA_size _ _ _) c n hz⟩,
      h.rep, fun p v x c ha hc => h.own p v x c (key p v x ha) hc, fun p v x ha => (h.gr p v x (key p v x ha)).setRow fun c hc => fun e => ?_⟩⟩
  · obtain ⟨cs', x, g1, g2, _⟩ := hl
    exact hcell q c cs' hq g1 i (List.getElem?_eq_some_iff.1 g2).1
  · have hcb : b ≠ c := fun e => by subst e; rw [h4 i] at hm; cases hm
    have := h.wd.mem c i u hm
    simp only [World.cell?, setRow_heap, if_neg hcb]
    simpa [World.cell?] using this
  · obtain ⟨Oq, hOq, hrq⟩ := h.wd.obj q c hq
    refine ⟨Oq, hOq, ?_⟩
    by_cases hqo : q = o
    · subst hqo
      rw [hi] at hq; cases hq
      rw [ho] at hOq; cases hOq
      refine ⟨layA ws cs.length vs, T, fz, by rw [setRow_heap, if_pos rfl, if_pos hbl], ?_, h3, h4, h5⟩
      have : (layA ws cs.length vs).toList.take cs.length = ws.toList.take cs.length := by
        apply List.ext_getElem?
        intro j
        rw [List.getElem?_take, List.getElem?_take]
        split
        · rw [Array.getElem?_toList, Array.getElem?_toList, hget j (by assumption)]
        · rfl
      rw [this]; exact h2
    · by_cases hg : Oq = .gone
      · subst hg; trivial
      · exact hrq.setRow (hother q c hqo hq (by rw [hOq]; simpa using hg))
  · subst e
    exact (h.wd.kap _ _ (h.own p v x _ (key p v x ha) hc)).2.1 o hi
theorem step_appG (h : St M ι X κ w a.tmps.toList ρ σ) (hG : GOK G M ι) {o : Oper} {p q : Operand} {x y : Arg} {str ag : Bool} {sz bytes : Nat} {t tx : TypeId} {v : V} {σ' : Objs}
    (ho : o.op = .call { callee := .builtin .append, args := #[p, q], argTypes := #[t, tx] }) (hp : chkArg p x = true) (hq : chkArg q y = true) (ht : okTk x true = true) (hc : chkApp P str ag sz bytes t tx = true)
    {call : FuncId → List V → Objs → Option (V × Objs)} (he : evIns call (arg G ρ) (argT G ρ) σ (.appG str ag sz bytes x y) = some (v, σ')) : Left P a o M ι X w σ (put (unslot ρ x true) o.dst v) σ' := by
  have hA := Opd.of_state h.rep hG
  have hvx := chkArg_rep h.rep hG hp
  have hvy := hA.ok _ _ hq
  obtain ⟨e, i, hel, hu, hi, his, hz, hby, hsz, hb0, hsrc⟩ := chkApp_spec hc
  obtain ⟨zv, hzv, hzs⟩ := hz
  have hiz : i.zero = some zv := by unfold zeroOf at hzv; rw [hi] at hzv; exact hzv
  have hib : i.bytes = bytes := by rw [hi] at hby; simpa using hby
  subst his hib
  have lift : ∀ {u : Value} {w' : World}, (Builtin.append_ #[t, tx] o.type #[a.eval p, a.eval q]).run P w = .ok u w' → (execOp a.eval o).run P w = .ok (.value u) w' := by
    intro u w' hrun
    obtain ⟨dst, op, type, pos, after, guard⟩ := o
    simp only at ho hrun
    subst ho
    rw [exec_append, sem_bind_run]
    simp only [List.map_toArray, List.map_cons, List.map_nil, hrun, Result.andThen]
    rfl
  have drop : ∀ {M' : Mem} {ι' : Plc} {κ' : Own} {w' : World} {σ2 : Objs}, St M' ι' X κ' w' a.tmps.toList ρ σ2 → St M' ι' X κ' w' a.tmps.toList (unslot ρ x true) σ2 := by
    intro M' ι' κ' w' σ2 hs
    unfold unslot
    split
    · exact hs.dropSlot _
    · exact hs
  have fin : ∀ {u : Value} {x' : V} {w' : World} {M' : Mem} {ι' : Plc} {κ' : Own} {σ2 : Objs}, (Builtin.append_ #[t, tx] o.type #[a.eval p, a.eval q]).run P w = .ok u w' → Ext X M ι w M' ι' w' → Kp ι w σ ι' w' σ2 → St M' ι' X κ' w' a.tmps.toList ρ σ2 → Rep M' ι' u x' → ownB u x' = none →
      Left P a o M ι X w σ (put (unslot ρ x true) o.dst x') σ2 :=
    fun h1 h2 hk h3 h4 h5 => ⟨_, _, _, _, _, _, lift h1, .inl rfl, ⟨h2, hk, fun hns => by rw [ho] at hns; cases hns⟩, (drop h3).putNone h4 h5 _⟩
  simp only [evIns, Option.bind_eq_bind, Option.bind_eq_some_iff] at he
  obtain ⟨ys, hys, he⟩ := he
  split at he
  · rename_i oo len s ag' hT
    rw [hT] at hvx
    simp only [Option.bind_eq_some_iff] at he
    obtain ⟨cs, hcs, he⟩ := he
    split at he
    · rename_i hcond
      obtain ⟨rfl, hok, hcl, hle⟩ := hcond
      have hcs' := get_cells hcs
      obtain ⟨vs, hS, hrv⟩ := src_of h.wd hsrc hvy hys hok
      have hyl := (okRow_spec hok).1
      have hvl : vs.length = ys.length * i.size := hS.newsLen
      generalize hpv : a.eval p = pv at hvx
      cases hvx with
      | hg _ _ _ _ b cap n hi' hn hlc hr =>
      obtain ⟨_, ws, T, fz, hb, hwn, hfz⟩ := h.wd.szs b n hn
      obtain ⟨O, hO, hor⟩ := h.wd.obj oo b hi'
      rw [hcs'] at hO; cases hO
      obtain ⟨ars, T', fz', h1, h2, h3, h4, h5⟩ := hor
      rw [hb] at h1; cases h1
      cases hyc : ys with
      | nil =>
        rw [hyc] at he hS
        simp only [Option.some.injEq, Prod.mk.injEq] at he
        obtain ⟨rfl, rfl⟩ := he
        have hvn : vs = [] := List.length_eq_zero_iff.1 (by rw [hvl, hyc]; simp)
        rw [hvn] at hS
        exact fin (by rw [hpv]; exact run_app_nothing hu hi hS hlc) (Ext.refl ..) (Kp.refl ..) h (.hg _ _ _ _ b cap n hi' hn hlc hr) rfl
      | cons y0 yr =>
        rw [hyc] at he
        simp only [Option.some.injEq, Prod.mk.injEq] at he
        obtain ⟨rfl, rfl⟩ := he
        rw [← hyc]
        have hypos : 0 < ys.length := by rw [hyc]; simp
        have hone := okRow_flat hok
        have hfly := flat_len hyl
        by_cases hroom : len + ys.length ≤ cap
        ·
          have hend : cs.length + vs.length ≤ ws.size := by
            rw [hcl, hvl, ← Nat.add_mul, hwn]
            exact Nat.le_trans (Nat.mul_le_mul_right _ hroom) hr
          have hrun := run_app_room (P := P) (ty := o.type) hu hi hS hroom hb (off := 0) (by rw [Nat.zero_add, ← hcl]; exact hend) (fun j _ hj => hfz j (by omega))
          rw [Nat.zero_add, ← hcl] at hrun
          obtain ⟨hx1, hk1, hs1⟩ := h.spare hi' hcs' hb hend
          have hbl := h.wd.olt oo b hi'
          have hb1 : (setRow w b (layA ws cs.length vs) T fz).heap[b]? = some (.cells (layA ws cs.length vs) T fz) := by rw [setRow_heap, if_pos rfl, if_pos hbl]
          have hget : ∀ j, (layA ws cs.length vs)[j]? = if cs.length ≤ j ∧ j < cs.length + vs.length then vs[j - cs.length]? else ws[j]? := fun j => layA_get vs ws cs.length j hend
          obtain ⟨ι', κ', hι, hin, hsn, hk2, hs2⟩ := hs1.rehome (ds := (ys.flatMap V.cells).map V.ng) hi' hcs' hb1 hb1 (fun j hj => hfz j (by rw [layA_size] at hj; omega)) h4 (h.wd.xobj oo b hi') (.inl rfl) (fun p' hp' => (h.wd.kap b p' hp').2.1 oo hi') (fun _ _ => rfl)
            (by
              have hlz : (layA ws cs.length vs).toList.length = ws.size := by rw [Array.length_toList]; exact layA_size _ _ _
              refine ⟨by rw [List.length_take, hlz, List.length_append, List.length_map, hfly, ← hvl]; exact Nat.min_eq_left hend, fun j u c hju hjc => ?_⟩
              rw [List.getElem?_take] at hju
              split at hju
              · rename_i hlt
                rw [Array.getElem?_toList, hget j] at hju
                rw [List.getElem?_append] at hjc
                by_cases hjl : j < cs.length
                · rw [if_pos hjl] at hjc
                  rw [if_neg (by omega)] at hju
                  exact h2.2 j u c (by rw [List.getElem?_take, if_pos hjl]; simpa using hju) hjc
                · rw [if_neg hjl] at hjc
                  rw [List.length_append, List.length_map, hfly, ← hvl] at hlt
                  rw [if_pos ⟨by omega, by omega⟩] at hju
                  exact hrv.ng.2 _ u c hju hjc
              · cases hju) (nogr_map_one hone) nogr_map_own
          have hx2 : Ext X M ι w M ι' (setRow w b (layA ws cs.length vs) T fz) := ⟨hx1.m, hι, hx1.mX, hx1.size, hx1.keep, hx1.os, hx1.tape, hx1.output⟩
          exact fin (by rw [hpv]; exact hrun) hx2 (hk1.trans (.refl _) hk2) hs2 (.hg _ _ _ _ b cap _ hin hsn hroom (by rw [layA_size, hwn]; exact hr)) rfl
        ·
          have hfit : Builtin.nextslicecap (len + ys.length) cap * i.bytes ≤ 281474976710656 := growslice_fits (by omega) hle
          have holds : (Builtin.firstCells i.size len (.slice (some ⟨b, 0, none⟩) len cap)).run P w.drew = .ok ((ws.toList.take cs.length)).toArray w.drew := by
            refine run_firstCells (cap := cap) (by rw [h2.1, hcl]) (fun j u hju => ?_) len
            rw [List.getElem?_take] at hju
            split at hju
            · show w.drew.cell? ⟨b, 0 + j, none⟩ = some u
              rw [Nat.zero_add]
              have := cell_row hb j
              rw [show w.drew.cell? ⟨b, j, none⟩ = w.cell? ⟨b, j, none⟩ from rfl, this]
              simpa using hju
            · cases hju
          have hrun := run_append_grow_src (P := P) w t tx o.type e i zv hu hi hiz (some ⟨b, 0, none⟩) len cap _ holds (a.eval q) ys.length vs hS (by omega) (by have := le_max hle hb0; omega) hfit
          have hcap := grownCap_ge w (len + ys.length) cap e
          have hzc := size_zeroCells zv.cells (grownCap w (len + ys.length) cap e - (len + ys.length))
          have hd := h.drew
          have hpush := hd.push (.cells ((ws.toList.take cs.length ++ vs).toArray ++ Builtin.zeroCells zv.cells (grownCap w (len + ys.length) cap e - (len + ys.length))) e (0, 0)) [] (fun i u hu => by simp at hu)
          have hol : (ws.toList.take cs.length).length = cs.length := h2.1
          generalize hW : (Obj.cells ((ws.toList.take cs.length ++ vs).toArray ++ Builtin.zeroCells zv.cells (grownCap w (len + ys.length) cap e - (len + ys.length))) e (0, 0)) = ob at hpush
          have hb2 : (pushB { w with drawn := w.drawn + 1 } ob).heap[w.heap.size]? = some (.cells ((ws.toList.take cs.length ++ vs).toArray ++ Builtin.zeroCells zv.cells (grownCap w (len + ys.length) cap e - (len + ys.length))) e (0, 0)) := (pushB_new _ _).trans (by rw [← hW])
          have hbl := h.wd.olt oo b hi'
          have hb1 : (pushB { w with drawn := w.drawn + 1 } ob).heap[b]? = some (.cells ws T fz) := (pushB_old _ ob (c := b) hbl).trans hb
          have hM := hd.wd.pushM_le []
          have hnew : ∀ j, j < cs.length → ((ws.toList.take cs.length ++ vs).toArray ++ Builtin.zeroCells zv.cells (grownCap w (len + ys.length) cap e - (len + ys.length)))[j]? = ws[j]? := fun j hj => by
            have hll : ((ws.toList.take cs.length ++ vs).toArray).toList = ws.toList.take cs.length ++ vs := rfl
            rw [← Array.getElem?_toList, Array.toList_append, hll, List.getElem?_append_left (by rw [List.length_append, hol]; omega), List.getElem?_append_left (by rw [hol]; exact hj), List.getElem?_take, if_pos hj, Array.getElem?_toList]
          obtain ⟨ι', κ', hι, hin, hsn, hk2, hs2⟩ := hpush.rehome (fz2 := (0, 0)) (ds := (ys.flatMap V.cells).map V.ng) hi' hcs' hb1 hb2 (fun j _ => by unfold frozenAt; simp) (fun j => by show pushM M w.heap.size [] w.heap.size j = none; rw [pushM_new]; simp)
            (fun hx => by have := h.wd.xlt _ hx; omega) (.inr fun q' hq' => inew h.wd q' hq') (fun p' hp' => by have := (h.wd.kap _ p' hp').2.2; omega) hnew
            (by
              have e1 : (((ws.toList.take cs.length ++ vs).toArray ++ Builtin.zeroCells zv.cells (grownCap w (len + ys.length) cap e - (len + ys.length))).toList.take (cs ++ (ys.flatMap V.cells).map V.ng).length) = ws.toList.take cs.length ++ vs := by
                rw [Array.toList_append, show ((ws.toList.take cs.length ++ vs).toArray).toList = ws.toList.take cs.length ++ vs from rfl, List.length_append, List.length_map, hfly, ← hvl]
                have h9 : cs.length + vs.length = (ws.toList.take cs.length ++ vs).length := by rw [List.length_append, hol]
                rw [h9]
                exact List.take_left
              rw [e1]
              exact (h2.append hrv.ng).mono hM (.refl _)) (nogr_map_one hone) nogr_map_own
          have hx2 : Ext X M ι w (pushM M w.heap.size []) ι' (pushB { w with drawn := w.drawn + 1 } ob) := by
            have hx1 := (Ext.drew X M ι w).trans (Ext.push hd.wd ob [])
            exact ⟨hx1.m, hι, hx1.mX, hx1.size, hx1.keep, hx1.os, hx1.tape, hx1.output⟩
          have hsize : ((ws.toList.take cs.length ++ vs).toArray ++ Builtin.zeroCells zv.cells (grownCap w (len + ys.length) cap e - (len + ys.length))).size = grownCap w (len + ys.length) cap e * i.size := by
            rw [Array.size_append, hzc, hzs, List.size_toArray, List.length_append, hol, hvl, hcl, ← Nat.add_mul, ← Nat.add_mul]
            congr 1
            omega
          refine fin (u := .slice (some ⟨w.heap.size, 0, none⟩) (len + ys.length) (grownCap w (len + ys.length) cap e)) (by rw [hpv, ← hW]; exact hrun) hx2 (Kp.trans (Kp.same _ _ (h.wd.hkPush ob _)) (.refl _) hk2) hs2 (.hg _ _ _ _ w.heap.size _ _ hin hsn hcap (Nat.le_of_eq hsize.symm)) rfl
    · cases he
  · rename_i hT
    rw [hT] at hvx
    generalize hpv : a.eval p = pv at hvx
    cases hvx
    split at he
    · cases he
      have hok : okRow ag i.size [] = true := rfl
      obtain ⟨vs, hS, hrv⟩ := src_of h.wd hsrc hvy hys hok
      have hS' := src_nil (str := str) hS rfl
      exact fin (by rw [hpv]; exact run_app_nothing hu hi hS' (Nat.le_refl _)) (Ext.refl ..) (Kp.refl ..) h .nils rfl
    · rename_i y0 yr
      split at he
      · rename_i hcond
        obtain ⟨hok, hle⟩ := hcond
        cases he
        generalize hyc : y0 :: yr = ys at hys hok hle
        have hypos : 0 < ys.length := by rw [← hyc]; simp
        obtain ⟨vs, hS, hrv⟩ := src_of h.wd hsrc hvy hys hok
        have hyl := (okRow_spec hok).1
        have hvl : vs.length = ys.length * i.size := hS.newsLen
        have hone := okRow_flat hok
        have hfly := flat_len hyl
        have hfit : Builtin.nextslicecap (0 + ys.length) 0 * i.bytes ≤ 281474976710656 := growslice_fits (by omega) (by rw [Nat.zero_add]; exact hle)
        have hrun := run_append_grow_src (P := P) w t tx o.type e i zv hu hi hiz none 0 0 [] rfl (a.eval q) ys.length vs hS (by omega) (by have := le_max hle hb0; omega) hfit
        have hcap := grownCap_ge w (0 + ys.length) 0 e
        have hzc := size_zeroCells zv.cells (grownCap w (0 + ys.length) 0 e - (0 + ys.length))
        obtain ⟨M', ι', hx', hin, hs', hdm, hsn⟩ := h.drew.newObj (h.wd.none_of_ge (Nat.le_refl _)) (([] ++ vs).toArray ++ Builtin.zeroCells zv.cells (grownCap w (0 + ys.length) 0 e - (0 + ys.length))) e (0, 0) ((ys.flatMap V.cells).map V.ng)
          (by
            have e1 : ((([] ++ vs).toArray ++ Builtin.zeroCells zv.cells (grownCap w (0 + ys.length) 0 e - (0 + ys.length))).toList.take ((ys.flatMap V.cells).map V.ng).length) = vs := by
              rw [Array.toList_append, show (([] ++ vs : List Value).toArray).toList = vs from rfl, List.length_map, hfly, ← hvl]
              exact List.take_left
            rw [e1]; exact hrv.ng) (fun j _ => by unfold frozenAt; simp) (nogr_map_one hone) nogr_map_own
        have hsize : (([] ++ vs).toArray ++ Builtin.zeroCells zv.cells (grownCap w (0 + ys.length) 0 e - (0 + ys.length))).size = grownCap w (0 + ys.length) 0 e * i.size := by
          rw [Array.size_append, hzc, hzs, List.size_toArray, List.nil_append, hvl, ← Nat.add_mul]
          congr 1
          omega
        rw [Nat.zero_add] at hrun hcap hsize
        refine fin (by rw [hpv]; rw [Nat.zero_add] at *; exact hrun) ((Ext.drew X M ι w).trans hx') (Kp.newObj h.wd (h.wd.hkPush _ _) hdm _) hs' (.hg _ _ _ _ w.heap.size _ _ hin hsn hcap (by rw [← hsize]; simp)) rfl
      · cases he
  · cases he
end
end Go.Ev
set_option linter.unusedSimpArgs false
set_option linter.unusedVariables false
namespace Go.Ev
open Go
def isCall : Ins → Bool
  | .call .. | .callv .. | .calli .. | .callT .. => true
  | _ => false
section
variable {P : Program} {M : Mem} {ι : Plc} {X : Nat → Prop} {κ : Own} {w : World} {ρ : List V} {σ : Objs} {G : GV} {a : Act}
theorem step_pure (h : St M ι X κ w a.tmps.toList ρ σ) (hG : GOK G M ι) {o : Oper} {i : Ins} {v : V} {σ' : Objs} (hc : chkIns P o.op i = true) (hns : ∀ y, i ≠ .conv .strBytes y)
    (he : (do let v ← evPure (arg G ρ) σ i; some (v.ng, σ)) = some (v, σ')) : Left P a o M ι X w σ (put ρ o.dst v) σ' := by
  simp only [Option.bind_eq_bind, Option.bind_eq_some_iff, Option.some.injEq, Prod.mk.injEq] at he
  obtain ⟨x, hx, rfl, rfl⟩ := he
  obtain ⟨u, hrun, hr⟩ := run_pure h.wd (Opd.of_state h.rep hG) hc hns hx
  exact left_value hrun (h.putNone hr.ng (ownB_nogr _ _) _)
theorem step_all (h : St M ι X κ w a.tmps.toList ρ σ) (hG : GOK G M ι) {o : Oper} {s : Step} (hd : o.dst = s.dst) (hc : chkIns P o.op s.ins = true) (hn : isCall s.ins = false)
    {call : FuncId → List V → Objs → Option (V × Objs)} {ρ' : List V} {σ' : Objs} (he : ev1 G call s ρ σ = some (ρ', σ')) : Left P a o M ι X w σ ρ' σ' := by
  obtain ⟨dst, gd, i⟩ := s
  simp only at hd hc hn
  subst hd
  unfold ev1 at he
  simp only [Option.bind_eq_bind, Option.bind_eq_some_iff] at he
  obtain ⟨⟨v, σ2⟩, hi, he⟩ := he
  simp only [Option.some.injEq, Prod.mk.injEq] at he
  obtain ⟨rfl, rfl⟩ := he
  cases i <;> (try (exact step_pure h hG hc (fun y e => by cases e) hi))
  case call => cases hn
  case callv => cases hn
  case calli => cases hn
  case callT => cases hn
  case mkmp =>
    obtain ⟨dst, op, type, pos, after, guard⟩ := o
    simp only at hc
    cases op <;> (try (cases hc; done))
    rename_i t r
    simp only [evIns, Option.some.injEq, Prod.mk.injEq] at hi
    obtain ⟨rfl, rfl⟩ := hi
    refine step_mkmp h rfl ?_
    cases r with
    | none => exact .inl rfl
    | some x =>
      cases x <;> (try (cases hc; done))
      rename_i v
      cases v <;> (try (cases hc; done))
      simp only [chkIns] at hc
      split at hc
      · rename_i kt e hu; exact .inr ⟨_, _, _, _, rfl, hu⟩
      · cases hc
  case mset kk m' k' x' =>
    obtain ⟨dst, op, type, pos, after, guard⟩ := o
    simp only at hc
    cases op <;> (try (cases hc; done))
    all_goals
      simp only [chkIns, Bool.and_eq_true] at hc
      obtain ⟨⟨⟨h1, h2⟩, h3⟩, h4⟩ := hc
      split at h1
      · rename_i kt e hu
        first
          | exact step_mset h hG (.inl rfl) hu h1 h2 h3 h4 hi
          | exact step_mset h hG (.inr rfl) hu h1 h2 h3 h4 hi
      · cases h1
  case rng y =>
    obtain ⟨dst, op, type, pos, after, guard⟩ := o
    simp only at hc
    cases op <;> (try (cases hc; done))
    simp only [chkIns, Bool.and_eq_true] at hc
    simp only [evIns] at hi
    split at hi
    · rename_i s hy
      cases hi
      exact step_rng h hG rfl (isStrT_spec hc.1) hc.2 hy
    · cases hi
  case nxt y =>
    obtain ⟨dst, op, type, pos, after, guard⟩ := o
    simp only at hc
    cases op <;> (try (cases hc; done))
    rename_i x b
    cases b
    · cases hc
    · exact step_nxt h hG rfl hc hi
  case cpy str sz x' y' =>
    obtain ⟨dst, op, type, pos, after, guard⟩ := o
    simp only at hc
    cases op <;> (try (cases hc; done))
    rename_i c
    obtain ⟨callee, args, argTypes⟩ := c
    cases callee <;> (try (cases hc; done))
    rename_i b
    cases b <;> (try (cases hc; done))
    simp only [chkIns, Bool.and_eq_true] at hc
    obtain ⟨h1, h3⟩ := hc
    obtain ⟨p, q, hpq, hp, hq⟩ := chkArgs_two h1
    split at h3
    · rename_i t tx htt
      have hat : argTypes = #[t, tx] := by apply Array.ext'; simpa using htt
      have har : args = #[p, q] := by apply Array.ext'; simpa using hpq
      subst hat har
      split at h3
      · rename_i e hu
        simp only [Bool.and_eq_true, decide_eq_true_eq] at h3
        exact step_cpy h hG rfl hu h3.1.1 h3.2 hp hq hi
      · cases h3
    · cases h3
  case clr sz z x' =>
    obtain ⟨dst, op, type, pos, after, guard⟩ := o
    simp only at hc
    cases op <;> (try (cases hc; done))
    rename_i c
    obtain ⟨callee, args, argTypes⟩ := c
    cases callee <;> (try (cases hc; done))
    rename_i b
    cases b <;> (try (cases hc; done))
    simp only [chkIns, Bool.and_eq_true] at hc
    obtain ⟨h1, h3⟩ := hc
    obtain ⟨p, hpq, hp⟩ := chkArgs_one h1
    split at h3
    · rename_i t htt
      have hat : argTypes = #[t] := by apply Array.ext'; simpa using htt
      have har : args = #[p] := by apply Array.ext'; simpa using hpq
      subst hat har
      split at h3
      · rename_i e hu
        simp only [Bool.and_eq_true, decide_eq_true_eq] at h3
        exact step_clr h hG rfl hu h3.1.1 h3.1.2 h3.2 hp hi
      · cases h3
    · cases h3
  case appG str ag sz bytes x' y' =>
    obtain ⟨dst, op, type, pos, after, guard⟩ := o
    simp only at hc
    cases op <;> (try (cases hc; done))
    rename_i c
    obtain ⟨callee, args, argTypes⟩ := c
    cases callee <;> (try (cases hc; done))
    rename_i b
    cases b <;> (try (cases hc; done))
    simp only [chkIns, Bool.and_eq_true] at hc
    obtain ⟨⟨h1, h2⟩, h3⟩ := hc
    obtain ⟨p, q, hpq, hp, hq⟩ := chkArgs_two h1
    split at h3
    · rename_i t tx htt
      have hat : argTypes = #[t, tx] := by apply Array.ext'; simpa using htt
      have har : args = #[p, q] := by apply Array.ext'; simpa using hpq
      subst hat har
      exact step_appG h hG rfl hp hq h2 h3 hi
    · cases h3
  case appH => cases hc
  case mv y tk =>
    obtain ⟨dst, op, type, pos, after, guard⟩ := o
    simp only [evIns, Option.some.injEq, Prod.mk.injEq] at hi
    obtain ⟨rfl, rfl⟩ := hi
    simp only at hc
    cases op <;> (try (cases hc; done))
    all_goals
      simp only [chkIns, Bool.and_eq_true] at hc
      first
        | exact step_mv h hG (.inl rfl) hc.1 hc.2
        | exact step_mv h hG (.inr rfl) hc.1 hc.2
  case alloc z =>
    obtain ⟨dst, op, type, pos, after, guard⟩ := o
    simp only at hc
    cases op <;> (try (cases hc; done))
    simp only [chkIns] at hc
    split at hc
    · rename_i zv hz
      simp only [evIns] at hi
      split at hi
      · cases hi
        exact step_alloc h rfl hz hc
      · cases hi
    · cases hc
  case box y =>
    obtain ⟨dst, op, type, pos, after, guard⟩ := o
    simp only at hc
    cases op <;> (try (cases hc; done))
    simp only [chkIns] at hc
    simp only [evIns] at hi
    split at hi
    · cases hi
      exact step_box h hG rfl hc (by assumption)
    · cases hi
  case buildSl ag sz len z qs hh =>
    obtain ⟨dst, op, type, pos, after, guard⟩ := o
    simp only at hc
    cases op <;> (try (cases hc; done))
    simp only [chkIns] at hc
    split at hc
    · rename_i e hE
      simp only [Bool.and_eq_true, Bool.or_eq_true, beq_iff_eq, decide_eq_true_eq] at hc
      obtain ⟨⟨⟨⟨rfl, hz⟩, hpos⟩, hsm⟩, hps⟩ := hc
      exact step_buildSl h hG rfl hE hz hpos hsm hps hi
    · cases hc
  case buildG ag sz len z qs =>
    obtain ⟨dst, op, type, pos, after, guard⟩ := o
    simp only at hc
    cases op <;> (try (cases hc; done))
    simp only [chkIns] at hc
    split at hc
    · rename_i e hE
      simp only [Bool.and_eq_true, Bool.or_eq_true, beq_iff_eq, decide_eq_true_eq] at hc
      obtain ⟨⟨⟨⟨rfl, hz⟩, hpos⟩, hsm⟩, hps⟩ := hc
      exact step_buildG h hG rfl hE hz hpos hsm hps hi
    · cases hc
  case mark y =>
    obtain ⟨dst, op, type, pos, after, guard⟩ := o
    simp only at hc
    cases op <;> (try (cases hc; done))
    simp only [chkIns, Bool.and_eq_true, beq_iff_eq] at hc
    obtain ⟨⟨⟨rfl, hs⟩, hx⟩, ht⟩ := hc
    split at hs
    · rename_i e hs'
      exact step_mark h hG rfl hs' (isU8T_spec hs) hx ht hi
    · cases hs
  case loadT y =>
    obtain ⟨dst, op, type, pos, after, guard⟩ := o
    simp only at hc
    cases op <;> (try (cases hc; done))
    simp only [chkIns, Bool.and_eq_true] at hc
    simp only [evIns, Option.bind_eq_bind] at hi
    refine step_loadT h hG rfl hc.1 hc.2 (Eq.trans ?_ hi)
    cases arg G ρ y <;> rfl
  case store sz p' y tk =>
    obtain ⟨dst, op, type, pos, after, guard⟩ := o
    simp only at hc
    cases op <;> (try (cases hc; done))
    simp only [chkIns, Bool.and_eq_true, decide_eq_true_eq] at hc
    exact step_store h hG rfl hc.1.1.1 hc.1.1.2 hc.1.2 hc.2 hi
  case app str ag sz bytes x' y' tk =>
    obtain ⟨dst, op, type, pos, after, guard⟩ := o
    simp only at hc
    cases op <;> (try (cases hc; done))
    rename_i c
    obtain ⟨callee, args, argTypes⟩ := c
    cases callee <;> (try (cases hc; done))
    rename_i b
    cases b <;> (try (cases hc; done))
    simp only [chkIns, Bool.and_eq_true] at hc
    obtain ⟨⟨h1, h2⟩, h3⟩ := hc
    obtain ⟨p, q, hpq, hp, hq⟩ := chkArgs_two h1
    split at h3
    · rename_i t tx htt
      have hat : argTypes = #[t, tx] := by apply Array.ext'; simpa using htt
      have har : args = #[p, q] := by apply Array.ext'; simpa using hpq
      subst hat har
      simp only [evIns, Option.bind_eq_bind, Option.bind_eq_some_iff, Option.some.injEq, Prod.mk.injEq] at hi
      obtain ⟨ys, hys, v', hv, rfl, rfl⟩ := hi
      exact step_app h hG rfl hp hq h2 h3 hys hv
    · cases h3
  case conv k y =>
    by_cases hk : k = .strBytes
    · subst hk
      obtain ⟨dst, op, type, pos, after, guard⟩ := o
      simp only at hc
      cases op <;> (try (cases hc; done))
      simp only [chkIns, Bool.and_eq_true] at hc
      obtain ⟨h1, h2⟩ := hc
      split at h2 <;> (try (cases h2; done)) <;> (try (rename_i hk _ _; cases hk; done))
      rename_i hs hd
      simp only [evIns, Option.bind_eq_bind, Option.bind_eq_some_iff, Option.some.injEq, Prod.mk.injEq] at hi
      obtain ⟨v', hv, rfl, rfl⟩ := hi
      exact step_strBytes h hG rfl hs hd (isU8T_spec h2) h1 hv
    · refine step_pure h hG hc (fun y' e => hk (by cases e; rfl)) (?_ : _ = some (v, σ2))
      rw [← hi]
      cases k <;> first | rfl | exact absurd rfl hk
  case bytesH y =>
    obtain ⟨dst, op, type, pos, after, guard⟩ := o
    simp only at hc
    cases op <;> (try (cases hc; done))
    simp only [chkIns, Bool.and_eq_true] at hc
    obtain ⟨h1, h2⟩ := hc
    split at h2
    · rename_i hs hd
      simp only [evIns] at hi
      split at hi
      · rename_i bs hy
        cases hi
        exact step_bytesH h hG rfl hs hd (isU8T_spec h2) h1 hy
      · cases hi
    · cases h2
  case mkSl ag sz bytes z l' c' hh =>
    obtain ⟨dst, op, type, pos, after, guard⟩ := o
    simp only at hc
    cases op <;> (try (cases hc; done))
    simp only [chkIns] at hc
    split at hc
    · rename_i e hE
      simp only [Bool.and_eq_true, decide_eq_true_eq] at hc
      obtain ⟨⟨⟨⟨⟨⟨hz, hzl⟩, hpos⟩, hb0⟩, hby⟩, hl⟩, hcc⟩ := hc
      exact step_mkSl h hG rfl hE hz hzl hpos hb0 hby hl hcc hi
    · cases hc
end
end Go.Ev
set_option linter.unusedSimpArgs false
set_option linter.unusedVariables false
namespace Go.Ev
open Go
def Does (P : Program) (f : FuncId) (vs : Array Value) (w : World) (R : Value → World → Prop) : Prop :=
  ((callFunc f vs).run P w = .ok (.enter f vs) w ∧ Calls P f vs w (fun e w' => ∃ v, e = .returned v ∧ R v w')) ∨ ∃ v w', (callFunc f vs).run P w = .ok (.value v) w' ∧ R v w'
def Sound (P : Program) (G : GV) (f : FuncId) (h : List V → Objs → Option (V × Objs)) : Prop :=
  ∀ args σ r σ', h args σ = some (r, σ') → ∀ M ι X κ w (vs : Array Value), St M ι X κ w vs.toList args σ → GOK G M ι →
    Does P f vs w fun v w' => ∃ M' ι' κ', (Ext X M ι w M' ι' w' ∧ Kp ι w σ ι' w' σ') ∧ St M' ι' X κ' w' [v] [r] σ'
section
variable {P : Program} {M : Mem} {ι : Plc} {X : Nat → Prop} {κ : Own} {w : World} {us : List Value} {ρ : List V} {σ : Objs} {G : GV} {a : Act}
theorem Rep.inv_fn {v : Value} {f : FuncId} {first caps : List V} (h : Rep M ι v (.fn f first caps)) : ∃ ars bs, v = .func (.func f) ars bs ∧ Reps M ι ars.toList first ∧ Reps M ι bs.toList caps := by
  cases h with
  | fn _ ars bs _ _ ha hb hra hrb =>
    exact ⟨ars, bs, rfl, ⟨by simpa using ha, fun i u y hu hy => hra i u y (by simpa using hu) hy⟩, ⟨by simpa using hb, fun i u y hu hy => hrb i u y (by simpa using hu) hy⟩⟩
def withSlots (X : Nat → Prop) (κ : Own) (b : Nat) : Prop := X b ∨ ∃ n, κ b = some (.s n)
def cellsOnly (κ : Own) : Own := fun b => match κ b with | some (.c o i) => some (.c o i) | _ => none
theorem cellsOnly_some {κ : Own} {b : Nat} {p : Pl} (h : cellsOnly κ b = some p) : ∃ o i, p = .c o i ∧ κ b = some (.c o i) := by
  unfold cellsOnly at h
  split at h
  · cases h; exact ⟨_, _, rfl, ‹_›⟩
  · cases h
theorem St.callee (h : St M ι X κ w us ρ σ) {vs : List Value} {xs : List V} (hr : Reps M ι vs xs) (hn : ∀ x ∈ xs, ∀ v, ownB v x = none) : St M ι (withSlots X κ) (cellsOnly κ) w vs xs σ := by
  have hnone : ∀ (i : Nat) v x, xs[i]? = some x → ownB v x = none := fun i v x hx => hn x (List.mem_of_getElem? hx) v
  refine ⟨⟨h.wd.mem, h.wd.obj, h.wd.olt, h.wd.inj, fun b hb => ?_, fun o b hi hb => ?_, fun b p hp => ?_, h.wd.szs⟩, hr, fun p v x b ha hb => ?_, fun p v x ha => ?_⟩
  · rcases hb with hb | ⟨n, hn⟩
    · exact h.wd.xlt b hb
    · exact (h.wd.kap b _ hn).2.2
  · rcases hb with hb | ⟨n, hn⟩
    · exact h.wd.xobj o b hi hb
    · exact (h.wd.kap b _ hn).2.1 o hi
  · obtain ⟨o, i, rfl, hk⟩ := cellsOnly_some hp
    obtain ⟨h1, h2, h3⟩ := h.wd.kap b _ hk
    refine ⟨fun hx => ?_, h2, h3⟩
    rcases hx with hx | ⟨n, hn⟩
    · exact h1 hx
    · rw [hk] at hn; cases hn
  · cases p with
    | s i => rw [hnone i v x ha.2] at hb; cases hb
    | c o i =>
      have := h.own (.c o i) v x b ha hb
      unfold cellsOnly
      rw [this]
  · cases p with
    | s i => exact .of_none (hnone i v x ha.2)
    | c o i => exact h.gr (.c o i) v x ha
theorem St.behind (h : St M ι X κ w us ρ σ) {M' : Mem} {ι' : Plc} {κ' : Own} {w' : World} {v : Value} {r : V} {σ' : Objs} (he : Ext (withSlots X κ) M ι w M' ι' w') (hs : St M' ι' (withSlots X κ) κ' w' [v] [r] σ') (d : Option Nat) :
    ∃ κ3, Ext X M ι w M' ι' w' ∧ St M' ι' X κ3 w' (putL us d v) (put ρ d r) σ' := by
  have hrr : Rep M' ι' v r := hs.rep.2 0 v r rfl rfl
  let κ3 : Own := fun b => match κ b with
    | some (.s n) => some (.s n)
    | _ => match κ' b with
      | some (.c o i) => some (.c o i)
      | some (.s _) => d.map Pl.s
      | none => none
  have k1 : ∀ b n, κ b = some (.s n) → κ3 b = some (.s n) := fun b n e => by show (match κ b with | some (.s n) => _ | _ => _) = _; rw [e]
  have k2 : ∀ b, (∀ n, κ b ≠ some (.s n)) → κ3 b = match κ' b with
      | some (.c o i) => some (.c o i)
      | some (.s _) => d.map Pl.s
      | none => none := fun b e => by
    simp only [κ3]
  have hout : ∀ b p, κ' b = some p → ∀ n, κ b ≠ some (.s n) := fun b p e n hn => (hs.wd.kap b p e).1 (.inr ⟨n, hn⟩)
  have grOld : ∀ (i : Nat) u x, us[i]? = some u → ρ[i]? = some x → GrOK M' w' u x := fun i u x hu hx => by
    cases hb : ownB u x with
    | none => exact .of_none hb
    | some b =>
      have hat : At ι w us ρ σ (.s i) u x := ⟨hu, hx⟩
      have hk := h.own _ _ _ _ hat hb
      have hX : withSlots X κ b := .inr ⟨i, hk⟩
      refine ⟨fun xs sz hxx al len cap hv => ?_⟩
      obtain ⟨g1, g2, ws, T, fz, g3, g4⟩ := (h.gr _ _ _ hat).ok xs sz hxx al len cap hv
      have hbb : al.block = b := by subst hxx hv; simp only [ownB, Option.some.injEq] at hb; exact hb
      exact ⟨g1, fun j hj => by rw [hbb, he.mX b j hX, ← hbb]; exact g2 j hj, ws, T, fz, by rw [hbb, he.keep b hX, ← hbb]; exact g3, g4⟩
  have hslot : ∀ (i : Nat) u x, (putL us d v)[i]? = some u → (put ρ d r)[i]? = some x → (d = some i ∧ u = v ∧ x = r) ∨ (us[i]? = some u ∧ ρ[i]? = some x) := by
    intro i u x hu hx
    cases d with
    | none => exact .inr ⟨hu, hx⟩
    | some d =>
      simp only [putL, put, List.getElem?_set] at hu hx
      by_cases hd : d = i
      · subst hd
        rw [if_pos rfl] at hu hx
        split at hu
        · split at hx
          · cases hu; cases hx; exact .inl ⟨rfl, rfl, rfl⟩
          · cases hx
        · cases hu
      · rw [if_neg hd] at hu hx; exact .inr ⟨hu, hx⟩
  refine ⟨κ3, he.less fun b hb => .inl hb, ⟨⟨hs.wd.mem, hs.wd.obj, hs.wd.olt, hs.wd.inj, fun b hb => hs.wd.xlt b (.inl hb), fun o b hi hb => hs.wd.xobj o b hi (.inl hb), fun b p hp => ?_, hs.wd.szs⟩, ?_, fun p u x b ha hb => ?_, fun p u x ha => ?_⟩⟩
  · by_cases hn : ∃ n, κ b = some (.s n)
    · obtain ⟨n, hn⟩ := hn
      have hX : withSlots X κ b := .inr ⟨n, hn⟩
      exact ⟨(h.wd.kap b _ hn).1, fun o ho => hs.wd.xobj o b ho hX, hs.wd.xlt b hX⟩
    · rw [k2 b (fun n e => hn ⟨n, e⟩)] at hp
      cases hk : κ' b with
      | none => rw [hk] at hp; cases hp
      | some q =>
        obtain ⟨h1, h2, h3⟩ := hs.wd.kap b q hk
        exact ⟨fun hx => h1 (.inl hx), h2, h3⟩
  · have := h.rep.mono he.m he.i
    cases d with
    | none => exact this
    | some d => exact this.set hrr d
  · cases p with
    | c o i =>
      have hk : κ' b = some (.c o i) := hs.own (.c o i) u x b ha hb
      rw [k2 b (hout b _ hk), hk]
    | s i =>
      rcases hslot i u x ha.1 ha.2 with ⟨rfl, rfl, rfl⟩ | ⟨hu, hx⟩
      · have hk : κ' b = some (.s 0) := hs.own (.s 0) u x b ⟨rfl, rfl⟩ hb
        rw [k2 b (hout b _ hk), hk]
        rfl
      · exact k1 b i (h.own (.s i) u x b ⟨hu, hx⟩ hb)
  · cases p with
    | c o i => exact hs.gr (.c o i) u x ha
    | s i =>
      rcases hslot i u x ha.1 ha.2 with ⟨rfl, rfl, rfl⟩ | ⟨hu, hx⟩
      · exact hs.gr (.s 0) u x ⟨rfl, rfl⟩
      · exact grOld i u x hu hx
theorem chkArgs_get : ∀ {xs : List Operand} {ys : List Arg}, chkArgs xs ys = true → ∀ {j : Nat} {y : Arg}, ys[j]? = some y → ∃ p, xs[j]? = some p ∧ chkArg p y = true
  | [], [], _, j, y, hj => by simp at hj
  | x :: xs, z :: ys, h, j, y, hj => by
    simp only [chkArgs, Bool.and_eq_true] at h
    cases j with
    | zero => simp at hj; subst hj; exact ⟨x, rfl, h.1⟩
    | succ j => simpa using chkArgs_get h.2 (j := j) (by simpa using hj)
  | [], _ :: _, h, _, _, _ => by simp [chkArgs] at h
  | _ :: _, [], h, _, _, _ => by simp [chkArgs] at h
theorem wp_step (h : St M ι X κ w a.tmps.toList ρ σ) (hG : GOK G M ι) {o : Oper} {s : Step} (hd : o.dst = s.dst) (hc : chkIns P o.op s.ins = true) {call : FuncId → List V → Objs → Option (V × Objs)} (hS : ∀ f, Sound P G f (call f))
    {ρ' : List V} {σ' : Objs} (he : ev1 G call s ρ σ = some (ρ', σ')) {next : Act → World → Prop} {Q : Exit → Act → World → Prop}
    (hn : ∀ v w' M' ι' κ', Ext X M ι w M' ι' w' → Kp ι w σ ι' w' σ' → St M' ι' X κ' w' (a.put o.dst v).tmps.toList ρ' σ' → next (a.put o.dst v) w') : o.wp P a w next Q := by
  cases hcall : isCall s.ins with
  | false =>
    obtain ⟨nx, v, w', M', ι', κ', hrun, hnx, ⟨hx, hk, _⟩, hst⟩ := step_all h hG hd hc hcall he
    rw [← put_toList] at hst
    unfold Oper.wp
    rw [hrun]
    rcases hnx with rfl | ⟨rfl, rfl⟩
    · exact hn v w' M' ι' κ' hx hk hst
    · exact hn undef w' M' ι' κ' hx hk hst
  | true =>
    have hA := Opd.of_state h.rep hG
    have gen : ∀ (f : FuncId) (vs : Array Value) (xs : List V) (r : V) (κ1 κc : Own) (ρ1 : List V), (execOp a.eval o).run P w = (callFunc f vs).run P w → St M ι X κ1 w a.tmps.toList ρ1 σ → St M ι (withSlots X κ1) κc w vs.toList xs σ → call f xs σ = some (r, σ') → ρ' = put ρ1 s.dst r → o.wp P a w next Q := by
      intro f vs xs r κ1 κc ρ1 hrun h1s hcs hcl hρ
      have := hS f xs σ r σ' hcl M ι _ _ w vs hcs hG
      unfold Oper.wp
      rw [hrun]
      have done : ∀ v w', (∃ M' ι' κ', (Ext (withSlots X κ1) M ι w M' ι' w' ∧ Kp ι w σ ι' w' σ') ∧ St M' ι' (withSlots X κ1) κ' w' [v] [r] σ') → next (a.put o.dst v) w' := by
        intro v w' ⟨M', ι', κ', ⟨hx, hk⟩, hst⟩
        obtain ⟨κ3, hx3, hst3⟩ := h1s.behind hx hst o.dst
        rw [← put_toList] at hst3
        rw [hd] at hst3 ⊢
        rw [← hρ] at hst3
        exact hn v w' M' ι' κ3 hx3 hk (by rw [hd]; exact hst3) |> fun q => by rw [hd] at q; exact q
      rcases this with ⟨h1, h2⟩ | ⟨v, w', h1, h2⟩
      · rw [h1]
        exact Calls.mono h2 fun e w' ⟨v, he, hR⟩ => by subst he; exact done v w' hR
      · rw [h1]
        exact done v w' h2
    have fin : ∀ (f : FuncId) (vs : Array Value) (xs : List V) (r : V), (execOp a.eval o).run P w = (callFunc f vs).run P w → Reps M ι vs.toList xs → (∀ x ∈ xs, x.ng = x) → call f xs σ = some (r, σ') → ρ' = put ρ s.dst r → o.wp P a w next Q :=
      fun f vs xs r hrun hr hng hcl hρ => gen f vs xs r κ _ ρ hrun h (h.callee hr fun x hx v => by rw [← hng x hx]; exact ownB_nogr _ _) hcl hρ
    obtain ⟨dst, gd, i⟩ := s
    obtain ⟨dst', op, type, pos, after, guard⟩ := o
    simp only at hd hc hcall
    subst hd
    unfold ev1 at he
    simp only [Option.bind_eq_bind, Option.bind_eq_some_iff] at he
    obtain ⟨⟨v, σ2⟩, hi, he⟩ := he
    simp only [Option.some.injEq, Prod.mk.injEq] at he
    obtain ⟨rfl, rfl⟩ := he
    cases i <;> (try (cases hcall; done))
    case call f ys =>
      cases op <;> (try (cases hc; done))
      rename_i c
      obtain ⟨callee, args, argTypes⟩ := c
      cases callee <;> (try (cases hc; done))
      rename_i fv
      cases fv <;> (try (cases hc; done))
      rename_i g
      simp only [chkIns, Bool.and_eq_true, beq_iff_eq] at hc
      obtain ⟨rfl, hca⟩ := hc
      simp only [evIns] at hi
      refine fin f (args.map a.eval) (ys.map (arg G ρ)) v ?_ (by rw [Array.toList_map]; exact hA.args hca) (fun x hx => ?_) hi rfl
      · simp only [execOp, resolve, Deferred.ofValue, invoke, sem_bind_run, Act.eval]
        simp [sem_pure_run, Result.andThen]
      · obtain ⟨y, _, rfl⟩ := List.mem_map.1 hx; exact V.nogr_nogr _
    case callv y ys =>
      cases op <;> (try (cases hc; done))
      rename_i c
      obtain ⟨callee, args, argTypes⟩ := c
      cases callee <;> (try (cases hc; done))
      rename_i fv
      simp only [chkIns, Bool.and_eq_true] at hc
      simp only [evIns] at hi
      split at hi
      · rename_i f first caps hy
        have hv := hA.ok _ _ hc.1
        rw [hy] at hv
        obtain ⟨ars, bs, hfv, hra, hrb⟩ := hv.inv_fn
        refine fin f ((ars ++ args.map a.eval) ++ bs) (((first ++ ys.map (arg G ρ)) ++ caps).map V.ng) v ?_ ?_ (fun x hx => ?_) hi rfl
        · simp only [execOp, resolve, hfv, Deferred.ofValue, invoke, sem_bind_run]
          simp [sem_pure_run, Result.andThen]
        · simp only [Array.toList_append, Array.toList_map]
          exact ((hra.append (hA.args hc.2)).append hrb).ng
        · obtain ⟨y, _, rfl⟩ := List.mem_map.1 hx; exact V.nogr_nogr _
      · cases hi
    case calli y ms ys =>
      cases op <;> (try (cases hc; done))
      rename_i c
      obtain ⟨callee, args, argTypes⟩ := c
      cases callee <;> (try (cases hc; done))
      rename_i xo name
      simp only [chkIns, Bool.and_eq_true, List.all_eq_true] at hc
      obtain ⟨⟨hc1, hc2⟩, hc3⟩ := hc
      simp only [evIns] at hi
      split at hi
      · rename_i t y0 hy
        have hv := hA.ok _ _ hc1
        rw [hy] at hv
        generalize hev : a.eval xo = ev0 at hv
        cases hv with
        | ifc _ v0 _ hv0 =>
        have hrun0 : ∀ f u, (method (P.types.size + Made.depth) t v0 name).run P w = .ok (f, u) w → (execOp a.eval ⟨dst', .call { callee := .invoke xo name, args := args, argTypes := argTypes }, type, pos, after, guard⟩).run P w = (callFunc f (#[u] ++ args.map a.eval)).run P w := by
          intro f u hm
          have h0 : ∀ (x : Value) (A : Array Value), (#[x] ++ A)[0]? = some x := fun x A => by simp [Array.getElem?_append]
          have h1 : ∀ (x : Value) (A : Array Value), (#[x] ++ A).extract 1 (#[x] ++ A).size = A := fun x A => by
            apply Array.ext'
            simp [List.extract_eq_take_drop]
          have hm' : ((do
            let p ← Sem.program Sem.pure
            method (p.types.size + Made.depth) t v0 name) : Sem (FuncId × Value)).run P w = .ok (f, u) w := hm
          simp only [execOp, resolve, hev, invoke, sem_bind_run, sem_pure_run, Result.andThen, h0, h1, callMethod, program]
          simp only [sem_bind_run] at hm'
          simp only [Sem.run, Result.andThen] at hm' ⊢
          rw [hm]
        split at hi
        · rename_i t' f hf
          have ht : t' = t := by simpa using List.find?_some hf
          subst ht
          have hck := hc3 _ (List.mem_of_find?_eq_some hf)
          refine fin f (#[v0] ++ args.map a.eval) (y0.ng :: ys.map (arg G ρ)) v (hrun0 f v0 (run_method hck v0)) ?_ (fun x hx => ?_) hi rfl
          · simp only [Array.toList_append, Array.toList_map]
            exact Reps.cons hv0.ng (hA.args hc2)
          · rcases List.mem_cons.1 hx with rfl | hx
            · exact V.nogr_nogr _
            · obtain ⟨y, _, rfl⟩ := List.mem_map.1 hx; exact V.nogr_nogr _
        · rename_i t' f off sz hf
          have ht : t' = t := by simpa using List.find?_some hf
          subst ht
          have hck := hc3 _ (List.mem_of_find?_eq_some hf)
          simp only [Option.bind_eq_bind, Option.bind_eq_some_iff] at hi
          obtain ⟨z, hz, hi⟩ := hi
          unfold evField at hz
          cases y0 <;> (try (cases hz; done))
          rename_i cs
          cases hv0 with
          | agg vs _ hl hr0 =>
          have hr := Rep.agg_iff.1 (.agg vs cs hl hr0)
          unfold Ev.part at hz
          simp only [if_true] at hz
          split at hz
          · rename_i hle
            cases hz
            refine fin f (#[.agg (vs.extract off (off + sz))] ++ args.map a.eval) (.agg (((cs.drop off).take sz).map V.ng) :: ys.map (arg G ρ)) v (hrun0 f _ (run_methodP hck vs)) ?_ (fun x hx => ?_) hi rfl
            · simp only [Array.toList_append, Array.toList_map]
              refine Reps.cons (Rep.agg_iff.2 ?_) (hA.args hc2)
              have := ((hr.drop off).take sz).ng
              rw [Array.toList_extract, List.extract_eq_take_drop]
              simpa using this
            · rcases List.mem_cons.1 hx with rfl | hx
              · rfl
              · obtain ⟨y, _, rfl⟩ := List.mem_map.1 hx; exact V.nogr_nogr _
          · cases hz
        · cases hi
      · cases hi
    case callT f ys j =>
      cases op <;> (try (cases hc; done))
      rename_i c
      obtain ⟨callee, args, argTypes⟩ := c
      cases callee <;> (try (cases hc; done))
      rename_i fv
      cases fv <;> (try (cases hc; done))
      rename_i g
      simp only [chkIns, Bool.and_eq_true, beq_iff_eq] at hc
      obtain ⟨⟨rfl, hca⟩, htk⟩ := hc
      split at htk
      case h_2 => cases htk
      rename_i yj hyj
      obtain ⟨n, rfl⟩ := tk_slot htk
      have hrun : (execOp a.eval ⟨dst', .call { callee := .value (.func f), args := args, argTypes := argTypes }, type, pos, after, guard⟩).run P w = (callFunc f (args.map a.eval)).run P w := by
        simp only [execOp, resolve, Deferred.ofValue, invoke, sem_bind_run, Act.eval]
        simp [sem_pure_run, Result.andThen]
      simp only [evIns] at hi
      have hR : Reps M ι (args.map a.eval).toList (ys.map (arg G ρ)) := by rw [Array.toList_map]; exact hA.args hca
      have hTj : argT G ρ (.t n) = ρ.getD n .undef := rfl
      have htakes : unslot ρ (Ins.callT f ys j).takes.1 (Ins.callT f ys j).takes.2 = ρ.set n (ρ.getD n .undef).ng := by
        show unslot ρ (ys.getD j (.c .undef)) true = _
        rw [List.getD_eq_getElem?_getD, hyj]
        rfl
      have hset : (ys.zipIdx.map fun p => if p.2 = j then argT G ρ p.1 else arg G ρ p.1) = (ys.map (arg G ρ)).set j (ρ.getD n .undef) := by
        apply List.ext_getElem?
        intro k
        rw [List.getElem?_map, List.getElem?_zipIdx, List.getElem?_set]
        by_cases hk : j = k
        · subst hk
          rw [if_pos rfl, if_pos (by simpa using (List.getElem?_eq_some_iff.1 hyj).1), hyj]
          simp [hTj]
        · rw [if_neg hk, List.getElem?_map]
          cases ys[k]? with
          | none => rfl
          | some y => simp [show ¬ k = j from fun e => hk e.symm]
      rw [hset] at hi
      have hargs : (args.map a.eval).toList[j]? = some (a.tmps.toList.getD n Go.undef) := by
        obtain ⟨u, hu, _⟩ := hR.get (c := arg G ρ (.t n)) (by rw [List.getElem?_map, hyj]; rfl)
        have hck : ∃ p, args.toList[j]? = some p ∧ chkArg p (.t n) = true := chkArgs_get hca hyj
        obtain ⟨p, hp, hpc⟩ := hck
        rw [chkArg_t hpc] at hp
        rw [Array.toList_map, List.getElem?_map, hp]
        simp only [Option.map_some]
        rw [eval_tmp]
      have hng : ∀ x ∈ ys.map (arg G ρ), ∀ v, ownB v x = none := fun x hx v => by
        obtain ⟨y, _, rfl⟩ := List.mem_map.1 hx; exact ownB_nogr _ _
      rw [htakes] at gen
      by_cases hn : n < ρ.length
      · have hnu : n < a.tmps.toList.length := by rw [h.rep.1]; exact hn
        have hv : a.tmps.toList[n]? = some (a.tmps.toList[n]) := List.getElem?_eq_getElem hnu
        have hρ : ρ[n]? = some ρ[n] := List.getElem?_eq_getElem hn
        have e1 : ρ.getD n .undef = ρ[n] := by simp [List.getD, hρ]
        have e2 : a.tmps.toList.getD n Go.undef = a.tmps.toList[n] := by simp only [List.getD, hv, Option.getD_some]
        rw [e1] at hi gen
        rw [e2] at hargs
        have hvl : (args.map a.eval).toList.set j (a.tmps.toList[n]) = (args.map a.eval).toList := set_same hargs
        cases hob : ownB (a.tmps.toList[n]) ρ[n] with
        | none =>
          have hd1 := h.dropSlot n
          rw [e1] at hd1
          have hc1 := (hd1.callee hR hng).setSlot (h.rep.2 n _ _ hv hρ) hob j
          rw [hvl] at hc1
          exact gen f (args.map a.eval) _ v κ _ _ hrun hd1 hc1 hi rfl
        | some bb =>
          obtain ⟨κ1, hs1, hf, hg⟩ := h.takeSlot hv hρ hob
          obtain ⟨κc, hc1⟩ := (hs1.callee hR hng).giveSlot (h.rep.2 n _ _ hv hρ) hob ⟨by unfold cellsOnly; rw [hf.k], (fun hx => by
            rcases hx with hx | ⟨m, hm⟩
            · exact hf.x hx
            · rw [hf.k] at hm; cases hm), hf.i, hf.lt⟩ hg j
          rw [hvl] at hc1
          exact gen f (args.map a.eval) _ v κ1 _ _ hrun hs1 hc1 hi rfl
      · have e1 : ρ.getD n .undef = .undef := by simp [List.getD, List.getElem?_eq_none (Nat.not_lt.1 hn)]
        rw [e1] at hi gen
        rw [List.set_eq_of_length_le (Nat.not_lt.1 hn)] at gen
        have e2 : a.tmps.toList.getD n Go.undef = Go.undef := by
          have : ¬ n < a.tmps.toList.length := by rw [h.rep.1]; exact hn
          simp [List.getD, List.getElem?_eq_none (Nat.not_lt.1 this)]
        rw [e2] at hargs
        have hvl : (args.map a.eval).toList.set j Go.undef = (args.map a.eval).toList := set_same hargs
        have hc1 := (h.callee hR hng).setSlot (v := Go.undef) (x := .undef) .undef rfl j
        rw [hvl] at hc1
        exact gen f (args.map a.eval) _ v κ _ _ hrun h hc1 hi rfl
end
end Go.Ev
set_option linter.unusedSimpArgs false
set_option linter.unusedVariables false
namespace Go.Ev
open Go
def chkGd (ops : Array Oper) : Option (Nat × Bool) → Option (Nat × Bool) → Bool
  | none, none => true
  | some (g, b), some (t, b') => b == b' && ((ops[g]?).bind (·.dst)) == some t
  | _, _ => false
def chkStep (P : Program) (ops : Array Oper) (o : Oper) (s : Step) : Bool := o.dst == s.dst && chkIns P o.op s.ins && chkGd ops o.guard s.gd
def chkSteps (P : Program) (ops : Array Oper) : List Oper → List Step → Bool
  | [], [] => true
  | o :: os, s :: ss => chkStep P ops o s && chkSteps P ops os ss
  | _, _ => false
def Got (a : Act) (M : Mem) (ι : Plc) (X : Nat → Prop) (w : World) (σ : Objs) (ρ' : List V) (σ' : Objs) (a' : Act) (w' : World) : Prop :=
  a'.defers = a.defers ∧ ∃ M' ι' κ', Ext X M ι w M' ι' w' ∧ Kp ι w σ ι' w' σ' ∧ St M' ι' X κ' w' a'.tmps.toList ρ' σ'
section
variable {P : Program} {M : Mem} {ι : Plc} {X : Nat → Prop} {κ : Own} {w : World} {us : List Value} {ρ : List V} {σ : Objs} {G : GV} {a : Act} {ops : Array Oper} {Q : Exit → Act → World → Prop}
theorem put_defers' (a : Act) (d : Option Nat) (v : Value) : (a.put d v).defers = a.defers := by cases d <;> rfl
theorem Rep.inv_undef {v : Value} (h : Rep M ι v .undef) : v = Go.undef := by cases h; rfl
theorem wanted_ok {tmps : Array Value} (h : Reps M ι tmps.toList ρ) {o : Oper} {gd : Option (Nat × Bool)} {b : Bool} (hc : chkGd ops o.guard gd = true) (hw : wanted ρ gd = some b) : Region.wanted o (yielded ops tmps) = b := by
  unfold Region.wanted
  cases hg : o.guard with
  | none =>
    rw [hg] at hc
    cases gd with
    | none => simp only [wanted, Option.some.injEq] at hw; exact hw
    | some _ => cases hc
  | some p =>
    obtain ⟨g, want⟩ := p
    rw [hg] at hc
    cases gd with
    | none => cases hc
    | some q =>
      obtain ⟨t, b'⟩ := q
      simp only [chkGd, Bool.and_eq_true, beq_iff_eq] at hc
      obtain ⟨rfl, ht⟩ := hc
      have hr := reps_getD h t
      simp only [wanted] at hw
      unfold yielded
      simp only [ht, Option.bind_some]
      split at hw
      · rename_i tb hq
        rw [hq] at hr
        have hv := hr.inv_bool
        have : tmps[t]? = some (.bool tb) := by
          rw [List.getD] at hv
          cases hu : tmps.toList[t]? with
          | none => rw [hu] at hv; simp only [Option.getD_none] at hv; cases hv
          | some u => rw [hu] at hv; simp only [Option.getD_some] at hv; subst hv; simpa using hu
        rw [this]
        cases hw
        cases tb <;> cases want <;> rfl
      · rename_i hq
        rw [hq] at hr
        have hv := hr.inv_undef
        have : tmps[t]? = some undef ∨ tmps[t]? = none := by
          rw [List.getD] at hv
          cases hu : tmps.toList[t]? with
          | none => right; simpa using hu
          | some u => rw [hu] at hv; simp only [Option.getD_some] at hv; subst hv; left; simpa using hu
        cases hw
        rcases this with h | h <;> rw [h] <;> rfl
      · cases hw
theorem wpOp_ev (h : St M ι X κ w a.tmps.toList ρ σ) (hG : GOK G M ι) {i : Nat} {o : Oper} {s : Step} (ho : ops[i]? = some o) (hc : chkStep P ops o s = true) {call : FuncId → List V → Objs → Option (V × Objs)} (hS : ∀ f, Sound P G f (call f))
    {ρ' : List V} {σ' : Objs} (he : evStep G call s ρ σ = some (ρ', σ')) {K : Act → World → Prop} (hn : ∀ a' w', Got a M ι X w σ ρ' σ' a' w' → K a' w') : wpOp P ops Q i K a w := by
  simp only [chkStep, Bool.and_eq_true, beq_iff_eq] at hc
  obtain ⟨⟨hd, hi⟩, hg⟩ := hc
  unfold evStep at he
  simp only [Option.bind_eq_bind, Option.bind_eq_some_iff] at he
  obtain ⟨b, hb, he⟩ := he
  have hw := wanted_ok (ops := ops) h.rep hg hb
  unfold wpOp
  simp only [ho, hw]
  cases b with
  | true =>
    simp only [if_true] at he ⊢
    exact .inl (wp_step h hG hd hi hS he fun v w' M' ι' κ' hx hk hst => hn _ _ ⟨put_defers' _ _ _, M', ι', κ', hx, hk, hst⟩)
  | false =>
    simp only [Bool.false_eq_true, if_false, Option.some.injEq, Prod.mk.injEq] at he ⊢
    obtain ⟨rfl, rfl⟩ := he
    refine hn _ _ ⟨put_defers' _ _ _, M, ι, κ, Ext.refl .., Kp.refl .., ?_⟩
    rw [put_toList, ← hd]
    exact h.putNone .undef rfl _
theorem Got.trans {a a' a'' : Act} {w' w'' : World} {ρ'' : List V} {σ' σ'' : Objs} {M' : Mem} {ι' : Plc} (hd : a'.defers = a.defers) (hx : Ext X M ι w M' ι' w') (hk : Kp ι w σ ι' w' σ') (h : Got a' M' ι' X w' σ' ρ'' σ'' a'' w'') :
    Got a M ι X w σ ρ'' σ'' a'' w'' := by
  obtain ⟨hd', M'', ι'', κ'', hx', hk', hs⟩ := h
  exact ⟨hd'.trans hd, M'', ι'', κ'', hx.trans hx', hk.trans hx.i hk', hs⟩
theorem wpOps_ev {call : FuncId → List V → Objs → Option (V × Objs)} (hS : ∀ f, Sound P G f (call f)) : ∀ (os : List Oper) (ss : List Step) (i : Nat) (M : Mem) (ι : Plc) (κ : Own) (w : World) (a : Act) (ρ : List V) (σ : Objs) (ρ' : List V) (σ' : Objs),
    St M ι X κ w a.tmps.toList ρ σ → GOK G M ι → ops.toList.drop i = os → chkSteps P ops os ss = true → evSteps G call ss ρ σ = some (ρ', σ') → (∀ a' w', Got a M ι X w σ ρ' σ' a' w' → Q .normal a' w') →
    wpOps P ops Q (List.range' i os.length) a w
  | [], [], i, M, ι, κ, w, a, ρ, σ, ρ', σ', h, hG, hdrop, hc, he, hQ => by
    simp only [evSteps, Option.some.injEq, Prod.mk.injEq] at he
    obtain ⟨rfl, rfl⟩ := he
    exact hQ _ _ ⟨rfl, M, ι, κ, Ext.refl .., Kp.refl .., h⟩
  | [], s :: ss, i, M, ι, κ, w, a, ρ, σ, ρ', σ', h, hG, hdrop, hc, he, hQ => by cases hc
  | o :: os, [], i, M, ι, κ, w, a, ρ, σ, ρ', σ', h, hG, hdrop, hc, he, hQ => by cases hc
  | o :: os, s :: ss, i, M, ι, κ, w, a, ρ, σ, ρ', σ', h, hG, hdrop, hc, he, hQ => by
    simp only [chkSteps, Bool.and_eq_true] at hc
    simp only [evSteps, Option.bind_eq_bind, Option.bind_eq_some_iff] at he
    obtain ⟨⟨ρ1, σ1⟩, h1, h2⟩ := he
    have ho : ops[i]? = some o := by
      have : (ops.toList.drop i)[0]? = some o := by rw [hdrop]; rfl
      simpa using this
    have hdr : ops.toList.drop (i + 1) = os := by
      have := congrArg List.tail hdrop
      simpa using this
    rw [List.length_cons, List.range'_succ, wpOps_cons]
    refine wpOp_ev h hG ho hc.1 hS h1 fun a' w' hgot => ?_
    obtain ⟨hd, M', ι', κ', hx, hk, hs⟩ := hgot
    exact wpOps_ev hS os ss (i + 1) M' ι' κ' w' a' ρ1 σ1 ρ' σ' hs (hG.mono hx.m hx.i) hdr hc.2 h2 fun a'' w'' hg'' => hQ _ _ (Got.trans hd hx hk hg'')
theorem wp_ops_ev {call : FuncId → List V → Objs → Option (V × Objs)} (hS : ∀ f, Sound P G f (call f)) (h : St M ι X κ w a.tmps.toList ρ σ) (hG : GOK G M ι) {id : Nat} {ss : List Step} (hc : chkSteps P ops ops.toList ss = true) {ρ' : List V} {σ' : Objs}
    (he : evSteps G call ss ρ σ = some (ρ', σ')) (hQ : ∀ a' w', Got a M ι X w σ ρ' σ' a' w' → Q .normal a' w') : (Code.region id ops false).wp P Q a w := by
  refine wp_region ?_
  have := wpOps_ev (Q := Q) hS ops.toList ss 0 M ι κ w a ρ σ ρ' σ' h hG rfl hc he hQ
  rwa [List.range_eq_range', ← Array.length_toList]
end
end Go.Ev
set_option linter.unusedSimpArgs false
set_option linter.unusedVariables false
namespace Go.Ev
open Go
def Ins.args : Ins → List Arg
  | .mv x _ => [x]
  | .pick c a b => [c, a, b]
  | .alloc _ => []
  | .box x => [x]
  | .build _ ps => ps.map (·.2.2)
  | .buildSl _ _ _ _ ps _ => ps.map (·.2)
  | .load _ _ x => [x]
  | .loadT x => [x]
  | .store _ p x _ => [p, x]
  | .nilc x => [x]
  | .bin _ _ x y => [x, y]
  | .un _ x => [x]
  | .conv _ x => [x]
  | .cutS x lo hi => x :: (lo.toList ++ hi.toList)
  | .cut _ x lo hi mx => x :: (lo.toList ++ hi.toList ++ mx.toList)
  | .cutA _ _ _ x lo hi => x :: (lo.toList ++ hi.toList)
  | .faddr _ x => [x]
  | .field _ _ _ x => [x]
  | .iaddr _ x i => [x, i]
  | .iaddrA _ _ x i => [x, i]
  | .idx x i => [x, i]
  | .idxA _ _ _ x i => [x, i]
  | .lenS x => [x]
  | .len x => [x]
  | .app _ _ _ _ x y _ => [x, y]
  | .appH _ _ _ _ x y => [x, y]
  | .bytesH x => [x]
  | .call _ ars => ars
  | .callv x ars => x :: ars
  | .mkfn _ a b => a ++ b
  | .mkif _ x => [x]
  | .extr x _ => [x]
  | .mkSl _ _ _ _ l c _ => [l, c]
  | .mm _ ars => ars
  | .mkmp => []
  | .mset _ m k x => [m, k, x]
  | .mget _ _ m k _ => [m, k]
  | .buildG _ _ _ _ ps => ps.map (·.2)
  | .mark x => [x]
  | .no => []
  | .mth _ x => [x]
  | .nilm _ _ x => [x]
  | .calli x _ ars => x :: ars
  | .callT _ ars _ => ars
  | .rng x => [x]
  | .nxt x => [x]
  | .cpy _ _ x y => [x, y]
  | .clr _ _ x => [x]
  | .appG _ _ _ _ x y => [x, y]
theorem map_opt {α β : Type} {f g : α → β} {o : Option α} (h : ∀ x ∈ o.toList, f x = g x) : o.map f = o.map g := by
  cases o with
  | none => rfl
  | some x => simp [h x (by simp)]
theorem evPure_congr {A A' : Arg → V} {σ : Objs} {i : Ins} (h : ∀ x ∈ i.args, A x = A' x) : evPure A σ i = evPure A' σ i := by
  cases i
  case build z ps =>
    simp only [evPure]
    rw [List.map_congr_left (f := fun p : Nat × Nat × Arg => (p.1, p.2.1, A p.2.2)) (g := fun p => (p.1, p.2.1, A' p.2.2)) fun p hp => by rw [h p.2.2 (List.mem_map.2 ⟨p, hp, rfl⟩)]]
  case cutS x lo hi =>
    simp only [evPure]
    rw [h x (by simp [Ins.args]), map_opt (f := A) (g := A') fun y hy => h y (by simp only [Ins.args, List.mem_cons, List.mem_append]; exact .inr (.inl hy)), map_opt (f := A) (g := A') fun y hy => h y (by simp only [Ins.args, List.mem_cons, List.mem_append]; exact .inr (.inr hy))]
  case cut sz x lo hi mx =>
    simp only [evPure]
    rw [h x (by simp [Ins.args]), map_opt (f := A) (g := A') fun y hy => h y (by simp only [Ins.args, List.mem_cons, List.mem_append]; exact .inr (.inl (.inl hy))), map_opt (f := A) (g := A') fun y hy => h y (by simp only [Ins.args, List.mem_cons, List.mem_append]; exact .inr (.inl (.inr hy))), map_opt (f := A) (g := A') fun y hy => h y (by simp only [Ins.args, List.mem_cons, List.mem_append]; exact .inr (.inr hy))]
  case cutA n sz ag x lo hi =>
    simp only [evPure]
    rw [h x (by simp [Ins.args]), map_opt (f := A) (g := A') fun y hy => h y (by simp only [Ins.args, List.mem_cons, List.mem_append]; exact .inr (.inl hy)), map_opt (f := A) (g := A') fun y hy => h y (by simp only [Ins.args, List.mem_cons, List.mem_append]; exact .inr (.inr hy))]
  case mkfn f a b =>
    simp only [evPure]
    rw [List.map_congr_left fun y hy => h y (List.mem_append_left _ hy), List.map_congr_left fun y hy => h y (List.mem_append_right _ hy)]
  case mm mx ars =>
    have hm : ars.map A = ars.map A' := List.map_congr_left fun y hy => h y hy
    simp only [evPure, hm]
  all_goals first | rfl | (simp only [evPure]; simp only [Ins.args, List.mem_cons, List.not_mem_nil, or_false, forall_eq_or_imp, forall_eq] at h; simp only [h])
theorem evIns_congr {call : FuncId → List V → Objs → Option (V × Objs)} {A A' T T' : Arg → V} {σ : Objs} {i : Ins} (h : ∀ x ∈ i.args, A x = A' x) (k : ∀ x ∈ i.args, T x = T' x) : evIns call A T σ i = evIns call A' T' σ i := by
  have hp := evPure_congr (σ := σ) h
  cases i
  case buildSl ag sz len z ps hh =>
    simp only [evIns]
    rw [List.map_congr_left (f := fun p : Nat × Arg => (p.1, A p.2)) (g := fun p => (p.1, A' p.2)) fun p hp => by rw [h p.2 (List.mem_map.2 ⟨p, hp, rfl⟩)]]
  case buildG ag sz len z ps =>
    simp only [evIns]
    rw [List.map_congr_left (f := fun p : Nat × Arg => (p.1, A p.2)) (g := fun p => (p.1, A' p.2)) fun p hp => by rw [h p.2 (List.mem_map.2 ⟨p, hp, rfl⟩)]]
  case call f ars =>
    have hm : ars.map A = ars.map A' := List.map_congr_left fun y hy => h y hy
    simp only [evIns, hm]
  case callv x ars =>
    have hm : ars.map A = ars.map A' := List.map_congr_left fun y hy => h y (List.mem_cons_of_mem _ hy)
    simp only [evIns, hm, h x (List.mem_cons_self ..)]
  case calli x ms ars =>
    have hm : ars.map A = ars.map A' := List.map_congr_left fun y hy => h y (List.mem_cons_of_mem _ hy)
    simp only [evIns, hm, h x (List.mem_cons_self ..)]
  case callT f ars j =>
    have hm : (ars.zipIdx.map fun p => if p.2 = j then T p.1 else A p.1) = ars.zipIdx.map fun p => if p.2 = j then T' p.1 else A' p.1 := List.map_congr_left fun p hp => by
      have : p.1 ∈ ars := by
        obtain ⟨y, q⟩ := p
        have := List.mem_zipIdx hp
        simp only at this ⊢
        rw [this.2.2]; exact List.getElem_mem _
      rw [h p.1 this, k p.1 this]
    simp only [evIns, hm]
  case conv c x =>
    cases c <;> first | (simp only [evIns]; rw [hp]) | (simp only [evIns]; rw [h x (List.mem_cons_self ..)])
  all_goals first
    | rfl
    | (simp only [evIns]; rw [hp])
    | (simp only [evIns]; simp only [Ins.args, List.mem_cons, List.not_mem_nil, or_false, forall_eq_or_imp, forall_eq] at h k; simp only [h, k])
def Step.wr (s : Step) : List Nat := s.dst.toList ++ (match s.ins.takes with | (.t n, true) => [n] | _ => [])
def Arg.slot : Arg → Option Nat
  | .t n => some n
  | _ => none
def Step.rd (s : Step) : List Nat := s.ins.args.filterMap Arg.slot ++ (s.gd.map Prod.fst).toList
theorem takes_arg (i : Ins) {n : Nat} (h : i.takes = (.t n, true)) : .t n ∈ i.args := by
  cases i
  case callT f ars j =>
    simp only [Ins.takes, Prod.mk.injEq, and_true] at h
    simp only [Ins.args]
    rw [List.getD_eq_getElem?_getD] at h
    cases hj : ars[j]? with
    | none => rw [hj] at h; cases h
    | some y => rw [hj] at h; simp at h; subst h; exact List.mem_of_getElem? hj
  all_goals (simp [Ins.takes] at h <;> simp [Ins.args, h])
section
variable {G : GV} {call : FuncId → List V → Objs → Option (V × Objs)} {ρ ρ' τ : List V} {σ σ1 : Objs} {s : Step}
theorem argT_congr {x : Arg} (h : ∀ n, x.slot = some n → ρ'.getD n .undef = ρ.getD n .undef) : argT G ρ' x = argT G ρ x := by
  cases x <;> first | rfl | exact h _ rfl
theorem wanted_congr {gd : Option (Nat × Bool)} (h : ∀ n ∈ (gd.map Prod.fst).toList, ρ'.getD n .undef = ρ.getD n .undef) : wanted ρ' gd = wanted ρ gd := by
  cases gd with
  | none => rfl
  | some p =>
    obtain ⟨g, b⟩ := p
    simp only [wanted]
    rw [h g (by simp)]
theorem put_get (d : Option Nat) (x : V) (t : Nat) : (put ρ d x)[t]? = if d = some t then (if t < ρ.length then some x else none) else ρ[t]? := by
  cases d with
  | none => simp [put]
  | some d =>
    simp only [put, List.getElem?_set, Option.some.injEq]
    by_cases hd : d = t
    · subst hd; rfl
    · rw [if_neg hd, if_neg hd]
theorem put_len (d : Option Nat) (x : V) : (put ρ d x).length = ρ.length := by cases d <;> simp [put]
theorem unslot_len (x : Arg) (tk : Bool) : (unslot ρ x tk).length = ρ.length := by
  unfold unslot; split <;> simp
def takesSlot (x : Arg) (tk : Bool) (t : Nat) : Bool := tk && x.slot == some t
theorem takesSlot_spec {x : Arg} {tk : Bool} {t : Nat} : takesSlot x tk t = true ↔ x = .t t ∧ tk = true := by
  unfold takesSlot
  cases tk <;> cases x <;> simp [Arg.slot]
theorem unslot_get (x : Arg) (tk : Bool) (t : Nat) : (unslot ρ x tk)[t]? = if takesSlot x tk t = true then (ρ[t]?).map V.ng else ρ[t]? := by
  by_cases hx : takesSlot x tk t = true
  · rw [if_pos hx]
    obtain ⟨rfl, rfl⟩ := takesSlot_spec.1 hx
    simp only [unslot, List.getElem?_set, if_true]
    by_cases hl : t < ρ.length
    · rw [if_pos hl]; simp [List.getD, List.getElem?_eq_getElem hl]
    · rw [if_neg hl]; simp [List.getElem?_eq_none (Nat.not_lt.1 hl)]
  · rw [if_neg hx]
    unfold unslot
    split
    · rename_i n
      rw [List.getElem?_set_ne (fun e => hx (takesSlot_spec.2 ⟨by rw [e], rfl⟩))]
    · rfl
theorem wr_dst {t : Nat} (h : s.dst = some t) : t ∈ s.wr := by simp [Step.wr, h]
theorem wr_take {t : Nat} (h : takesSlot s.ins.takes.1 s.ins.takes.2 t = true) : t ∈ s.wr := by
  obtain ⟨h1, h2⟩ := takesSlot_spec.1 h
  have : s.ins.takes = (Arg.t t, true) := Prod.ext h1 h2
  simp [Step.wr, this]
theorem wr_cases {t : Nat} (h : t ∈ s.wr) : s.dst = some t ∨ takesSlot s.ins.takes.1 s.ins.takes.2 t = true := by
  simp only [Step.wr, List.mem_append] at h
  rcases h with h | h
  · cases hq : s.dst with
    | none => rw [hq] at h; simp at h
    | some d => rw [hq] at h; simp at h; rw [h]; exact .inl rfl
  · split at h
    · rename_i n heq
      simp at h
      subst h
      exact .inr (takesSlot_spec.2 ⟨by rw [heq], by rw [heq]⟩)
    · simp at h
theorem evStep_frame (h : evStep G call s ρ σ = some (τ, σ1)) : τ.length = ρ.length ∧ ∀ t, t ∉ s.wr → τ[t]? = ρ[t]? := by
  unfold evStep ev1 at h
  simp only [Option.bind_eq_bind, Option.bind_eq_some_iff] at h
  obtain ⟨b, _, h⟩ := h
  cases b with
  | true =>
    simp only [if_true, Option.bind_eq_some_iff, Option.some.injEq, Prod.mk.injEq] at h
    obtain ⟨⟨v, σ2⟩, _, rfl, rfl⟩ := h
    refine ⟨by rw [put_len, unslot_len], fun t ht => ?_⟩
    rw [put_get, if_neg (fun e => ht (wr_dst e)), unslot_get, if_neg (fun e => ht (wr_take e))]
  | false =>
    simp only [Bool.false_eq_true, if_false, Option.some.injEq, Prod.mk.injEq] at h
    obtain ⟨rfl, rfl⟩ := h
    refine ⟨put_len .., fun t ht => ?_⟩
    rw [put_get, if_neg (fun e => ht (wr_dst e))]
theorem evStep_congr (h : evStep G call s ρ σ = some (τ, σ1)) (hl : ρ'.length = ρ.length) (hr : ∀ t ∈ s.rd, ρ'[t]? = ρ[t]?) :
    ∃ τ', evStep G call s ρ' σ = some (τ', σ1) ∧ ∀ t ∈ s.wr, τ'[t]? = τ[t]? := by
  have hr' : ∀ t ∈ s.rd, ρ'.getD t .undef = ρ.getD t .undef := fun t ht => by simp only [List.getD, hr t ht]
  have hw : wanted ρ' s.gd = wanted ρ s.gd := wanted_congr fun n hn => hr' n (List.mem_append_right _ hn)
  have hT : ∀ x ∈ s.ins.args, argT G ρ' x = argT G ρ x := fun x hx => argT_congr fun n hn => hr' n (List.mem_append_left _ (List.mem_filterMap.2 ⟨x, hx, hn⟩))
  have hA : ∀ x ∈ s.ins.args, arg G ρ' x = arg G ρ x := fun x hx => by unfold arg; rw [hT x hx]
  unfold evStep ev1 at h ⊢
  simp only [Option.bind_eq_bind, Option.bind_eq_some_iff] at h
  obtain ⟨b, hb, h⟩ := h
  simp only [Option.bind_eq_bind, hw, hb, Option.bind_some]
  have take : ∀ t, s.ins.takes = (Arg.t t, true) → ρ'[t]? = ρ[t]? := fun t ht => hr t (List.mem_append_left _ (List.mem_filterMap.2 ⟨_, takes_arg _ ht, rfl⟩))
  cases b with
  | true =>
    simp only [if_true, Option.bind_eq_some_iff, Option.some.injEq, Prod.mk.injEq] at h ⊢
    obtain ⟨⟨v, σ2⟩, hi, rfl, rfl⟩ := h
    refine ⟨_, ⟨(v, σ2), by rw [evIns_congr hA hT]; exact hi, rfl, rfl⟩, fun t ht => ?_⟩
    simp only
    rw [put_get, put_get, unslot_len, unslot_len, hl]
    by_cases hd : s.dst = some t
    · rw [if_pos hd, if_pos hd]
    · have htk := (wr_cases ht).resolve_left hd
      obtain ⟨h1, h2⟩ := takesSlot_spec.1 htk
      rw [if_neg hd, if_neg hd, unslot_get, unslot_get, if_pos htk, if_pos htk, take t (Prod.ext h1 h2)]
  | false =>
    simp only [Bool.false_eq_true, if_false, Option.some.injEq, Prod.mk.injEq] at h ⊢
    obtain ⟨rfl, rfl⟩ := h
    refine ⟨_, ⟨rfl, rfl⟩, fun t ht => ?_⟩
    rw [put_get, put_get, hl]
    by_cases hd : s.dst = some t
    · rw [if_pos hd, if_pos hd]
    · have htk := (wr_cases ht).resolve_left hd
      obtain ⟨h1, h2⟩ := takesSlot_spec.1 htk
      rw [if_neg hd, if_neg hd, take t (Prod.ext h1 h2)]
end
end Go.Ev
set_option linter.unusedSimpArgs false
set_option linter.unusedVariables false
namespace Go.Ev
open Go
def neutral : Ins → Bool
  | .mv .. | .pick .. | .build .. | .nilc _ | .bin .. | .un .. | .cutS .. | .cut .. | .cutA .. | .faddr .. | .field .. | .iaddr .. | .iaddrA .. | .idx .. | .idxA .. | .lenS _ | .len _ | .mkfn .. | .mkif .. | .extr .. | .mm .. | .mth .. | .nilm .. => true
  | .conv .bytesStr _ => false
  | .conv .. => true
  | .buildSl _ _ _ _ _ h => !h
  | .mkSl _ _ _ _ _ _ h => !h
  | .buildG .. => true
  | _ => false
def dly : Ins → Bool
  | .load .. | .loadT _ | .alloc _ | .box _ | .mkSl .. => true
  | i => neutral i
theorem evIns_neutral {call : FuncId → List V → Objs → Option (V × Objs)} {A T : Arg → V} {σ σ' σ2 : Objs} {i : Ins} {v : V} (hn : neutral i = true) (h : evIns call A T σ i = some (v, σ')) : σ' = σ ∧ evIns call A T σ2 i = some (v, σ2) := by
  have pure : ∀ (x : Option V), (do let v ← x; some (v.ng, σ)) = some (v, σ') → σ' = σ ∧ (do let v ← x; some (v.ng, σ2)) = some (v, σ2) := by
    intro x hx
    cases x with
    | none => cases hx
    | some y =>
      simp only [Option.bind_eq_bind, Option.bind_some, Option.some.injEq, Prod.mk.injEq, and_true] at hx ⊢
      exact ⟨hx.2.symm, hx.1⟩
  cases i <;> (try (cases hn; done)) <;> (try (exact pure _ h))
  case mv x tk =>
    simp only [evIns, Option.some.injEq, Prod.mk.injEq, and_true] at h ⊢
    exact ⟨h.2.symm, h.1⟩
  case conv k x =>
    have hq : ∀ k, k ≠ .bytesStr → eC σ k (A x) = eC σ2 k (A x) := fun k hk => by
      cases k <;> first | (unfold eC; cases A x <;> rfl) | exact absurd rfl hk
    cases k
    case bytesStr => cases hn
    case strBytes =>
      simp only [evIns] at h ⊢
      rw [hq _ (by simp)] at h
      cases hv : eC σ2 .strBytes (A x) with
      | none => rw [hv] at h; cases h
      | some y =>
        rw [hv] at h
        simp only [Option.bind_eq_bind, Option.bind_some, Option.some.injEq, Prod.mk.injEq, and_true] at h ⊢
        exact ⟨h.2.symm, h.1⟩
    all_goals
      simp only [evIns, evPure] at h ⊢
      rw [hq _ (by simp)] at h
      exact pure _ h
  case buildSl ag sz len z ps hh =>
    cases hh with
    | true => cases hn
    | false =>
      simp only [evIns, Option.bind_eq_bind, Option.bind_eq_some_iff, Bool.false_eq_true, if_false] at h ⊢
      obtain ⟨xs, hx, h⟩ := h
      split at h
      · cases h; exact ⟨rfl, xs, hx, by rw [if_pos (by assumption)]⟩
      · cases h
  case buildG ag sz len z ps =>
    simp only [evIns, Option.bind_eq_bind, Option.bind_eq_some_iff] at h ⊢
    obtain ⟨xs, hx, h⟩ := h
    split at h
    · cases h; exact ⟨rfl, xs, hx, by rw [if_pos (by assumption)]⟩
    · cases h
  case mkSl ag sz bytes z l c hh =>
    cases hh with
    | true => cases hn
    | false =>
      simp only [evIns, Option.bind_eq_bind, Option.bind_eq_some_iff, Bool.false_eq_true, if_false] at h ⊢
      obtain ⟨l, hl, c, hc, h⟩ := h
      split at h
      · cases h; exact ⟨rfl, l, hl, c, hc, by rw [if_pos (by assumption)]⟩
      · cases h
section
variable (P : Program) (ops : Array Oper) (l : List DS)
def dsAt (l : List DS) (p : Nat) : DS := l.getD p ⟨⟨none, none, .mkmp⟩, 0, []⟩
def place (l : List DS) (i : Nat) : Nat := l.findIdx (·.op == i)
def edges (ops : Array Oper) (l : List DS) (p : Nat) : List Nat :=
  match ops[(dsAt l p).op]? with
  | some o => (o.after.toList.filter (Region.binds .any)).map fun e => place l e.on
  | none => []
def depsOf (ops : Array Oper) (l : List DS) : Nat → List (List Nat) → List (List Nat)
  | 0, acc => acc
  | n + 1, acc =>
    let es := edges ops l acc.length
    depsOf ops l n (acc ++ [(List.range acc.length).filter fun q => es.contains q || es.any fun r => (acc.getD r []).contains q])
def apart (a b : Step) : Bool := a.wr.all (fun t => !b.wr.contains t && !b.rd.contains t) && b.wr.all (fun t => !a.rd.contains t)
structure DrwOK (P : Program) (ops : Array Oper) (l : List DS) (dp : List (List Nat)) : Prop where
  len : l.length = ops.size
  step : ∀ p, p < l.length → ∃ o, ops[(dsAt l p).op]? = some o ∧ chkStep P ops o (dsAt l p).s = true
  inj : ∀ p q, p < l.length → q < l.length → (dsAt l p).op = (dsAt l q).op → p = q
  all : ∀ i, i < ops.size → place l i < l.length
  edge : ∀ p, p < l.length → ∀ q ∈ edges ops l p, q < p
  dep : ∀ p, p < l.length → ∀ q ∈ dp.getD p [], q ∈ edges ops l p ∨ ∃ r ∈ edges ops l p, q ∈ dp.getD r []
  pair : ∀ p, p < l.length → ∀ q, q < p → q ∈ dp.getD p [] ∨ (apart (dsAt l q).s (dsAt l p).s = true ∧ dly (dsAt l q).s.ins = true ∧ (dly (dsAt l p).s.ins = true ∨ neutral (dsAt l q).s.ins = true ∨ q ∈ (dsAt l p).un))
  un : ∀ p, p < l.length → dly (dsAt l p).s.ins = true → (dsAt l p).un = []
  unlt : ∀ p, p < l.length → ∀ k ∈ (dsAt l p).un, k < p
  sub : ∀ p, p < l.length → ∀ q ∈ edges ops l p, q ∈ dp.getD p []
def chkDrw (P : Program) (ops : Array Oper) (l : List DS) : Bool :=
  let dp := depsOf ops l l.length []
  let r := List.range l.length
  decide (l.length = ops.size) &&
  r.all (fun p => match ops[(dsAt l p).op]? with | some o => chkStep P ops o (dsAt l p).s | none => false) &&
  r.all (fun p => decide (place l (dsAt l p).op = p)) &&
  (List.range ops.size).all (fun i => decide (place l i < l.length)) &&
  r.all (fun p => (edges ops l p).all fun q => decide (q < p)) &&
  r.all (fun p => (dp.getD p []).all fun q => (edges ops l p).contains q || (edges ops l p).any fun r => (dp.getD r []).contains q) &&
  r.all (fun p => (List.range p).all fun q => (dp.getD p []).contains q || (apart (dsAt l q).s (dsAt l p).s && dly (dsAt l q).s.ins && (dly (dsAt l p).s.ins || neutral (dsAt l q).s.ins || (dsAt l p).un.contains q))) &&
  r.all (fun p => !dly (dsAt l p).s.ins || (dsAt l p).un.isEmpty) &&
  r.all (fun p => (dsAt l p).un.all fun k => decide (k < p)) &&
  r.all (fun p => (edges ops l p).all fun q => (dp.getD p []).contains q)
theorem chkDrw_ok {P : Program} {ops : Array Oper} {l : List DS} (h : chkDrw P ops l = true) : ∃ dp, DrwOK P ops l dp := by
  unfold chkDrw at h
  simp only [Bool.and_eq_true, decide_eq_true_eq, List.all_eq_true, List.mem_range] at h
  obtain ⟨⟨⟨⟨⟨⟨⟨⟨⟨h1, h2⟩, h3⟩, h4⟩, h5⟩, h6⟩, h7⟩, h8⟩, h9⟩, h10⟩ := h
  refine ⟨depsOf ops l l.length [], h1, fun p hp => ?_, fun p q hp hq e => ?_, h4, h5, fun p hp q hq => ?_, fun p hp q hq => ?_, fun p hp hd => ?_, h9, fun p hp q hq => by have := h10 p hp q hq; rwa [List.contains_iff_mem] at this⟩
  · have := h2 p hp
    split at this
    · exact ⟨_, by assumption, this⟩
    · cases this
  · rw [← h3 p hp, ← h3 q hq, e]
  · have := h6 p hp q hq
    simp only [Bool.or_eq_true, List.contains_iff_mem, List.any_eq_true] at this
    exact this
  · have := h7 p hp q hq
    simp only [Bool.or_eq_true, Bool.and_eq_true, List.contains_iff_mem] at this
    rcases this with h | ⟨⟨h, k⟩, m⟩
    · exact .inl h
    · exact .inr ⟨h, k, by rcases m with (m | m) | m <;> simp [m]⟩
  · have := h8 p hp
    rw [hd] at this
    simpa using this
theorem apart_spec {a b : Step} (h : apart a b = true) : (∀ t ∈ a.wr, t ∉ b.wr ∧ t ∉ b.rd) ∧ ∀ t ∈ b.wr, t ∉ a.rd := by
  unfold apart at h
  simp only [Bool.and_eq_true, List.all_eq_true, Bool.not_eq_true', List.contains_eq_mem, decide_eq_false_iff_not] at h
  exact h
theorem deps_in {P : Program} {ops : Array Oper} {l : List DS} {dp : List (List Nat)} (hk : DrwOK P ops l dp) {L : Nat → Prop} (hL : ∀ p, L p → p < l.length → ∀ q ∈ edges ops l p, L q) :
    ∀ p, p < l.length → (∀ q ∈ edges ops l p, L q) → ∀ q ∈ dp.getD p [], L q := by
  intro p
  induction p using Nat.strongRecOn with
  | _ p ih =>
    intro hp he q hq
    rcases hk.dep p hp q hq with hq | ⟨r, hr, hq⟩
    · exact he q hq
    · have hrp := hk.edge p hp r hr
      exact ih r hrp (by omega) (hL r (he r hr) (by omega)) q hq
end
section
variable (G : GV) (call : FuncId → List V → Objs → Option (V × Objs))
def rdAt (l : List DS) (R : Nat → List V) (S : Nat → Objs) (k : Nat) : Rd :=
  if (wanted (R k) (dsAt l k).s.gd).getD false then reads (arg G (R k)) (S k) (dsAt l k).s.ins else .none
def OneStep (past : Nat → Rd) (d : DS) (ρ ρ' : List V) (σ σ' : Objs) : Prop :=
  ∃ σ0 σ1, lockC σ ((d.un.map past).filterMap Rd.cell) = some σ0 ∧ evStep G call d.s ρ σ0 = some (ρ', σ1) ∧ openC σ1 ((d.un.map past).filterMap Rd.cell) = some σ' ∧ ∀ k ∈ d.un, stable σ σ' (past k) = true
theorem trace_of : ∀ (l : List DS) (past : List Rd) (ρ : List V) (σ : Objs) (ρn : List V) (σn : Objs), evDrw G call past l ρ σ = some (ρn, σn) →
    ∃ (R : Nat → List V) (S : Nat → Objs), R 0 = ρ ∧ S 0 = σ ∧ R l.length = ρn ∧ S l.length = σn ∧
      ∀ j, j < l.length → OneStep G call (fun k => (past ++ (List.range j).map (rdAt G l R S)).getD k .none) (dsAt l j) (R j) (R (j + 1)) (S j) (S (j + 1))
  | [], past, ρ, σ, ρn, σn, h => by
    simp only [evDrw, Option.some.injEq, Prod.mk.injEq] at h
    obtain ⟨rfl, rfl⟩ := h
    exact ⟨fun _ => ρ, fun _ => σ, rfl, rfl, rfl, rfl, fun j hj => absurd hj (by simp)⟩
  | d :: l, past, ρ, σ, ρn, σn, h => by
    simp only [evDrw, Option.bind_eq_bind, Option.bind_eq_some_iff] at h
    obtain ⟨σ0, h0, ⟨ρ1, σ1⟩, h1, σ', h2, h3⟩ := h
    split at h3
    · rename_i hst
      obtain ⟨R, S, hR, hS, hRn, hSn, hrest⟩ := trace_of l _ _ _ _ _ h3
      refine ⟨fun | 0 => ρ | j + 1 => R j, fun | 0 => σ | j + 1 => S j, rfl, rfl, hRn, hSn, fun j hj => ?_⟩
      cases j with
      | zero =>
        refine ⟨σ0, σ1, ?_, ?_, ?_, ?_⟩
        · show lockC σ ((d.un.map _).filterMap Rd.cell) = some σ0
          simpa using h0
        · show evStep G call d.s ρ σ0 = some (R 0, σ1)
          rw [hR]; exact h1
        · show openC σ1 _ = some (S 0)
          rw [hS]
          show openC σ1 ((d.un.map _).filterMap Rd.cell) = some σ'
          simpa using h2
        · intro k hk
          show stable σ (S 0) _ = true
          rw [hS]
          have := List.all_eq_true.1 hst (past.getD k .none) (List.mem_map.2 ⟨k, hk, rfl⟩)
          simpa using this
      | succ j =>
        have := hrest j (by simpa using hj)
        have e : (fun k => ((past ++ [if (wanted ρ d.s.gd).getD false = true then reads (arg G ρ) σ d.s.ins else .none]) ++ (List.range j).map (rdAt G l R S)).getD k .none) =
            fun k => (past ++ (List.range (j + 1)).map (rdAt G (d :: l) (fun | 0 => ρ | j + 1 => R j) (fun | 0 => σ | j + 1 => S j))).getD k .none := by
          rw [List.range_succ_eq_map, List.map_cons, List.map_map, List.append_assoc]
          rfl
        rw [e] at this
        exact this
    · cases h3
end
end Go.Ev
set_option linter.unusedSimpArgs false
set_option linter.unusedVariables false
namespace Go.Ev
open Go
mutual
theorem V.beq_eq : ∀ (x y : V), V.beq x y = true → x = y
  | .any, y, h => by cases y <;> simp [V.beq] at h <;> rfl
  | .undef, y, h => by cases y <;> simp [V.beq] at h <;> rfl
  | .nilp, y, h => by cases y <;> simp [V.beq] at h <;> rfl
  | .nils, y, h => by cases y <;> simp [V.beq] at h <;> rfl
  | .nili, y, h => by cases y <;> simp [V.beq] at h <;> rfl
  | .nilf, y, h => by cases y <;> simp [V.beq] at h <;> rfl
  | .nilm, y, h => by cases y <;> simp [V.beq] at h <;> rfl
  | .bool a, y, h => by cases y <;> simp [V.beq] at h; rw [h]
  | .int k a, y, h => by cases y <;> simp [V.beq] at h; rw [h.1, h.2]
  | .str a, y, h => by cases y <;> simp [V.beq] at h; rw [h]
  | .ptr a i, y, h => by cases y <;> simp [V.beq] at h; rw [h.1, h.2]
  | .eptr a i, y, h => by
    cases y <;> simp [V.beq] at h
    rw [V.beqs_eq _ _ h.1, h.2]
  | .sl a i, y, h => by
    cases y <;> simp [V.beq] at h
    rw [V.beqs_eq _ _ h.1, h.2]
  | .hs a b c d e, y, h => by cases y <;> simp [V.beq] at h; obtain ⟨⟨⟨⟨h1, h2⟩, h3⟩, h4⟩, h5⟩ := h; rw [h1, h2, h3, h4, h5]
  | .agg a, y, h => by
    cases y <;> simp [V.beq] at h
    rw [V.beqs_eq _ _ h]
  | .tup a, y, h => by
    cases y <;> simp [V.beq] at h
    rw [V.beqs_eq _ _ h]
  | .ifc t a, y, h => by
    cases y <;> simp [V.beq] at h
    rw [h.1, V.beq_eq _ _ h.2]
  | .fn f a b, y, h => by
    cases y <;> simp [V.beq] at h
    rw [h.1.1, V.beqs_eq _ _ h.1.2, V.beqs_eq _ _ h.2]
  | .mp a, y, h => by cases y <;> simp [V.beq] at h; rw [h]
  | .hg a b c d, y, h => by cases y <;> simp [V.beq] at h; obtain ⟨⟨⟨h1, h2⟩, h3⟩, h4⟩ := h; rw [h1, h2, h3, h4]
  | .mth k a, y, h => by
    cases y <;> simp [V.beq] at h
    rw [h.1, V.beq_eq _ _ h.2]
theorem V.beqs_eq : ∀ (x y : List V), V.beqs x y = true → x = y
  | [], [], _ => rfl
  | [], _ :: _, h => by simp [V.beqs] at h
  | _ :: _, [], h => by simp [V.beqs] at h
  | x :: xs, y :: ys, h => by
    simp only [V.beqs, Bool.and_eq_true] at h
    rw [V.beq_eq x y h.1, V.beqs_eq xs ys h.2]
end
section
variable {P : Program} {M : Mem} {ι : Plc} {X : Nat → Prop} {κ : Own} {w : World} {us : List Value} {ρ : List V} {σ : Objs}
theorem rep_cap {v : Value} {xs : List V} {c c' : Cap} (h : Rep M ι v (.sl xs c)) (hc : c' ≠ .fx) (hg : ∀ s, c' ≠ .gr s) : Rep M ι v (.sl xs c') := by
  cases h with
  | sl0 a _ _ => exact .sl0 a c' hg
  | sl _ _ b off cap sz us h1 h2 h3 h4 h5 h6 => exact .sl xs c' b off cap sz us h1 h2 h3 h4 h5 (fun e => absurd e hc)
theorem set_get_ne {σ : Objs} {o o' : Nat} {x : O} (h : o ≠ o') : (σ.set o x)[o']? = σ[o']? := List.getElem?_set_ne h
theorem lkAt_set {cs : List V} {o off : Nat} {y : V} (ho : σ[o]? = some (.cells cs)) {o' i : Nat} : lkAt (σ.set o (.cells (cs.set off y))) o' i ↔ if (o', i) = (o, off) then (y.isLk = true ∧ off < cs.length) else lkAt σ o' i := by
  have hol : o < σ.length := (List.getElem?_eq_some_iff.1 ho).1
  by_cases hoo : o = o'
  · subst hoo
    by_cases hi : off = i
    · subst hi
      rw [if_pos rfl]
      constructor
      · rintro ⟨ds, x, h1, h2, h3⟩
        rw [List.getElem?_set_self hol] at h1
        cases h1
        rw [List.getElem?_set] at h2
        rw [if_pos rfl] at h2
        split at h2
        · cases h2; exact ⟨h3, by assumption⟩
        · cases h2
      · rintro ⟨h1, h2⟩
        exact ⟨_, y, List.getElem?_set_self hol, by rw [List.getElem?_set_self h2], h1⟩
    · rw [if_neg (fun e => hi (by cases e; rfl))]
      constructor
      · rintro ⟨ds, x, h1, h2, h3⟩
        rw [List.getElem?_set_self hol] at h1
        cases h1
        rw [List.getElem?_set_ne hi] at h2
        exact ⟨cs, x, ho, h2, h3⟩
      · rintro ⟨ds, x, h1, h2, h3⟩
        rw [ho] at h1; cases h1
        exact ⟨_, x, List.getElem?_set_self hol, by rw [List.getElem?_set_ne hi]; exact h2, h3⟩
  · rw [if_neg (fun e => hoo (by cases e; rfl))]
    unfold lkAt
    rw [set_get_ne hoo]
theorem lock_spec : ∀ (l : List (Nat × Nat)) (σ σ0 : Objs), lockC σ l = some σ0 → (St M ι X κ w us ρ σ → St M ι X κ w us ρ σ0) ∧ σ0.length = σ.length ∧ ∀ o i, lkAt σ0 o i → lkAt σ o i ∨ (o, i) ∈ l
  | [], σ, σ0, h => by
    simp only [lockC, Option.some.injEq] at h
    subst h
    exact ⟨id, rfl, fun o i h => .inl h⟩
  | (o, off) :: r, σ, σ0, h => by
    simp only [lockC] at h
    split at h
    · rename_i cs hcs
      split at h
      · rename_i xs c hc
        obtain ⟨h1, h2, h3⟩ := lock_spec r _ _ h
        have ho := get_cells hcs
        refine ⟨fun hs => h1 (hs.weakCell ho hc rfl (fun v hr => rep_cap hr (by simp) (by simp)) (fun v => ?_)), by rw [h2, List.length_set], fun o' i hl => ?_⟩
        · exact ownB_notgr (fun xs s e => by cases e)
        · rcases h3 o' i hl with hl | hl
          · rw [lkAt_set ho] at hl
            split at hl
            · rename_i e; right; rw [e]; exact List.mem_cons_self ..
            · exact .inl hl
          · exact .inr (List.mem_cons_of_mem _ hl)
      · cases h
    · cases h
theorem open_spec : ∀ (l : List (Nat × Nat)) (σ σ0 : Objs), openC σ l = some σ0 → (St M ι X κ w us ρ σ → St M ι X κ w us ρ σ0) ∧ σ0.length = σ.length ∧ (∀ o i, lkAt σ0 o i → lkAt σ o i ∧ (o, i) ∉ l) ∧ ∀ p ∈ l, lkAt σ p.1 p.2
  | [], σ, σ0, h => by
    simp only [openC, Option.some.injEq] at h
    subst h
    exact ⟨id, rfl, fun o i h => ⟨h, by simp⟩, fun p hp => by simp at hp⟩
  | (o, off) :: r, σ, σ0, h => by
    simp only [openC] at h
    split at h
    · rename_i cs hcs
      split at h
      · rename_i xs hc
        obtain ⟨h1, h2, h3, h4⟩ := open_spec r _ _ h
        have ho := get_cells hcs
        refine ⟨fun hs => h1 (hs.weakCell ho hc rfl (fun v hr => rep_cap hr (by simp) (by simp)) (fun v => ?_)), by rw [h2, List.length_set], fun o' i hl => ?_, fun p hp => ?_⟩
        · exact ownB_notgr (fun xs s e => by cases e)
        · obtain ⟨hl, hn⟩ := h3 o' i hl
          rw [lkAt_set ho] at hl
          split at hl
          · exact absurd hl.1 (by simp [V.isLk])
          · rename_i hne
            exact ⟨hl, fun hm => by
              rcases List.mem_cons.1 hm with hm | hm
              · exact hne hm
              · exact hn hm⟩
        · rcases List.mem_cons.1 hp with rfl | hp
          · exact ⟨cs, _, ho, hc, rfl⟩
          · have := h4 p hp
            rw [lkAt_set ho] at this
            split at this
            · exact absurd this.1 (by simp [V.isLk])
            · exact this
      · cases h
    · cases h
theorem St.snoc (h : St M ι X κ w us ρ σ) (O : O) : St M ι X κ w us ρ (σ ++ [O]) := by
  have key : ∀ p v x, At ι w us ρ (σ ++ [O]) p v x → At ι w us ρ σ p v x := by
    intro p v x ha
    cases p with
    | s i => exact ha
    | c o i =>
      obtain ⟨b, ws, T, fz, cs, h1, h2, h3, h4, h5⟩ := ha
      rw [List.getElem?_append_left (h.wd.lt_of h1)] at h3
      exact ⟨b, ws, T, fz, cs, h1, h2, h3, h4, h5⟩
  exact ⟨⟨h.wd.mem, fun o b hi => by
    obtain ⟨O', hO, hr⟩ := h.wd.obj o b hi
    exact ⟨O', by rw [List.getElem?_append_left (h.wd.lt_of hi)]; exact hO, hr⟩, h.wd.olt, fun q q' c g1 g2 g3 g4 => h.wd.inj q q' c g1 g2 (by rwa [List.getElem?_append_left (h.wd.lt_of g1)] at g3) (by rwa [List.getElem?_append_left (h.wd.lt_of g2)] at g4), h.wd.xlt, h.wd.xobj, h.wd.kap, h.wd.szs⟩, h.rep, fun p v x b ha hb => h.own p v x b (key p v x ha) hb, fun p v x ha => h.gr p v x (key p v x ha)⟩
theorem St.mapO (h : St M ι X κ w us ρ σ) {q : Nat} {cs : List V} (hι0 : ι q = none) (hq : σ[q]? = some (.cells cs)) (ars : Array Value) (T : TypeId) (fz : Nat × Nat) (hr : Reps M ι (ars.toList.take cs.length) cs)
    (hfz : ∀ i, i < cs.length → frozenAt fz i = false) (hone : ∀ c ∈ cs, c.one = true) (hno : ∀ c ∈ cs, ∀ v, ownB v c = none) :
    ∃ M' ι', Ext X M ι w M' ι' (pushB w (.cells ars T fz)) ∧ ι' q = some w.heap.size ∧ St M' ι' X κ (pushB w (.cells ars T fz)) us ρ σ ∧ ∀ o, o ≠ q → ι' o = ι o := by
  have hst := h.push (.cells ars T fz) [] (fun i u hu => by simp at hu)
  have hM := h.wd.pushM_le []
  have hι := h.wd.more_le (n := none) hι0
  have hat : ∀ o, ι.more q w.heap.size none o = if o = q then some w.heap.size else ι o := fun o => rfl
  refine ⟨pushM M w.heap.size [], ι.more q w.heap.size none, ⟨hM, hι, fun b i hx => pushM_old (by have := h.wd.xlt b hx; omega), by rw [pushB_size]; omega, fun b hx => pushB_old w _ (h.wd.xlt b hx), rfl, rfl, rfl⟩, by rw [hat, if_pos rfl], ⟨⟨hst.wd.mem, ?_, ?_, ?_, hst.wd.xlt, ?_, ?_, ?_⟩, hst.rep.mono (.refl _) hι, ?_, ?_⟩, fun o ho => by rw [hat, if_neg ho]⟩
  · intro o b hb
    rw [hat] at hb
    by_cases ho : o = q
    · subst ho
      rw [if_pos rfl] at hb
      cases hb
      refine ⟨.cells cs, hq, ars, T, fz, pushB_new w _, hr.mono hM hι, hfz, fun i => by rw [pushM_new]; simp, hone⟩
    · rw [if_neg ho] at hb
      obtain ⟨O, hO, hor⟩ := h.wd.obj o b hb
      exact ⟨O, hO, hor.push h.wd hM (fun b i hb => pushM_old (by omega)) hι _ (h.wd.olt o b hb)⟩
  · intro o b hb
    rw [hat] at hb
    by_cases ho : o = q
    · rw [if_pos ho] at hb; cases hb; rw [pushB_size]; omega
    · rw [if_neg ho] at hb; exact hst.wd.olt o b hb
  · intro o o' b hb hb' g3 g4
    rw [hat] at hb hb'
    by_cases ho : o = q
    · by_cases ho' : o' = q
      · rw [ho, ho']
      · rw [if_pos ho] at hb; rw [if_neg ho'] at hb'
        cases hb; exact absurd hb' (inew h.wd o')
    · by_cases ho' : o' = q
      · rw [if_neg ho] at hb; rw [if_pos ho'] at hb'
        cases hb'; exact absurd hb (inew h.wd o)
      · rw [if_neg ho] at hb; rw [if_neg ho'] at hb'
        exact h.wd.inj o o' b hb hb' g3 g4
  · intro o b hb
    rw [hat] at hb
    by_cases ho : o = q
    · rw [if_pos ho] at hb; cases hb; intro hx; have := h.wd.xlt _ hx; omega
    · rw [if_neg ho] at hb; exact h.wd.xobj o b hb
  · intro b p hp
    obtain ⟨h1, h2, h3⟩ := h.wd.kap b p hp
    refine ⟨h1, fun o ho => ?_, by rw [pushB_size]; omega⟩
    rw [hat] at ho
    by_cases hoo : o = q
    · rw [if_pos hoo] at ho; cases ho; omega
    · rw [if_neg hoo] at ho; exact h2 o ho
  · intro b k hk
    rw [more_sz] at hk
    by_cases hb : b = w.heap.size
    · rw [if_pos hb] at hk; cases hk
    · rw [if_neg hb] at hk
      obtain ⟨⟨o, ho⟩, h2⟩ := hst.wd.szs b k hk
      exact ⟨⟨o, hι.le o b ho⟩, h2⟩
  all_goals
    have key : ∀ p v x, At (ι.more q w.heap.size none) (pushB w (.cells ars T fz)) us ρ σ p v x → At ι (pushB w (.cells ars T fz)) us ρ σ p v x ∨ ownB v x = none := by
      intro p v x ha
      cases p with
      | s i => exact .inl ha
      | c o i =>
        obtain ⟨b, ws, T', fz', cs', h1, h2, h3, h4, h5⟩ := ha
        rw [hat] at h1
        by_cases ho : o = q
        · subst ho
          rw [hq] at h3
          cases h3
          exact .inr (hno x (List.mem_of_getElem? h5) v)
        · rw [if_neg ho] at h1
          exact .inl ⟨b, ws, T', fz', cs', h1, h2, h3, h4, h5⟩
  · intro p v x b ha hb
    rcases key p v x ha with ha | hn
    · exact hst.own p v x b ha hb
    · rw [hn] at hb; cases hb
  · intro p v x ha
    rcases key p v x ha with ha | hn
    · exact hst.gr p v x ha
    · exact .of_none hn
end
end Go.Ev
set_option linter.unusedSimpArgs false
set_option linter.unusedVariables false
namespace Go.Ev
open Go
section
variable {P : Program} {ops : Array Oper} {l : List DS} {dp : List (List Nat)} {G : GV} {call : FuncId → List V → Objs → Option (V × Objs)} {R : Nat → List V} {S : Nat → Objs}
def Canon (G : GV) (call : FuncId → List V → Objs → Option (V × Objs)) (l : List DS) (R : Nat → List V) (S : Nat → Objs) : Prop :=
  ∀ j, j < l.length → OneStep G call (rdAt G l R S) (dsAt l j) (R j) (R (j + 1)) (S j) (S (j + 1))
theorem canon_of (hk : DrwOK P ops l dp) (h : ∀ j, j < l.length → OneStep G call (fun k => (([] : List Rd) ++ (List.range j).map (rdAt G l R S)).getD k .none) (dsAt l j) (R j) (R (j + 1)) (S j) (S (j + 1))) : Canon G call l R S := by
  intro j hj
  obtain ⟨σ0, σ1, h1, h2, h3, h4⟩ := h j hj
  have e : ∀ k ∈ (dsAt l j).un, (([] : List Rd) ++ (List.range j).map (rdAt G l R S)).getD k .none = rdAt G l R S k := fun k hk' => by
    have hlt := hk.unlt j hj k hk'
    simp [List.getD, hlt]
  have em : (dsAt l j).un.map (fun k => (([] : List Rd) ++ (List.range j).map (rdAt G l R S)).getD k .none) = (dsAt l j).un.map (rdAt G l R S) := List.map_congr_left e
  rw [em] at h1 h3
  exact ⟨σ0, σ1, h1, h2, h3, fun k hk' => by rw [← e k hk']; exact h4 k hk'⟩
theorem Canon.frame (h : Canon G call l R S) {p : Nat} (hp : p < l.length) : (R (p + 1)).length = (R p).length ∧ ∀ t, t ∉ (dsAt l p).s.wr → (R (p + 1))[t]? = (R p)[t]? := by
  obtain ⟨σ0, σ1, _, h2, _⟩ := h p hp
  exact evStep_frame h2
theorem Canon.len (h : Canon G call l R S) : ∀ p, p ≤ l.length → (R p).length = (R 0).length
  | 0, _ => rfl
  | p + 1, hp => (h.frame (by omega)).1.trans (h.len p (by omega))
def SlotOK (l : List DS) (R : Nat → List V) (L : Nat → Prop) (ρ : List V) : Prop :=
  ρ.length = (R 0).length ∧ ∀ t m, m ≤ l.length → (∀ q, q < m → t ∈ (dsAt l q).s.wr → L q) → (∀ q, m ≤ q → q < l.length → t ∈ (dsAt l q).s.wr → ¬ L q) → ρ[t]? = (R m)[t]?
structure Closed (l : List DS) (dp : List (List Nat)) (L : Nat → Prop) : Prop where
  lt : ∀ p, L p → p < l.length
  dep : ∀ p, L p → ∀ q ∈ dp.getD p [], L q
variable {L : Nat → Prop} {ρ : List V}
theorem slot_read (hk : DrwOK P ops l dp) (hL : Closed l dp L) (hs : SlotOK l R L ρ) {p : Nat} (hp : p < l.length) (hn : ¬ L p) (hd : ∀ q ∈ dp.getD p [], L q) {t : Nat} (ht : t ∈ (dsAt l p).s.rd ∨ t ∈ (dsAt l p).s.wr) : ρ[t]? = (R p)[t]? := by
  refine hs.2 t p (by omega) (fun q hq hw => ?_) (fun q hq hql hw hLq => ?_)
  · rcases hk.pair p hp q hq with h | ⟨h, _⟩
    · exact hd q h
    · have := (apart_spec h).1 t hw
      rcases ht with ht | ht
      · exact absurd ht this.2
      · exact absurd ht this.1
  · rcases Nat.lt_or_ge p q with hpq | hpq
    · rcases hk.pair q hql p hpq with h | ⟨h, _⟩
      · exact hn (hL.dep q hLq p h)
      · rcases ht with ht | ht
        · exact (apart_spec h).2 t hw ht
        · exact ((apart_spec h).1 t ht).1 hw
    · have : q = p := by omega
      subst this
      exact hn hLq
theorem slot_step (hk : DrwOK P ops l dp) (hc : Canon G call l R S) (hL : Closed l dp L) (hs : SlotOK l R L ρ) {p : Nat} (hp : p < l.length) (hn : ¬ L p) {ρ' : List V} (hlen : ρ'.length = ρ.length)
    (hw : ∀ t ∈ (dsAt l p).s.wr, ρ'[t]? = (R (p + 1))[t]?) (hnw : ∀ t, t ∉ (dsAt l p).s.wr → ρ'[t]? = ρ[t]?) : SlotOK l R (fun q => L q ∨ q = p) ρ' := by
  refine ⟨hlen.trans hs.1, fun t m hm h1 h2 => ?_⟩
  by_cases ht : t ∈ (dsAt l p).s.wr
  · have hpm : p < m := by
      rcases Nat.lt_or_ge p m with h | h
      · exact h
      · exact absurd (.inr rfl) (h2 p h hp ht)
    rw [hw t ht]
    have key : ∀ k, p + 1 + k ≤ m → (R (p + 1))[t]? = (R (p + 1 + k))[t]? := by
      intro k
      induction k with
      | zero => intro _; rfl
      | succ k ih =>
        intro hkm
        have hj : p + 1 + k < l.length := by omega
        rw [ih (by omega), show p + 1 + (k + 1) = (p + 1 + k) + 1 from rfl, (hc.frame hj).2 t ?_]
        intro hwj
        have hLj := (h1 (p + 1 + k) (by omega) hwj).resolve_right (by omega)
        rcases hk.pair (p + 1 + k) hj p (by omega) with h | ⟨h, _⟩
        · exact hn (hL.dep _ hLj p h)
        · exact ((apart_spec h).1 t ht).1 hwj
    have := key (m - (p + 1)) (by omega)
    rwa [show p + 1 + (m - (p + 1)) = m from by omega] at this
  · rw [hnw t ht]
    refine hs.2 t m hm (fun q hq hwq => ?_) (fun q hq hql hwq hLq => h2 q hq hql hwq (.inl hLq))
    rcases h1 q hq hwq with h | rfl
    · exact h
    · exact absurd hwq ht
def noGr (x : V) : Prop := ∀ xs s, x ≠ .sl xs (.gr s)
def Same (σ σ' : Objs) : Rd → Prop
  | .same ex o off n => ∃ cs ds, Objs.get σ o = some cs ∧ Objs.get σ' o = some ds ∧ cs.length = ds.length ∧ (if ex then (cs.drop off).take n = (ds.drop off).take n else ((cs.drop off).take n).map V.ng = ((ds.drop off).take n).map V.ng)
  | .made o => ∃ cs, Objs.get σ o = some cs ∧ Objs.get σ' o = some cs
  | _ => True
def Quiet (σ : Objs) : Rd → Prop
  | .same true o off n => ∀ cs, Objs.get σ o = some cs → ∀ x ∈ (cs.drop off).take n, noGr x
  | .made o => ∀ cs, Objs.get σ o = some cs → ∀ x ∈ cs, noGr x
  | _ => True
theorem stable_same {σ σ' : Objs} {r : Rd} (h : stable σ σ' r = true) : Same σ σ' r := by
  cases r with
  | none => trivial
  | took => trivial
  | same ex o off n =>
    simp only [stable] at h
    split at h
    · rename_i cs ds h1 h2
      simp only [Bool.and_eq_true, decide_eq_true_eq] at h
      refine ⟨cs, ds, h1, h2, h.1, ?_⟩
      cases ex
      · simp only [Bool.false_eq_true, if_false] at h ⊢; exact V.beqs_eq _ _ h.2
      · simp only [if_true] at h ⊢; exact V.beqs_eq _ _ h.2
    · cases h
  | made o =>
    simp only [stable] at h
    split at h
    · rename_i cs ds h1 h2
      have := V.beqs_eq _ _ h
      subst this
      exact ⟨cs, h1, h2⟩
    · cases h
theorem Same.trans {σ σ' σ'' : Objs} {r : Rd} (h : Same σ σ' r) (k : Same σ' σ'' r) : Same σ σ'' r := by
  cases r with
  | none => trivial
  | took => trivial
  | same ex o off n =>
    obtain ⟨cs, ds, h1, h2, h3, h4⟩ := h
    obtain ⟨ds', es, k1, k2, k3, k4⟩ := k
    rw [h2] at k1; cases k1
    refine ⟨cs, es, h1, k2, h3.trans k3, ?_⟩
    cases ex <;> simp only [Bool.false_eq_true, if_false, if_true] at h4 k4 ⊢ <;> exact h4.trans k4
  | made o =>
    obtain ⟨cs, h1, h2⟩ := h
    obtain ⟨ds, k1, k2⟩ := k
    rw [h2] at k1; cases k1
    exact ⟨cs, h1, k2⟩
theorem Quiet.same {σ σ' : Objs} {r : Rd} (h : Quiet σ r) (k : Same σ σ' r) : Quiet σ' r := by
  cases r with
  | none => trivial
  | took => trivial
  | same ex o off n =>
    cases ex with
    | false => trivial
    | true =>
      obtain ⟨cs, ds, k1, k2, k3, k4⟩ := k
      intro es he x hx
      rw [k2] at he; cases he
      simp only [if_true] at k4
      rw [← k4] at hx
      exact h cs k1 x hx
  | made o =>
    obtain ⟨cs, k1, k2⟩ := k
    intro es he x hx
    rw [k2] at he; cases he
    exact h cs k1 x hx
inductive Late (σ : Objs) : Objs → Prop
  | stay : Late σ σ
  | took (o off : Nat) (cs xs : List V) (s : Nat) (h : σ[o]? = some (.cells cs)) (hx : cs[off]? = some (.sl xs (.gr s))) : Late σ (σ.set o (.cells (cs.set off (.sl xs .no))))
  | made (cs : List V) : Late σ (σ ++ [.cells cs])
theorem get_of {σ : Objs} {o : Nat} {cs : List V} (h : σ[o]? = some (.cells cs)) : Objs.get σ o = some cs := by unfold Objs.get; rw [h]
theorem drop_take_set {cs : List V} {off n i : Nat} {y : V} : (((cs.set i y).drop off).take n) = if off ≤ i ∧ i < off + n then ((cs.drop off).take n).set (i - off) y else (cs.drop off).take n := by
  apply List.ext_getElem?
  intro j
  split
  · rename_i h
    rw [List.getElem?_take, List.getElem?_set, List.getElem?_take, List.getElem?_drop, List.getElem?_drop, List.getElem?_set]
    by_cases hj : j < n
    · rw [if_pos hj, if_pos hj]
      by_cases hij : i = off + j
      · subst hij
        rw [show off + j - off = j from by omega]
        simp only [if_true, List.length_take, List.length_drop]
        by_cases hl : off + j < cs.length
        · rw [if_pos hl, if_pos (by omega)]
        · rw [if_neg hl, if_neg (by omega)]
      · rw [if_neg hij, if_neg (by omega)]
    · rw [if_neg hj, if_neg hj]
      split
      · rw [if_neg (by simp; omega)]
      · rfl
  · rename_i h
    rw [List.getElem?_take, List.getElem?_take, List.getElem?_drop, List.getElem?_drop, List.getElem?_set]
    by_cases hj : j < n
    · rw [if_pos hj, if_pos hj, if_neg (by omega)]
    · rw [if_neg hj, if_neg hj]
theorem set_same_of {α : Type} {l : List α} {i : Nat} {x : α} (h : l[i]? = some x) : l.set i x = l := by
  apply List.ext_getElem?
  intro j
  rw [List.getElem?_set]
  split
  · rename_i hij
    subst hij
    rw [if_pos (List.getElem?_eq_some_iff.1 h).1, h]
  · rfl
theorem same_late {σ σ' : Objs} {r : Rd} (hl : Late σ σ') (hq : Quiet σ r) (hs : ∃ σ0, Same σ0 σ r) : Same σ σ' r := by
  obtain ⟨σ0, hs⟩ := hs
  cases r with
  | none => trivial
  | took => trivial
  | same ex o off n =>
    obtain ⟨_, cs, _, hcs, _, _⟩ := hs
    cases hl with
    | stay => exact ⟨cs, cs, hcs, hcs, rfl, by split <;> rfl⟩
    | made ds =>
      have h1 := get_cells hcs
      refine ⟨cs, cs, hcs, get_of ?_, rfl, by split <;> rfl⟩
      rw [List.getElem?_append_left (List.getElem?_eq_some_iff.1 h1).1]; exact h1
    | took o' off' ds xs s h hx =>
      by_cases ho : o' = o
      · subst ho
        have h1 := get_cells hcs
        rw [h] at h1; cases h1
        have hol := (List.getElem?_eq_some_iff.1 h).1
        refine ⟨cs, _, hcs, get_of (List.getElem?_set_self hol), by simp, ?_⟩
        rw [drop_take_set]
        by_cases hin : off ≤ off' ∧ off' < off + n
        · rw [if_pos hin]
          have hg : ((cs.drop off).take n)[off' - off]? = some (.sl xs (.gr s)) := by
            rw [List.getElem?_take, if_pos (by omega), List.getElem?_drop, show off + (off' - off) = off' from by omega]; exact hx
          cases ex with
          | true => exact absurd rfl (hq cs hcs _ (List.mem_of_getElem? hg) xs s)
          | false =>
            simp only [Bool.false_eq_true, if_false]
            rw [List.map_set]
            refine (set_same_of ?_).symm
            rw [List.getElem?_map, hg]; rfl
        · rw [if_neg hin]
          split <;> rfl
      · have h1 := get_cells hcs
        exact ⟨cs, cs, hcs, get_of (by rw [set_get_ne ho]; exact h1), rfl, by split <;> rfl⟩
  | made o =>
    obtain ⟨cs, _, hcs⟩ := hs
    have h1 := get_cells hcs
    cases hl with
    | stay => exact ⟨cs, hcs, hcs⟩
    | made ds =>
      refine ⟨cs, hcs, get_of ?_⟩
      rw [List.getElem?_append_left (List.getElem?_eq_some_iff.1 h1).1]; exact h1
    | took o' off' ds xs s h hx =>
      by_cases ho : o' = o
      · subst ho
        rw [h] at h1; cases h1
        exact absurd rfl (hq cs hcs _ (List.mem_of_getElem? hx) xs s)
      · exact ⟨cs, hcs, get_of (by rw [set_get_ne ho]; exact h1)⟩
end
end Go.Ev
set_option linter.unusedSimpArgs false
set_option linter.unusedVariables false
namespace Go.Ev
open Go
section
variable {P : Program} {ops : Array Oper} {l : List DS} {dp : List (List Nat)} {G : GV} {call : FuncId → List V → Objs → Option (V × Objs)} {R : Nat → List V} {S : Nat → Objs}
theorem canon_late (hk : DrwOK P ops l dp) (hc : Canon G call l R S) {p : Nat} (hp : p < l.length) (hd : dly (dsAt l p).s.ins = true) : evStep G call (dsAt l p).s (R p) (S p) = some (R (p + 1), S (p + 1)) := by
  obtain ⟨σ0, σ1, h1, h2, h3, _⟩ := hc p hp
  rw [hk.un p hp hd] at h1 h3
  simp only [List.map_nil, List.filterMap_nil, lockC, openC, Option.some.injEq] at h1 h3
  rw [h1, ← h3]; exact h2
theorem reads_neutral {A : Arg → V} {σ : Objs} {i : Ins} (h : neutral i = true) : reads A σ i = .none := by
  cases i <;> first | rfl | (cases h; done) | skip
  case mkSl ag sz bytes z l c hh =>
    cases hh with
    | false => rfl
    | true => cases h
inductive LateCase (G : GV) (l : List DS) (R : Nat → List V) (S : Nat → Objs) (p : Nat) : Prop
  | none (h1 : S (p + 1) = S p) (h2 : rdAt G l R S p = .none)
  | same (ex : Bool) (o off n : Nat) (h1 : S (p + 1) = S p) (h2 : rdAt G l R S p = .same ex o off n) (h3 : Same (S p) (S p) (.same ex o off n)) (h4 : Quiet (S p) (.same ex o off n))
  | took (o off : Nat) (cs xs : List V) (s : Nat) (h1 : (S p)[o]? = some (.cells cs)) (h2 : cs[off]? = some (.sl xs (.gr s))) (h3 : S (p + 1) = (S p).set o (.cells (cs.set off (.sl xs .no)))) (h4 : rdAt G l R S p = .took o off)
  | made (cs : List V) (h1 : S (p + 1) = S p ++ [.cells cs]) (h2 : rdAt G l R S p = .made (S p).length) (h3 : ∀ x ∈ cs, noGr x)
theorem noGr_nogr {x : V} (h : x.ng = x) : noGr x := fun xs s e => by subst e; cases h
theorem late_case (hk : DrwOK P ops l dp) (hc : Canon G call l R S) {p : Nat} (hp : p < l.length) (hd : dly (dsAt l p).s.ins = true) : LateCase G l R S p := by
  have h := canon_late hk hc hp hd
  obtain ⟨op, hop, hcs⟩ := hk.step p hp
  simp only [chkStep, Bool.and_eq_true] at hcs
  have hci := hcs.1.2
  have hrd : ∀ b, wanted (R p) (dsAt l p).s.gd = some b → rdAt G l R S p = if b then reads (arg G (R p)) (S p) (dsAt l p).s.ins else .none := fun b hb => by unfold rdAt; rw [hb]; rfl
  unfold evStep ev1 at h
  simp only [Option.bind_eq_bind, Option.bind_eq_some_iff] at h
  obtain ⟨b, hb, h⟩ := h
  cases b with
  | false =>
    simp only [Bool.false_eq_true, if_false, Option.some.injEq, Prod.mk.injEq] at h
    exact .none h.2.symm (by rw [hrd _ hb]; rfl)
  | true =>
    simp only [if_true, Option.bind_eq_some_iff, Option.some.injEq, Prod.mk.injEq] at h
    obtain ⟨⟨v, σ2⟩, hi, -, h2⟩ := h
    simp only at h2
    subst h2
    have hr := hrd _ hb
    simp only [if_true] at hr
    by_cases hn : neutral (dsAt l p).s.ins = true
    · obtain ⟨e, _⟩ := evIns_neutral (σ2 := S p) hn hi
      exact .none e (by rw [hr, reads_neutral hn])
    · generalize hins : (dsAt l p).s.ins = ins at *
      cases ins <;> (try (exact absurd hd hn)) <;> (try (cases hd; done))
      case load ag sz x =>
        simp only [evIns, evPure, Option.bind_eq_bind, Option.bind_eq_some_iff, Option.some.injEq, Prod.mk.injEq] at hi
        obtain ⟨y, hy, _, h2⟩ := hi
        simp only [reads] at hr
        split at hr
        · rename_i o off ho
          rw [ho] at hy
          simp only [eL, Option.bind_eq_bind, Option.bind_eq_some_iff] at hy
          obtain ⟨cs, hcs, _⟩ := hy
          exact .same false o off _ h2.symm hr ⟨cs, cs, hcs, hcs, rfl, rfl⟩ trivial
        · exact .none h2.symm hr
      case loadT x =>
        simp only [evIns] at hi
        simp only [reads] at hr
        split at hi
        · rename_i o off ho
          rw [ho] at hr
          simp only [Option.bind_eq_bind, Option.bind_eq_some_iff] at hi
          obtain ⟨cs, hcs, c, hcc, hi⟩ := hi
          simp only [hcs, Option.bind_some, hcc] at hr
          split at hi
          · rename_i xs s
            simp only [Option.some.injEq, Prod.mk.injEq] at hi
            exact .took o off cs xs s (get_cells hcs) hcc hi.2.symm hr
          · cases hi
          · rename_i hng _
            simp only [Option.some.injEq, Prod.mk.injEq] at hi
            have hr' : rdAt G l R S p = .same true o off 1 := by
              rw [hr]
              split
              · rename_i xs s e
                cases e
                exact absurd rfl (hng xs s)
              · rfl
            refine .same true o off 1 hi.2.symm hr' ⟨cs, cs, hcs, hcs, rfl, rfl⟩ (fun ds hds y hy => ?_)
            rw [hcs] at hds; cases hds
            obtain ⟨j, hj⟩ := List.mem_iff_getElem?.1 hy
            rw [List.getElem?_take] at hj
            split at hj
            · rename_i hj1
              rw [List.getElem?_drop, show off + j = off from by omega, hcc] at hj
              cases hj
              exact fun xs s e => hng xs s e
            · cases hj
        · rename_i cs off ho
          rw [ho] at hr
          simp only [Option.bind_eq_bind, Option.bind_eq_some_iff, Option.some.injEq, Prod.mk.injEq] at hi
          obtain ⟨_, _, _, h2⟩ := hi
          exact .none h2.symm hr
        · cases hi
      case alloc z =>
        simp only [evIns] at hi
        split at hi
        · simp only [Option.some.injEq, Prod.mk.injEq] at hi
          refine .made z hi.2.symm hr (fun y hy => ?_)
          cases hoo : op.op <;> rw [hoo] at hci <;> (try (cases hci; done))
          simp only [chkIns] at hci
          split at hci
          · exact noGr_nogr ((chkCells_reps (M := fun _ _ => none) (ι := ⟨fun _ => none, fun _ => none⟩) hci).2.1 y hy).2
          · cases hci
        · cases hi
      case box x =>
        simp only [evIns] at hi
        split at hi
        · simp only [Option.some.injEq, Prod.mk.injEq] at hi
          refine .made _ hi.2.symm hr (fun y hy => ?_)
          obtain ⟨z, _, rfl⟩ := List.mem_map.1 hy
          exact noGr_nogr (V.nogr_nogr z)
        · cases hi
      case mkSl ag sz bytes z l' c' hh =>
        cases hh with
        | false => exact absurd rfl hn
        | true =>
          simp only [reads, if_true] at hr
          cases hoo : op.op <;> rw [hoo] at hci <;> (try (cases hci; done))
          simp only [chkIns] at hci
          split at hci
          · simp only [Bool.and_eq_true, decide_eq_true_eq] at hci
            have hz := hci.1.1.1.1.1.1
            unfold chkZero at hz
            split at hz
            · have hzn := (chkCells_reps (M := fun _ _ => none) (ι := ⟨fun _ => none, fun _ => none⟩) hz).2.1
              simp only [evIns, if_true, Option.bind_eq_bind, Option.bind_eq_some_iff] at hi
              obtain ⟨ln, _, cn, _, hi⟩ := hi
              split at hi
              · simp only [Option.some.injEq, Prod.mk.injEq] at hi
                refine .made _ hi.2.symm hr (fun y hy => ?_)
                obtain ⟨q, hq, hy⟩ := List.mem_flatMap.1 hy
                rw [List.eq_of_mem_replicate hq] at hy
                exact noGr_nogr (hzn y hy).2
              · cases hi
            · cases hz
          · cases hci
theorem LateCase.late {p : Nat} (h : LateCase G l R S p) : Late (S p) (S (p + 1)) := by
  cases h with
  | none h1 => rw [h1]; exact .stay
  | same ex o off n h1 => rw [h1]; exact .stay
  | took o off cs xs s h1 h2 h3 => rw [h3]; exact .took o off cs xs s h1 h2
  | made cs h1 => rw [h1]; exact .made cs
theorem Late.len {σ σ' : Objs} (h : Late σ σ') : σ.length ≤ σ'.length := by cases h <;> simp
def pend (L : Nat → Prop) (c p : Nat) : Prop := p < c ∧ ¬ L p
def XR (X : Nat → Prop) (L : Nat → Prop) (c : Nat) (rs : Nat → Option Nat) (b : Nat) : Prop := X b ∨ ∃ p, pend L c p ∧ rs p = some b
structure Took (S : Nat → Objs) (M : Mem) (ι : Plc) (w : World) (rs : Nat → Option Nat) (p o off : Nat) (xs : List V) (s b bb : Nat) (v : Value) (cs : List V) : Prop where
  i : ι o = some b
  cell : w.cell? ⟨b, off, none⟩ = some v
  rep : Rep M ι v (.sl xs (.gr s))
  own : ownB v (.sl xs (.gr s)) = some bb
  rs : rs p = some bb
  gr : GrOK M w v (.sl xs (.gr s))
  obj : (S p)[o]? = some (.cells cs)
  val : cs[off]? = some (.sl xs (.gr s))
structure Inv (G : GV) (l : List DS) (dp : List (List Nat)) (R : Nat → List V) (S : Nat → Objs) (X : Nat → Prop) (L : Nat → Prop) (c : Nat) (us : List Value) (ρ : List V) (w : World) (M : Mem) (ι : Plc) (κ : Own) (rs : Nat → Option Nat) : Prop where
  cn : c ≤ l.length
  cl : Closed l dp L
  lt : ∀ p, L p → p < c
  eff : ∀ p, p < c → dly (dsAt l p).s.ins = false → L p
  slot : SlotOK l R L ρ
  st : St M ι (XR X L c rs) κ w us ρ (S c)
  rsx : ∀ p b, pend L c p → rs p = some b → ¬ X b
  rsi : ∀ p q b, pend L c p → pend L c q → rs p = some b → rs q = some b → p = q
  same : ∀ p, pend L c p → Same (S (p + 1)) (S c) (rdAt G l R S p)
  quiet : ∀ p, pend L c p → Quiet (S c) (rdAt G l R S p)
  made : ∀ p o, pend L c p → rdAt G l R S p = .made o → ι o = none
  mdist : ∀ p q o, pend L c p → pend L c q → rdAt G l R S p = .made o → rdAt G l R S q = .made o → p = q
  took : ∀ p o off, pend L c p → rdAt G l R S p = .took o off → o < (S c).length ∧ ((ι o = none ∧ ∀ q, pend L c q → rdAt G l R S q ≠ .made o) ∨ ∃ xs s b bb v cs, Took S M ι w rs p o off xs s b bb v cs)
section
variable {X : Nat → Prop} {L : Nat → Prop} {c : Nat} {us : List Value} {ρ : List V} {w : World} {M : Mem} {ι : Plc} {κ : Own} {rs : Nat → Option Nat}
theorem St.moreX {X' : Nat → Prop} {σ : Objs} (h : St M ι X κ w us ρ σ) (h1 : ∀ b, X' b → b < w.heap.size) (h2 : ∀ o b, ι o = some b → ¬ X' b) (h3 : ∀ b p, κ b = some p → ¬ X' b) : St M ι X' κ w us ρ σ :=
  ⟨⟨h.wd.mem, h.wd.obj, h.wd.olt, h.wd.inj, h1, h2, fun b p hp => ⟨h3 b p hp, (h.wd.kap b p hp).2⟩, h.wd.szs⟩, h.rep, h.own, h.gr⟩
theorem St.lessX {X' : Nat → Prop} {σ : Objs} (h : St M ι X κ w us ρ σ) (hX : ∀ b, X' b → X b) : St M ι X' κ w us ρ σ :=
  h.moreX (fun b hb => h.wd.xlt b (hX b hb)) (fun o b hi hb => h.wd.xobj o b hi (hX b hb)) (fun b p hp hb => (h.wd.kap b p hp).1 (hX b hb))
theorem pend_succ {L : Nat → Prop} {c p : Nat} (h : pend L (c + 1) p) : p = c ∨ pend L c p := by
  rcases Nat.lt_or_ge p c with hlt | hge
  · exact .inr ⟨hlt, h.2⟩
  · left; have := h.1; omega
theorem Inv.advance (hk : DrwOK P ops l dp) (hc : Canon G call l R S) (h : Inv G l dp R S X L c us ρ w M ι κ rs) (hcn : c < l.length) (hd : dly (dsAt l c).s.ins = true) : ∃ κ' rs', Inv G l dp R S X L (c + 1) us ρ w M ι κ' rs' := by
  have hLc : ¬ L c := fun hl => by have := h.lt c hl; omega
  have hcase := late_case hk hc hcn hd
  have hlate := hcase.late
  have hlen := hlate.len
  have hsame : ∀ p, pend L c p → Same (S c) (S (c + 1)) (rdAt G l R S p) := fun p hp => same_late hlate (h.quiet p hp) ⟨_, h.same p hp⟩
  have eff' : ∀ p, p < c + 1 → dly (dsAt l p).s.ins = false → L p := fun p hp hdp => by
    rcases Nat.lt_or_ge p c with hlt | hge
    · exact h.eff p hlt hdp
    · have : p = c := by omega
      subst this
      rw [hd] at hdp; cases hdp
  have lt' : ∀ p, L p → p < c + 1 := fun p hp => by have := h.lt p hp; omega
  have old : ∀ (κ' : Own) (rs' : Nat → Option Nat), (∀ p, pend L c p → rs' p = rs p) → St M ι (XR X L (c + 1) rs') κ' w us ρ (S (c + 1)) → (∀ b, rs' c = some b → ¬ X b) → (∀ p b, pend L c p → rs p = some b → rs' c = some b → False) →
      Same (S (c + 1)) (S (c + 1)) (rdAt G l R S c) → Quiet (S (c + 1)) (rdAt G l R S c) → (∀ o, rdAt G l R S c = .made o → ι o = none ∧ o = (S c).length) →
      (∀ o off, rdAt G l R S c = .took o off → o < (S (c + 1)).length ∧ ((ι o = none ∧ ∀ q, pend L c q → rdAt G l R S q ≠ .made o) ∨ ∃ xs s b bb v cs, Took S M ι w rs' c o off xs s b bb v cs)) →
      Inv G l dp R S X L (c + 1) us ρ w M ι κ' rs' := by
    intro κ' rs' hrs hst hx hxx hsm hq hmd htk
    refine ⟨by omega, h.cl, lt', eff', h.slot, hst, fun p b hp hb => ?_, fun p q b hp hq' hb hb' => ?_, fun p hp => ?_, fun p hp => ?_, fun p o hp ho => ?_, fun p q o hp hq' ho ho' => ?_, fun p o off hp ho => ?_⟩
    · rcases pend_succ hp with rfl | hp
      · exact hx b hb
      · rw [hrs p hp] at hb; exact h.rsx p b hp hb
    · rcases pend_succ hp with rfl | hp
      · rcases pend_succ hq' with rfl | hq'
        · rfl
        · rw [hrs q hq'] at hb'; exact absurd hb (fun e => hxx q b hq' hb' e)
      · rw [hrs p hp] at hb
        rcases pend_succ hq' with rfl | hq'
        · exact absurd hb' (fun e => hxx p b hp hb e)
        · rw [hrs q hq'] at hb'; exact h.rsi p q b hp hq' hb hb'
    · rcases pend_succ hp with rfl | hp
      · exact hsm
      · exact (h.same p hp).trans (hsame p hp)
    · rcases pend_succ hp with rfl | hp
      · exact hq
      · exact (h.quiet p hp).same (hsame p hp)
    · rcases pend_succ hp with rfl | hp
      · exact (hmd o ho).1
      · exact h.made p o hp ho
    · have lt1 : ∀ q o, pend L c q → rdAt G l R S q = .made o → o < (S c).length := fun q o hq ho => by
        have := h.same q hq
        rw [ho] at this
        obtain ⟨cs, _, h2⟩ := this
        exact (List.getElem?_eq_some_iff.1 (get_cells h2)).1
      rcases pend_succ hp with rfl | hp
      · rcases pend_succ hq' with rfl | hq'
        · rfl
        · have := lt1 q o hq' ho'; have := (hmd o ho).2; omega
      · rcases pend_succ hq' with rfl | hq'
        · have := lt1 p o hp ho; have := (hmd o ho').2; omega
        · exact h.mdist p q o hp hq' ho ho'
    · rcases pend_succ hp with rfl | hp
      · obtain ⟨h1, h2⟩ := htk o off ho
        refine ⟨h1, h2.imp (fun ⟨a, b⟩ => ⟨a, fun q hq' hm => ?_⟩) id⟩
        rcases pend_succ hq' with rfl | hq'
        · rw [ho] at hm; cases hm
        · exact b q hq' hm
      · obtain ⟨h1, h2⟩ := h.took p o off hp ho
        refine ⟨by omega, h2.imp (fun ⟨a, b⟩ => ⟨a, fun q hq' hm => ?_⟩) fun ⟨xs, s, b, bb, v, cs, ht⟩ => ⟨xs, s, b, bb, v, cs, ht.i, ht.cell, ht.rep, ht.own, by rw [hrs p hp]; exact ht.rs, ht.gr, ht.obj, ht.val⟩⟩
        rcases pend_succ hq' with rfl | hq'
        · have := (hmd o hm).2; omega
        · exact b q hq' hm
  have plain : ∀ {σ' : Objs}, S (c + 1) = σ' → St M ι (XR X L c rs) κ w us ρ σ' → St M ι (XR X L (c + 1) (fun p => if p = c then none else rs p)) κ w us ρ (S (c + 1)) := by
    intro σ' e hst
    rw [e]
    refine hst.lessX fun b hb => ?_
    rcases hb with hb | ⟨p, hp, hb⟩
    · exact .inl hb
    · rcases pend_succ hp with rfl | hp
      · simp at hb
      · refine .inr ⟨p, hp, ?_⟩
        have hne : p ≠ c := by have := hp.1; omega
        simpa only [if_neg hne] using hb
  have hrs0 : ∀ p, pend L c p → (fun p => if p = c then none else rs p) p = rs p := fun p hp => by simp only; rw [if_neg (by have := hp.1; omega)]
  cases hcase with
  | none h1 h2 =>
    exact ⟨κ, _, old κ _ hrs0 (plain h1 h.st) (fun b hb => by simp at hb) (fun p b _ _ hb => by simp at hb) (by rw [h2]; trivial) (by rw [h2]; trivial) (fun o ho => by rw [h2] at ho; cases ho) (fun o off ho => by rw [h2] at ho; cases ho)⟩
  | same ex o off n h1 h2 h3 h4 =>
    exact ⟨κ, _, old κ _ hrs0 (plain h1 h.st) (fun b hb => by simp at hb) (fun p b _ _ hb => by simp at hb) (by rw [h2, h1]; exact h3) (by rw [h2, h1]; exact h4) (fun o ho => by rw [h2] at ho; cases ho) (fun o off ho => by rw [h2] at ho; cases ho)⟩
  | made cs h1 h2 h3 =>
    have hget : Objs.get (S (c + 1)) (S c).length = some cs := get_of (by rw [h1]; simp)
    exact ⟨κ, _, old κ _ hrs0 (plain h1 (h.st.snoc _)) (fun b hb => by simp at hb) (fun p b _ _ hb => by simp at hb) (by rw [h2]; exact ⟨cs, hget, hget⟩) (by
      rw [h2]
      intro ds hds
      rw [hget] at hds; cases hds
      exact h3) (fun o ho => by
      rw [h2] at ho
      cases ho
      exact ⟨h.st.wd.none_of_ge (Nat.le_refl _), rfl⟩) (fun o off ho => by rw [h2] at ho; cases ho)⟩
  | took o off cs xs s h1 h2 h3 h4 =>
    have hol : o < (S c).length := (List.getElem?_eq_some_iff.1 h1).1
    cases hi : ι o with
    | none =>
      have hst : St M ι (XR X L c rs) κ w us ρ ((S c).set o (.cells (cs.set off (.sl xs .no)))) := h.st.dropCell (x := .sl xs (.gr s)) h1 h2 rfl
      refine ⟨κ, _, old κ _ hrs0 (plain h3 hst) (fun b hb => by simp at hb) (fun p b _ _ hb => by simp at hb) (by rw [h4]; trivial) (by rw [h4]; trivial) (fun o ho => by rw [h4] at ho; cases ho) (fun o' off' ho => ?_)⟩
      rw [h4] at ho
      cases ho
      refine ⟨by omega, .inl ⟨hi, fun q hq hm => ?_⟩⟩
      have := h.quiet q hq
      rw [hm] at this
      exact this cs (get_of h1) _ (List.mem_of_getElem? h2) xs s rfl
    | some b =>
      obtain ⟨O, hO, hor⟩ := h.st.wd.obj o b hi
      rw [h1] at hO; cases hO
      obtain ⟨ws, T, fz, hb, hr2, hfz, hM, hone2⟩ := hor
      obtain ⟨v, hv, hrv⟩ := hr2.get h2
      have hv' : ws[off]? = some v := by
        rw [List.getElem?_take] at hv
        split at hv
        · simpa using hv
        · cases hv
      obtain ⟨bb, hbb⟩ : ∃ bb, ownB v (.sl xs (.gr s)) = some bb := by
        cases hrv with
        | sl => exact ⟨_, rfl⟩
        | sl0 a c hg => exact absurd rfl (hg _)
      obtain ⟨κ', hs, hf, hg⟩ := h.st.takeCell hi hb h1 hv' h2 hbb
      refine ⟨κ', fun p => if p = c then some bb else rs p, old κ' _ (fun p hp => if_neg (by have := hp.1; omega)) ?_ (fun b' hb' => ?_) (fun p b' hp hb' hb'' => ?_) (by rw [h4]; trivial) (by rw [h4]; trivial) (fun o ho => by rw [h4] at ho; cases ho) (fun o' off' ho => ?_)⟩
      · rw [h3]
        have hX : ∀ b', XR X L (c + 1) (fun p => if p = c then some bb else rs p) b' → b' = bb ∨ XR X L c rs b' := fun b' hb' => by
          rcases hb' with hb' | ⟨p, hp, hb'⟩
          · exact .inr (.inl hb')
          · rcases pend_succ hp with rfl | hp
            · simp at hb'; exact .inl hb'.symm
            · have hne : p ≠ c := by have := hp.1; omega
              exact .inr (.inr ⟨p, hp, by simpa only [if_neg hne] using hb'⟩)
        refine hs.moreX (fun b' hb' => ?_) (fun o' b' hi' hb' => ?_) (fun b' p hp hb' => ?_)
        · rcases hX b' hb' with rfl | hb'
          · exact hf.lt
          · exact hs.wd.xlt b' hb'
        · rcases hX b' hb' with rfl | hb'
          · exact hf.i o' hi'
          · exact hs.wd.xobj o' b' hi' hb'
        · rcases hX b' hb' with rfl | hb'
          · rw [hf.k] at hp; cases hp
          · exact (hs.wd.kap b' p hp).1 hb'
      · simp at hb'
        subst hb'
        exact fun hx => hf.x (.inl hx)
      · simp at hb''
        subst hb''
        exact hf.x (.inr ⟨p, hp, hb'⟩)
      · rw [h4] at ho
        cases ho
        exact ⟨by omega, .inr ⟨xs, s, b, bb, v, cs, hi, by rw [cell_row hb]; exact hv', hrv, hbb, by simp, hg, h1, h2⟩⟩
end
end
end Go.Ev
set_option linter.unusedSimpArgs false
set_option linter.unusedVariables false
namespace Go.Ev
open Go
section
variable {P : Program} {ops : Array Oper} {l : List DS} {dp : List (List Nat)} {G : GV} {call : FuncId → List V → Objs → Option (V × Objs)} {R : Nat → List V} {S : Nat → Objs} {Q : Exit → Act → World → Prop}
variable {X : Nat → Prop} {L : Nat → Prop} {c : Nat} {us : List Value} {ρ : List V} {w : World} {M : Mem} {ι : Plc} {κ : Own} {rs : Nat → Option Nat} {a : Act}
theorem dly_nostore {op : Op} {i : Ins} (hd : dly i = true) (hc : chkIns P op i = true) : wrOp op = false := by
  unfold wrOp
  split <;> first | rfl | (exfalso; cases i <;> first | (cases hd; done) | (cases hc; done))
theorem dly_nocall {i : Ins} (hd : dly i = true) : isCall i = false := by
  cases i <;> first | rfl | cases hd
theorem wpOp_late {σ σ' : Objs} (h : St M ι X κ w a.tmps.toList ρ σ) (hG : GOK G M ι) {i : Nat} {o : Oper} {s : Step} (ho : ops[i]? = some o) (hc : chkStep P ops o s = true) (hd : dly s.ins = true) {ρ' : List V} (he : evStep G call s ρ σ = some (ρ', σ')) {K : Act → World → Prop}
    (hn : ∀ a' w' M' ι' κ', a'.defers = a.defers → Ext X M ι w M' ι' w' → Kp ι w σ ι' w' σ' → HK ι w w' → St M' ι' X κ' w' a'.tmps.toList ρ' σ' → K a' w') : wpOp P ops Q i K a w := by
  simp only [chkStep, Bool.and_eq_true, beq_iff_eq] at hc
  obtain ⟨⟨hds, hi⟩, hg⟩ := hc
  unfold evStep at he
  simp only [Option.bind_eq_bind, Option.bind_eq_some_iff] at he
  obtain ⟨b, hb, he⟩ := he
  have hw := wanted_ok (ops := ops) h.rep hg hb
  unfold wpOp
  simp only [ho, hw]
  cases b with
  | true =>
    simp only [if_true] at he ⊢
    obtain ⟨nx, v, w', M', ι', κ', hrun, hnx, ⟨hx, hk, hh⟩, hst⟩ := step_all h hG hds hi (dly_nocall hd) he
    rw [← put_toList] at hst
    refine .inl ?_
    unfold Oper.wp
    rw [hrun]
    rcases hnx with rfl | ⟨rfl, rfl⟩
    · exact hn _ w' M' ι' κ' (put_defers' _ _ _) hx hk (hh (dly_nostore hd hi)) hst
    · exact hn _ w' M' ι' κ' (put_defers' _ _ _) hx hk (hh (dly_nostore hd hi)) hst
  | false =>
    simp only [Bool.false_eq_true, if_false, Option.some.injEq, Prod.mk.injEq] at he ⊢
    obtain ⟨rfl, rfl⟩ := he
    refine hn _ _ M ι κ (put_defers' _ _ _) (Ext.refl ..) (Kp.refl ..) (HK.refl _ _) ?_
    rw [put_toList, ← hds]
    exact h.putNone .undef rfl _
theorem GrOK.keep {M' : Mem} {w' : World} {v : Value} {x : V} {bb : Nat} (h : GrOK M w v x) (ho : ownB v x = some bb) (hm : ∀ i, M' bb i = M bb i) (hw : w'.heap[bb]? = w.heap[bb]?) : GrOK M' w' v x := by
  refine ⟨fun xs sz hxx al len cap hv => ?_⟩
  obtain ⟨g1, g2, ws, T, fz, g3, g4⟩ := h.ok xs sz hxx al len cap hv
  have hbb : al.block = bb := by subst hxx hv; simp only [ownB, Option.some.injEq] at ho; exact ho
  exact ⟨g1, fun j hj => by rw [hbb, hm j, ← hbb]; exact g2 j hj, ws, T, fz, by rw [hbb, hw, ← hbb]; exact g3, g4⟩
def also (L : Nat → Prop) (p q : Nat) : Prop := L q ∨ q = p
theorem pend_also {p q : Nat} (h : pend (also L p) c q) : pend L c q ∧ q ≠ p := ⟨⟨h.1, fun hl => h.2 (.inl hl)⟩, fun e => h.2 (.inr e)⟩
theorem Closed.also {p : Nat} (h : Closed l dp L) (hp : p < l.length) (hd : ∀ q ∈ dp.getD p [], L q) : Closed l dp (also L p) :=
  ⟨fun q hq => by rcases hq with hq | rfl; exact h.lt q hq; exact hp, fun q hq r hr => by
    rcases hq with hq | rfl
    · exact .inl (h.dep q hq r hr)
    · exact .inl (hd r hr)⟩
theorem XR_also {p b : Nat} (h : XR X (also L p) c rs b) : XR X L c rs b := by
  rcases h with h | ⟨q, hq, hb⟩
  · exact .inl h
  · exact .inr ⟨q, (pend_also hq).1, hb⟩
theorem Inv.ran (h : Inv G l dp R S X L c us ρ w M ι κ rs) {p : Nat} (hp : pend L c p) (hd : ∀ q ∈ dp.getD p [], L q) {us' : List Value} {ρ' : List V} {w' : World} {M' : Mem} {ι' : Plc} {κ' : Own} (hslot : SlotOK l R (also L p) ρ')
    (hx : Ext (XR X L c rs) M ι w M' ι' w') (hdom : ∀ o, o < (S c).length → rdAt G l R S p ≠ .made o → ι' o = ι o) (hh : HK ι w w') (hst : St M' ι' (XR X (also L p) c rs) κ' w' us' ρ' (S c)) : Inv G l dp R S X (also L p) c us' ρ' w' M' ι' κ' rs := by
  have hpc := h.cn
  refine ⟨h.cn, h.cl.also (by have := hp.1; omega) hd, fun q hq => ?_, fun q hq hdq => .inl (h.eff q hq hdq), hslot, hst, fun q b hq => h.rsx q b (pend_also hq).1, fun q r b hq hr => h.rsi q r b (pend_also hq).1 (pend_also hr).1,
    fun q hq => h.same q (pend_also hq).1, fun q hq => h.quiet q (pend_also hq).1, fun q o hq ho => ?_, fun q r o hq hr => h.mdist q r o (pend_also hq).1 (pend_also hr).1, fun q o off hq ho => ?_⟩
  · rcases hq with hq | rfl
    · exact h.lt q hq
    · exact hp.1
  · obtain ⟨hq, hne⟩ := pend_also hq
    have hs := h.same q hq
    rw [ho] at hs
    obtain ⟨cs, _, h2⟩ := hs
    rw [hdom o (List.getElem?_eq_some_iff.1 (get_cells h2)).1 (fun e => hne (h.mdist q p o hq hp ho e))]
    exact h.made q o hq ho
  · obtain ⟨hq, hne⟩ := pend_also hq
    obtain ⟨h1, h2⟩ := h.took q o off hq ho
    refine ⟨h1, ?_⟩
    rcases h2 with ⟨h2, h3⟩ | ⟨xs, s, b, bb, v, cs, ht⟩
    · exact .inl ⟨by rw [hdom o h1 (h3 p hp)]; exact h2, fun r hr => h3 r (pend_also hr).1⟩
    · have hXb : XR X L c rs bb := .inr ⟨q, hq, ht.rs⟩
      exact .inr ⟨xs, s, b, bb, v, cs, hx.i.le _ _ ht.i, by unfold World.cell?; rw [hh o b ht.i]; exact ht.cell, ht.rep.mono hx.m hx.i, ht.own, ht.rs, ht.gr.keep ht.own (fun i => hx.mX bb i hXb) (hx.keep bb hXb), ht.obj, ht.val⟩
theorem ready_step (hk : DrwOK P ops l dp) (hc : Canon G call l R S) (h : Inv G l dp R S X L c us ρ w M ι κ rs) {p : Nat} (hpl : p < l.length) (hn : ¬ L p) (hd : ∀ q ∈ dp.getD p [], L q) :
    ρ.length = (R p).length ∧ (∀ t ∈ (dsAt l p).s.rd, ρ[t]? = (R p)[t]?) :=
  ⟨h.slot.1.trans (hc.len p (by omega)).symm, fun t ht => slot_read hk h.cl h.slot hpl hn hd (.inl ht)⟩
theorem slots_of (hk : DrwOK P ops l dp) (hc : Canon G call l R S) (h : Inv G l dp R S X L c us ρ w M ι κ rs) {p : Nat} (hpl : p < l.length) (hn : ¬ L p) {σ σ' : Objs} {τ : List V} (he : evStep G call (dsAt l p).s ρ σ = some (τ, σ'))
    (hw : ∀ t ∈ (dsAt l p).s.wr, τ[t]? = (R (p + 1))[t]?) : SlotOK l R (also L p) τ :=
  slot_step hk hc h.cl h.slot hpl hn (evStep_frame he).1 hw (evStep_frame he).2
theorem Inv.exec (hk : DrwOK P ops l dp) (hc : Canon G call l R S) (hG : GOK G M ι) (h : Inv G l dp R S X L c a.tmps.toList ρ w M ι κ rs) {p : Nat} (hp : pend L c p) (hd : ∀ q ∈ dp.getD p [], L q) (hdl : dly (dsAt l p).s.ins = true)
    (hre : ∀ τ, evStep G call (dsAt l p).s ρ (S p) = some (τ, S (p + 1)) → evStep G call (dsAt l p).s ρ (S c) = some (τ, S c)) {K : Act → World → Prop}
    (hn : ∀ a' w' M' ι' κ' ρ', a'.defers = a.defers → Ext (XR X L c rs) M ι w M' ι' w' → (∀ o, o < (S c).length → rdAt G l R S p ≠ .made o → ι' o = ι o) → HK ι w w' → Inv G l dp R S X (also L p) c a'.tmps.toList ρ' w' M' ι' κ' rs → K a' w') : wpOp P ops Q (dsAt l p).op K a w := by
  have hpl : p < l.length := by have := hp.1; have := h.cn; omega
  obtain ⟨o, ho, hck⟩ := hk.step p hpl
  obtain ⟨hl, hr⟩ := ready_step hk hc h hpl hp.2 hd
  obtain ⟨τ, he, hw⟩ := evStep_congr (canon_late hk hc hpl hdl) hl hr
  have hec := hre τ he
  refine wpOp_late h.st hG ho hck hdl hec fun a' w' M' ι' κ' hdf hx hkp hh hst => ?_
  exact hn a' w' M' ι' κ' τ hdf hx (fun o ho _ => hkp.dom o ho) hh (h.ran hp hd (slots_of hk hc h hpl hp.2 hec hw) hx (fun o ho _ => hkp.dom o ho) hh (hst.lessX fun b hb => XR_also hb))
end
end Go.Ev
set_option linter.unusedSimpArgs false
set_option linter.unusedVariables false
namespace Go.Ev
open Go
section
variable {P : Program} {ops : Array Oper} {l : List DS} {dp : List (List Nat)} {G : GV} {call : FuncId → List V → Objs → Option (V × Objs)} {R : Nat → List V} {S : Nat → Objs} {Q : Exit → Act → World → Prop}
variable {X : Nat → Prop} {L : Nat → Prop} {c : Nat} {us : List Value} {ρ : List V} {w : World} {M : Mem} {ι : Plc} {κ : Own} {rs : Nat → Option Nat} {a : Act}
theorem reads_congr {A A' : Arg → V} {σ : Objs} {i : Ins} (h : ∀ x ∈ i.args, A x = A' x) : reads A σ i = reads A' σ i := by
  cases i <;> first | rfl | (simp only [reads]; rw [h _ (List.mem_cons_self ..)])
theorem part_same {ag : Bool} {sz off : Nat} {cs ds : List V} {y : V} (hl : cs.length = ds.length) (he : ((cs.drop off).take (if ag then sz else 1)).map V.ng = ((ds.drop off).take (if ag then sz else 1)).map V.ng) (h : part ag sz cs off = some y) : part ag sz ds off = some y := by
  unfold part at h ⊢
  cases ag with
  | true =>
    simp only [if_true] at h he ⊢
    rw [← hl]
    split at h
    · rename_i hle
      rw [if_pos hle, ← he]
      exact h
    · cases h
  | false =>
    simp only [Bool.false_eq_true, if_false] at h he ⊢
    split at h
    · rename_i h1
      rw [if_pos h1]
      have e : ∀ es : List V, (((es.drop off).take 1).map V.ng)[0]? = es[off]?.map V.ng := fun es => by
        rw [List.getElem?_map, List.getElem?_take, if_pos (by omega), List.getElem?_drop, Nat.add_zero]
      rw [← e ds, ← he, e cs]
      exact h
    · cases h
theorem relook {A T : Arg → V} {σ σ2 σ' : Objs} {i : Ins} {v : V} (hd : dly i = true) (h : evIns call A T σ i = some (v, σ')) (hs : Same σ σ2 (reads A σ i)) (hnt : ∀ o off, reads A σ i ≠ .took o off) (hnm : ∀ o, reads A σ i ≠ .made o) : evIns call A T σ2 i = some (v, σ2) := by
  by_cases hn : neutral i = true
  · exact (evIns_neutral hn h).2
  · cases i <;> (try (exact absurd hd hn)) <;> (try (cases hd; done))
    case alloc => exact absurd rfl (hnm _)
    case box => exact absurd rfl (hnm _)
    case mkSl ag sz bytes z l' c' hh =>
      cases hh with
      | false => exact absurd rfl hn
      | true => exact absurd rfl (hnm _)
    case load ag sz x =>
      simp only [evIns, evPure, Option.bind_eq_bind, Option.bind_eq_some_iff, Option.some.injEq, Prod.mk.injEq, and_true] at h ⊢
      obtain ⟨y, hy, hv, _⟩ := h
      refine ⟨y, ?_, hv⟩
      simp only [reads] at hs
      unfold eL at hy ⊢
      split at hy
      · rename_i o off ho
        simp only [ho] at hs ⊢
        obtain ⟨cs, ds, h1, h2, h3, h4⟩ := hs
        simp only [Bool.false_eq_true, if_false] at h4
        simp only [Option.bind_eq_bind, h1, Option.bind_some] at hy
        simp only [Option.bind_eq_bind, h2, Option.bind_some]
        exact part_same h3 h4 hy
      · exact hy
      · cases hy
    case loadT x =>
      simp only [evIns] at h ⊢
      simp only [reads] at hs hnt
      split at h
      · rename_i o off ho
        simp only [ho] at hs hnt ⊢
        simp only [Option.bind_eq_bind, Option.bind_eq_some_iff] at h
        obtain ⟨cs, hcs, y, hy, h⟩ := h
        simp only [hcs, Option.bind_some, hy] at hs hnt
        split at h
        · rename_i xs s
          exact absurd rfl (hnt o off)
        · cases h
        · rename_i hng hnl
          simp only [Option.some.injEq, Prod.mk.injEq] at h
          have hs' : Same σ σ2 (.same true o off 1) := by
            split at hs
            · rename_i xs s e
              cases e
              exact absurd rfl (hng xs s)
            · exact hs
          obtain ⟨cs', ds, h1, h2, h3, h4⟩ := hs'
          rw [hcs] at h1; cases h1
          simp only [if_true] at h4
          have e : ∀ es : List V, ((es.drop off).take 1)[0]? = es[off]? := fun es => by rw [List.getElem?_take, if_pos (by omega), List.getElem?_drop, Nat.add_zero]
          have hy2 : ds[off]? = some y := by rw [← e ds, ← h4, e cs]; exact hy
          simp only [Option.bind_eq_bind, h2, Option.bind_some, hy2]
          rw [← h.1]
      · simp only [Option.bind_eq_bind, Option.bind_eq_some_iff, Option.some.injEq, Prod.mk.injEq, and_true] at h ⊢
        obtain ⟨y, hy, hv, _⟩ := h
        exact ⟨y, hy, hv⟩
      · cases h
theorem rdAt_of (hk : DrwOK P ops l dp) (hc : Canon G call l R S) (h : Inv G l dp R S X L c us ρ w M ι κ rs) {p : Nat} (hp : pend L c p) (hd : ∀ q ∈ dp.getD p [], L q) :
    rdAt G l R S p = if (wanted ρ (dsAt l p).s.gd).getD false then reads (arg G ρ) (S p) (dsAt l p).s.ins else .none := by
  have hpl : p < l.length := by have := hp.1; have := h.cn; omega
  obtain ⟨hl, hr⟩ := ready_step hk hc h hpl hp.2 hd
  have hr' : ∀ t ∈ (dsAt l p).s.rd, ρ.getD t .undef = (R p).getD t .undef := fun t ht => by simp only [List.getD, hr t ht]
  unfold rdAt
  rw [wanted_congr (ρ' := ρ) (ρ := R p) fun n hn => hr' n (List.mem_append_right _ hn)]
  rw [reads_congr (A := arg G ρ) (A' := arg G (R p)) fun x hx => by
    unfold arg
    rw [argT_congr (ρ' := ρ) (ρ := R p) fun n hn => hr' n (List.mem_append_left _ (List.mem_filterMap.2 ⟨x, hx, hn⟩))]]
theorem Inv.exec_same (hk : DrwOK P ops l dp) (hc : Canon G call l R S) (hG : GOK G M ι) (h : Inv G l dp R S X L c a.tmps.toList ρ w M ι κ rs) {p : Nat} (hp : pend L c p) (hd : ∀ q ∈ dp.getD p [], L q) (hdl : dly (dsAt l p).s.ins = true)
    (hS : S (p + 1) = S p) (hnt : ∀ o off, rdAt G l R S p ≠ .took o off) (hnm : ∀ o, rdAt G l R S p ≠ .made o) {K : Act → World → Prop}
    (hn : ∀ a' w' M' ι' κ' ρ', a'.defers = a.defers → Ext (XR X L c rs) M ι w M' ι' w' → (∀ o, o < (S c).length → rdAt G l R S p ≠ .made o → ι' o = ι o) → HK ι w w' → Inv G l dp R S X (also L p) c a'.tmps.toList ρ' w' M' ι' κ' rs → K a' w') : wpOp P ops Q (dsAt l p).op K a w := by
  refine h.exec hk hc hG hp hd hdl (fun τ he => ?_) hn
  have hrd := rdAt_of hk hc h hp hd
  have hsm := h.same p hp
  rw [hS] at hsm
  unfold evStep ev1 at he ⊢
  simp only [Option.bind_eq_bind, Option.bind_eq_some_iff] at he
  obtain ⟨b, hb, he⟩ := he
  simp only [Option.bind_eq_bind, hb, Option.bind_some]
  rw [hb] at hrd
  cases b with
  | false =>
    simp only [Bool.false_eq_true, if_false, Option.some.injEq, Prod.mk.injEq] at he ⊢
    exact ⟨he.1, trivial⟩
  | true =>
    simp only [if_true, Option.bind_eq_some_iff, Option.some.injEq, Prod.mk.injEq] at he ⊢
    simp only [Option.getD_some, if_true] at hrd
    obtain ⟨⟨v, σ2⟩, hi, hτ, _⟩ := he
    rw [hrd] at hsm hnt hnm
    exact ⟨(v, S c), relook hdl hi hsm hnt hnm, hτ, rfl⟩
end
end Go.Ev
set_option linter.unusedSimpArgs false
set_option linter.unusedVariables false
namespace Go.Ev
open Go
section
variable {P : Program} {ops : Array Oper} {l : List DS} {dp : List (List Nat)} {G : GV} {call : FuncId → List V → Objs → Option (V × Objs)} {R : Nat → List V} {S : Nat → Objs} {Q : Exit → Act → World → Prop}
variable {X : Nat → Prop} {L : Nat → Prop} {c : Nat} {us : List Value} {ρ : List V} {w : World} {M : Mem} {ι : Plc} {κ : Own} {rs : Nat → Option Nat} {a : Act}
theorem run_load1 {o : Oper} {t : TypeId} {x : Operand} {b off : Nat} {u : Value} (ho : o.op = .load t x) (ht : chkTy P t false 1 = true) (hev : a.eval x = .pointer (some ⟨b, off, none⟩)) (hc : w.cell? ⟨b, off, none⟩ = some u) : (execOp a.eval o).run P w = .ok (.value u) w := by
  have hag : agOf P t = some false := by simp only [chkTy, Bool.and_eq_true, beq_iff_eq] at ht; exact ht.1.1
  unfold execOp
  rw [ho]
  simp only [Instr.loadAt, Instr.sureAddr, hev, loadVar, sem_bind_run, sem_pure_run, run_isAgg hag, Result.andThen, Bool.false_eq_true, if_false, run_load hc]
theorem wpOp_value {i : Nat} {o : Oper} {s : Step} {K : Act → World → Prop} {v : Value} {w' : World} (hr : Reps M ι a.tmps.toList ρ) (ho : ops[i]? = some o) (hg : chkGd ops o.guard s.gd = true) (hw : wanted ρ s.gd = some true) (hrun : (execOp a.eval o).run P w = .ok (.value v) w')
    (hK : K (a.put o.dst v) w') : wpOp P ops Q i K a w := by
  have := wanted_ok (ops := ops) hr hg hw
  unfold wpOp
  simp only [ho, this, if_true]
  refine .inl ?_
  unfold Oper.wp
  rw [hrun]
  exact hK
theorem Inv.exec_took (hk : DrwOK P ops l dp) (hc : Canon G call l R S) (hG : GOK G M ι) (h : Inv G l dp R S X L c a.tmps.toList ρ w M ι κ rs) {p : Nat} (hp : pend L c p) (hd : ∀ q ∈ dp.getD p [], L q) (hdl : dly (dsAt l p).s.ins = true)
    {o off : Nat} (hto : rdAt G l R S p = .took o off) {K : Act → World → Prop}
    (hn : ∀ a' w' M' ι' κ' ρ', a'.defers = a.defers → Ext (XR X L c rs) M ι w M' ι' w' → (∀ o, o < (S c).length → rdAt G l R S p ≠ .made o → ι' o = ι o) → HK ι w w' → Inv G l dp R S X (also L p) c a'.tmps.toList ρ' w' M' ι' κ' rs → K a' w') : wpOp P ops Q (dsAt l p).op K a w := by
  have hpl : p < l.length := by have := hp.1; have := h.cn; omega
  obtain ⟨op, hop, hck⟩ := hk.step p hpl
  obtain ⟨hl, hr⟩ := ready_step hk hc h hpl hp.2 hd
  obtain ⟨τ, he, hwr⟩ := evStep_congr (canon_late hk hc hpl hdl) hl hr
  have hslot := slots_of hk hc h hpl hp.2 he hwr
  simp only [chkStep, Bool.and_eq_true, beq_iff_eq] at hck
  obtain ⟨⟨hds, hi⟩, hg⟩ := hck
  have hrd := rdAt_of hk hc h hp hd
  rw [hto] at hrd
  unfold evStep ev1 at he
  simp only [Option.bind_eq_bind, Option.bind_eq_some_iff] at he
  obtain ⟨b0, hb, he⟩ := he
  rw [hb] at hrd
  cases b0 with
  | false => cases hrd
  | true =>
    simp only [if_true, Option.bind_eq_some_iff, Option.some.injEq, Prod.mk.injEq, Option.getD_some] at he hrd
    obtain ⟨⟨v, σ2⟩, hev, hτ, _⟩ := he
    generalize hins : (dsAt l p).s.ins = ins at *
    cases ins <;> (try (cases hdl; done)) <;> (try (cases hrd; done))
    case load ag sz x => simp only [reads] at hrd; split at hrd <;> cases hrd
    case mkSl => simp only [reads] at hrd; split at hrd <;> cases hrd
    case loadT y =>
      simp only [reads] at hrd
      split at hrd
      · rename_i o' off' hy
        split at hrd
        · rename_i xs s hval
          cases hrd
          rw [Option.bind_eq_some_iff] at hval
          obtain ⟨cs, hcs, hcc⟩ := hval
          simp only [evIns, hy, hcs, hcc, Option.bind_eq_bind, Option.bind_some, Option.some.injEq, Prod.mk.injEq] at hev
          obtain ⟨rfl, _⟩ := hev
          cases hoo : op.op <;> rw [hoo] at hi <;> (try (cases hi; done))
          rename_i t x
          simp only [chkIns, Bool.and_eq_true] at hi
          have hA := Opd.of_state h.st.rep hG
          have hvx := hA.ok _ _ hi.2
          rw [hy] at hvx
          obtain ⟨b, hxb, hib⟩ := hvx.inv_ptr
          obtain ⟨hlen, hcase⟩ := h.took p o off hp hto
          rcases hcase with ⟨hno, _⟩ | ⟨xs', s', b', bb, u, cs', ht⟩
          · rw [hib] at hno; cases hno
          · have e1 := ht.i
            rw [hib] at e1; cases e1
            have e2 := ht.obj
            rw [get_cells hcs] at e2; cases e2
            have e3 := ht.val
            rw [hcc] at e3; cases e3
            have hrun := run_load1 (P := P) (w := w) hoo hi.1 hxb ht.cell
            have hXb : XR X L c rs bb := .inr ⟨p, hp, ht.rs⟩
            have hfree : Free M ι (XR X (also L p) c rs) κ w bb := by
              refine ⟨?_, fun hx => ?_, fun o' ho' => h.st.wd.xobj o' bb ho' hXb, h.st.wd.xlt bb hXb⟩
              · cases hkb : κ bb with
                | none => rfl
                | some q => exact absurd hXb (h.st.wd.kap bb q hkb).1
              · rcases hx with hx | ⟨q, hq, hb'⟩
                · exact h.rsx p bb hp ht.rs hx
                · obtain ⟨hq, hne⟩ := pend_also hq
                  exact hne (h.rsi q p bb hq hp hb' ht.rs)
            obtain ⟨κ', hst⟩ := (h.st.lessX (X' := XR X (also L p) c rs) fun b hb => XR_also hb).putOwn ht.rep (fun b hb' => by rw [ht.own] at hb'; cases hb'; exact ⟨hfree, ht.gr⟩) op.dst
            rw [← put_toList] at hst
            have hτ' : τ = put ρ op.dst (.sl xs (.gr s)) := by rw [hds, ← hτ]; rfl
            rw [← hτ'] at hst
            exact wpOp_value h.st.rep hop hg hb hrun (hn _ w M ι κ' τ (put_defers' _ _ _) (Ext.refl ..) (fun _ _ _ => rfl) (HK.refl _ _) (h.ran hp hd hslot (Ext.refl ..) (fun _ _ _ => rfl) (HK.refl _ _) hst))
        · cases hrd
      · cases hrd
theorem Inv.exec_made (hk : DrwOK P ops l dp) (hc : Canon G call l R S) (hG : GOK G M ι) (h : Inv G l dp R S X L c a.tmps.toList ρ w M ι κ rs) {p : Nat} (hp : pend L c p) (hd : ∀ q ∈ dp.getD p [], L q) (hdl : dly (dsAt l p).s.ins = true)
    {o : Nat} (hto : rdAt G l R S p = .made o) {K : Act → World → Prop}
    (hn : ∀ a' w' M' ι' κ' ρ', a'.defers = a.defers → Ext (XR X L c rs) M ι w M' ι' w' → (∀ o, o < (S c).length → rdAt G l R S p ≠ .made o → ι' o = ι o) → HK ι w w' → Inv G l dp R S X (also L p) c a'.tmps.toList ρ' w' M' ι' κ' rs → K a' w') : wpOp P ops Q (dsAt l p).op K a w := by
  have hpl : p < l.length := by have := hp.1; have := h.cn; omega
  obtain ⟨op, hop, hck⟩ := hk.step p hpl
  obtain ⟨hl, hr⟩ := ready_step hk hc h hpl hp.2 hd
  obtain ⟨τ, he, hwr⟩ := evStep_congr (canon_late hk hc hpl hdl) hl hr
  have hslot := slots_of hk hc h hpl hp.2 he hwr
  simp only [chkStep, Bool.and_eq_true, beq_iff_eq] at hck
  obtain ⟨⟨hds, hi⟩, hg⟩ := hck
  have hrd := rdAt_of hk hc h hp hd
  rw [hto] at hrd
  have hsm := h.same p hp
  rw [hto] at hsm
  obtain ⟨cs, hs1, hs2⟩ := hsm
  have hι0 := h.made p o hp hto
  have fin0 : ∀ (ars : Array Value) (T : TypeId) (v0 : Value) (x0 : V), (∀ M' ι', Plc.at' ι' o = some w.heap.size → Rep M' ι' v0 x0) → ownB v0 x0 = none → wanted ρ (dsAt l p).s.gd = some true → (execOp a.eval op).run P w = .ok (.value v0) (pushB w (.cells ars T)) → τ = put ρ op.dst x0 → Reps M ι ars.toList cs → (∀ x ∈ cs, x.one = true) → (∀ x ∈ cs, x.ng = x) → wpOp P ops Q (dsAt l p).op K a w := by
    intro ars T v0 x0 hv0 ho0 hb hrun hτ hrep hone hng
    have hcl : cs.length = ars.size := by have := hrep.1; simpa using this.symm
    obtain ⟨M', ι', hx, hi', hst, hdm⟩ := h.st.mapO hι0 (get_cells hs2) ars T (0, 0) (by rw [hcl, ← Array.length_toList, List.take_length]; exact hrep) (fun i _ => by unfold frozenAt; simp) hone (fun x hx v => by rw [← hng x hx]; exact ownB_nogr _ _)
    have hst2 := (hst.lessX (X' := XR X (also L p) c rs) fun b hb => XR_also hb).putNone (hv0 _ _ hi') ho0 op.dst
    rw [← put_toList, ← hτ] at hst2
    have hdom : ∀ o', o' < (S c).length → rdAt G l R S p ≠ .made o' → ι' o' = ι o' := fun o' _ hne => hdm o' (fun e => hne (by rw [hto, e]))
    exact wpOp_value h.st.rep hop hg hb hrun (hn _ _ M' ι' κ τ (put_defers' _ _ _) hx hdom (h.st.wd.hkPush' _) (h.ran hp hd hslot hx hdom (h.st.wd.hkPush' _) hst2))
  have fin : ∀ (ars : Array Value) (T : TypeId), wanted ρ (dsAt l p).s.gd = some true → (execOp a.eval op).run P w = .ok (.value (.pointer (some ⟨w.heap.size, 0, none⟩))) (pushB w (.cells ars T)) → τ = put ρ op.dst (.ptr o 0) → Reps M ι ars.toList cs → (∀ x ∈ cs, x.one = true) → (∀ x ∈ cs, x.ng = x) → wpOp P ops Q (dsAt l p).op K a w :=
    fun ars T => fin0 ars T _ _ (fun M' ι' hi => .ptr o 0 _ hi) rfl
  unfold evStep ev1 at he
  simp only [Option.bind_eq_bind, Option.bind_eq_some_iff] at he
  obtain ⟨b0, hb, he⟩ := he
  rw [hb] at hrd
  cases b0 with
  | false => cases hrd
  | true =>
    simp only [if_true, Option.bind_eq_some_iff, Option.some.injEq, Prod.mk.injEq, Option.getD_some] at he hrd
    obtain ⟨⟨v, σ2⟩, hev, hτ, hσ⟩ := he
    simp only at hσ
    subst hσ
    have hA := Opd.of_state h.st.rep hG
    generalize hins : (dsAt l p).s.ins = ins at *
    have last : ∀ z, S (p + 1) = S p ++ [.cells z] → cs = z := fun z hz => by
      cases ins <;> (try (cases hdl; done)) <;> (try (cases hrd; done))
      case load => simp only [reads] at hrd; split at hrd <;> cases hrd
      case loadT => simp only [reads] at hrd; split at hrd <;> (try (cases hrd; done)); split at hrd <;> cases hrd
      case mkSl =>
        simp only [reads] at hrd
        split at hrd
        · cases hrd
          have := get_cells hs1
          rw [hz] at this
          simp at this
          exact this.symm
        · cases hrd
      all_goals
        cases hrd
        have := get_cells hs1
        rw [hz] at this
        simp at this
        exact this.symm
    cases ins <;> (try (cases hdl; done)) <;> (try (cases hrd; done))
    case load => simp only [reads] at hrd; split at hrd <;> cases hrd
    case loadT => simp only [reads] at hrd; split at hrd <;> (try (cases hrd; done)); split at hrd <;> cases hrd
    case alloc z =>
      simp only [evIns] at hev
      split at hev
      · simp only [Option.some.injEq, Prod.mk.injEq] at hev
        have hcz := last z hev.2.symm
        subst hcz
        cases hoo : op.op <;> rw [hoo] at hi <;> (try (cases hi; done))
        rename_i e
        simp only [chkIns] at hi
        split at hi
        · rename_i zv hzv
          obtain ⟨hr1, hr2, _⟩ := chkCells_reps (M := M) (ι := ι) hi
          refine fin zv.cells e hb ?_ ?_ hr1 (fun x hx => (hr2 x hx).1) (fun x hx => (hr2 x hx).2)
          · unfold execOp
            rw [hoo]
            simp only [Instr.alloc, sem_bind_run, run_zero hzv, Result.andThen, run_newVar, sem_pure_run]
          · cases hrd
            rw [hds, ← hτ, ← hev.1]; rfl
        · cases hi
      · cases hev
    case box y =>
      simp only [evIns] at hev
      split at hev
      · rename_i hok
        simp only [Option.some.injEq, Prod.mk.injEq] at hev
        have hcz := last _ hev.2.symm
        subst hcz
        cases hoo : op.op <;> rw [hoo] at hi <;> (try (cases hi; done))
        rename_i e x
        simp only [chkIns] at hi
        have hvx := hA.ok _ _ hi
        refine fin (a.eval x).cells e hb ?_ ?_ ((hvx.cells (ok_one hok)).ng) (nogr_map_one (ok_one hok)) (fun x hx => by
          obtain ⟨y', _, rfl⟩ := List.mem_map.1 hx
          exact V.nogr_nogr y')
        · unfold execOp
          rw [hoo]
          simp only [sem_bind_run, run_newVar, Result.andThen]
          rfl
        · cases hrd
          rw [hds, ← hτ, ← hev.1]; rfl
      · cases hev
    case mkSl ag sz bytes z l' c' hh =>
      cases hh with
      | false => simp only [reads, Bool.false_eq_true, if_false] at hrd; cases hrd
      | true =>
        simp only [reads, if_true] at hrd
        cases hoo : op.op <;> rw [hoo] at hi <;> (try (cases hi; done))
        simp only [chkIns] at hi
        split at hi
        · rename_i e hE
          simp only [Bool.and_eq_true, decide_eq_true_eq] at hi
          obtain ⟨⟨⟨⟨⟨⟨hz, hzl⟩, hpos⟩, hb0⟩, hby⟩, hl'⟩, hcc⟩ := hi
          obtain ⟨ln, cn, as', cs', hv, hs', hlc, hrun, hrep, hone, hng⟩ := mkSl_made (P := P) (w := w) hA hoo hE hz hzl hpos hb0 hby hl' hcc hev
          have hcz := last cs' hs'
          subst hcz
          cases hrd
          exact fin0 as' e _ _ (fun M' ι' hi => .hs _ 0 ln sz ag _ cn hi hlc) rfl hb hrun (by rw [hds, ← hτ, hv]; rfl) hrep hone hng
        · cases hi
end
end Go.Ev
set_option linter.unusedSimpArgs false
set_option linter.unusedVariables false
namespace Go.Ev
open Go
section
variable {P : Program} {ops : Array Oper} {l : List DS} {dp : List (List Nat)} {G : GV} {call : FuncId → List V → Objs → Option (V × Objs)} {R : Nat → List V} {S : Nat → Objs} {Q : Exit → Act → World → Prop}
variable {X : Nat → Prop} {L : Nat → Prop} {c : Nat} {us : List Value} {ρ : List V} {w w0 : World} {M M0 : Mem} {ι ι0 : Plc} {κ : Own} {rs : Nat → Option Nat} {a : Act}
theorem Kp.late (h : St M ι X κ w us ρ (S c)) {σ' : Objs} (hl : Late (S c) σ') : Kp ι w (S c) ι w σ' := by
  refine ⟨hl.len, fun _ _ => rfl, fun o b i hi hlk => ⟨?_, rfl⟩⟩
  cases hl with
  | stay => exact hlk
  | took o' off cs xs s h1 h2 =>
    rw [lkAt_set h1] at hlk
    split at hlk
    · exact absurd hlk.1 (by simp [V.isLk])
    · exact hlk
  | made cs =>
    obtain ⟨ds, x, h1, h2, h3⟩ := hlk
    rw [List.getElem?_append_left (h.wd.lt_of hi)] at h1
    exact ⟨ds, x, h1, h2, h3⟩
structure Acc (G : GV) (l : List DS) (R : Nat → List V) (S : Nat → Objs) (X : Nat → Prop) (L : Nat → Prop) (c : Nat) (M0 : Mem) (ι0 : Plc) (w0 : World) (M : Mem) (ι : Plc) (w : World) : Prop where
  ext : Ext X M0 ι0 w0 M ι w
  kp : Kp ι0 w0 (S 0) ι w (S c)
  mge : ∀ p o, pend L c p → rdAt G l R S p = .made o → (S 0).length ≤ o
theorem adv (hk : DrwOK P ops l dp) (hc : Canon G call l R S) : ∀ (n c : Nat) (κ : Own) (rs : Nat → Option Nat), l.length - c = n → Inv G l dp R S X L c us ρ w M ι κ rs → Acc G l R S X L c M0 ι0 w0 M ι w →
    ∃ c' κ' rs', Inv G l dp R S X L c' us ρ w M ι κ' rs' ∧ Acc G l R S X L c' M0 ι0 w0 M ι w ∧ (c' < l.length → dly (dsAt l c').s.ins = false)
  | 0, c, κ, rs, hn, h, hA => ⟨c, κ, rs, h, hA, fun hlt => by omega⟩
  | n + 1, c, κ, rs, hn, h, hA => by
    cases hd : dly (dsAt l c).s.ins with
    | false => exact ⟨c, κ, rs, h, hA, fun _ => hd⟩
    | true =>
      have hcn : c < l.length := by omega
      have hcase := late_case hk hc hcn hd
      obtain ⟨κ', rs', h'⟩ := h.advance hk hc hcn hd
      refine adv hk hc n (c + 1) κ' rs' (by omega) h' ⟨hA.ext, hA.kp.trans hA.ext.i (Kp.late h.st hcase.late), fun p o hp ho => ?_⟩
      rcases pend_succ hp with rfl | hp
      · cases hcase with
        | none _ h2 => rw [h2] at ho; cases ho
        | same _ _ _ _ _ h2 => rw [h2] at ho; cases ho
        | took _ _ _ _ _ _ _ _ h2 => rw [h2] at ho; cases ho
        | made _ _ h2 => rw [h2] at ho; cases ho; exact hA.kp.len
      · exact hA.mge p o hp ho
theorem Acc.ran (hA : Acc G l R S X L c M0 ι0 w0 M ι w) {p : Nat} (hp : pend L c p) {M' : Mem} {ι' : Plc} {w' : World} (hx : Ext (XR X L c rs) M ι w M' ι' w') (hdom : ∀ o, o < (S c).length → rdAt G l R S p ≠ .made o → ι' o = ι o) (hh : HK ι w w') :
    Acc G l R S X (also L p) c M0 ι0 w0 M' ι' w' := by
  refine ⟨hA.ext.trans (hx.less fun b hb => .inl hb), ⟨hA.kp.len, fun o ho => ?_, fun o b i hi hlk => ?_⟩, fun q o hq ho => hA.mge q o (pend_also hq).1 ho⟩
  · rw [hdom o (Nat.lt_of_lt_of_le ho hA.kp.len) (fun e => by have := hA.mge p o hp e; omega)]
    exact hA.kp.dom o ho
  · obtain ⟨h1, h2⟩ := hA.kp.lk o b i hi hlk
    refine ⟨h1, ?_⟩
    have : w'.cell? ⟨b, i, none⟩ = w.cell? ⟨b, i, none⟩ := by unfold World.cell?; rw [hh o b (hA.ext.i.le _ _ hi)]
    rw [this, h2]
theorem rdAt_neutral {p : Nat} (h : neutral (dsAt l p).s.ins = true) : rdAt G l R S p = .none := by
  unfold rdAt
  rw [reads_neutral h]
  split <;> rfl
theorem Inv.effect (hk : DrwOK P ops l dp) (hc : Canon G call l R S) (hG : GOK G M ι) (hS : ∀ f, Sound P G f (call f)) (h : Inv G l dp R S X L c a.tmps.toList ρ w M ι κ rs) (hA : Acc G l R S X L c M0 ι0 w0 M ι w) (hcl : c < l.length) (hd : ∀ q ∈ dp.getD c [], L q) (hdl : dly (dsAt l c).s.ins = false)
    {K : Act → World → Prop} (hn : ∀ a' w' M' ι' κ' ρ', a'.defers = a.defers → Inv G l dp R S X (also L c) (c + 1) a'.tmps.toList ρ' w' M' ι' κ' rs → Acc G l R S X (also L c) (c + 1) M0 ι0 w0 M' ι' w' → K a' w') : wpOp P ops Q (dsAt l c).op K a w := by
  have hLc : ¬ L c := fun hl => by have := h.lt c hl; omega
  obtain ⟨op, hop, hck⟩ := hk.step c hcl
  obtain ⟨hl, hr⟩ := ready_step hk hc h hcl hLc hd
  obtain ⟨σ0, σ1, h1, h2, h3, h4⟩ := hc c hcl
  obtain ⟨τ, he, hwr⟩ := evStep_congr h2 hl hr
  have hslot := slots_of hk hc h hcl hLc he hwr
  obtain ⟨l1, l2, l3⟩ := lock_spec (M := M) (ι := ι) (X := XR X L c rs) (κ := κ) (w := w) (us := a.tmps.toList) (ρ := ρ) _ _ _ h1
  refine wpOp_ev (l1 h.st) hG hop hck hS he fun a' w' hgot => ?_
  obtain ⟨hdf, M', ι', κ', hx, hkp, hst⟩ := hgot
  obtain ⟨o1, o2, o3, o4⟩ := open_spec (M := M') (ι := ι') (X := XR X L c rs) (κ := κ') (w := w') (us := a'.tmps.toList) (ρ := τ) _ _ _ h3
  have hst' := o1 hst
  have hlen : (S c).length ≤ (S (c + 1)).length := by have := hkp.len; omega
  have hps : ∀ {q}, pend (also L c) (c + 1) q → pend L c q := fun {q} hq => by
    rcases pend_succ hq with rfl | hq
    · exact absurd (.inr rfl) hq.2
    · exact (pend_also hq).1
  have hsp : ∀ {q}, pend L c q → pend (also L c) (c + 1) q := fun {q} hq => ⟨by have := hq.1; omega, fun hl => by
    rcases hl with hl | rfl
    · exact hq.2 hl
    · exact absurd hq.1 (Nat.lt_irrefl _)⟩
  have hun : ∀ q, pend L c q → rdAt G l R S q = .none ∨ q ∈ (dsAt l c).un := fun q hq => by
    rcases hk.pair c hcl q hq.1 with hm | ⟨_, _, hm⟩
    · exact absurd (hd q hm) hq.2
    · rcases hm with hm | hm | hm
      · rw [hdl] at hm; cases hm
      · exact .inl (rdAt_neutral hm)
      · exact .inr hm
  have hsame : ∀ q, pend L c q → Same (S c) (S (c + 1)) (rdAt G l R S q) := fun q hq => by
    rcases hun q hq with hm | hm
    · rw [hm]; trivial
    · exact stable_same (h4 q hm)
  have hdom : ∀ o, o < (S c).length → ι' o = ι o := fun o ho => hkp.dom o (by omega)
  have hkp' : Kp ι w (S c) ι' w' (S (c + 1)) := by
    refine ⟨hlen, hdom, fun o b i hi hlk => ?_⟩
    obtain ⟨q1, q2⟩ := o3 o i hlk
    obtain ⟨q3, q4⟩ := hkp.lk o b i hi q1
    exact ⟨(l3 o i q3).resolve_right q2, q4⟩
  refine hn a' w' M' ι' κ' τ hdf ⟨by omega, h.cl.also hcl hd, fun q hq => ?_, fun q hq hdq => ?_, hslot, hst'.lessX fun b hb => ?_, fun q b hq => h.rsx q b (hps hq), fun q r b hq hr => h.rsi q r b (hps hq) (hps hr),
    fun q hq => (h.same q (hps hq)).trans (hsame q (hps hq)), fun q hq => (h.quiet q (hps hq)).same (hsame q (hps hq)), fun q o hq ho => ?_, fun q r o hq hr => h.mdist q r o (hps hq) (hps hr), fun q o off hq ho => ?_⟩ ⟨hA.ext.trans (hx.less fun b hb => .inl hb), hA.kp.trans hA.ext.i hkp', fun q o hq ho => hA.mge q o (hps hq) ho⟩
  · rcases hq with hq | rfl
    · have := h.lt q hq; omega
    · omega
  · rcases Nat.lt_or_ge q c with hlt | hge
    · exact .inl (h.eff q hlt hdq)
    · exact .inr (by omega)
  · rcases hb with hb | ⟨q, hq, hb⟩
    · exact .inl hb
    · exact .inr ⟨q, hps hq, hb⟩
  · have hs := h.same q (hps hq)
    rw [ho] at hs
    obtain ⟨cs, _, g2⟩ := hs
    rw [hdom o (List.getElem?_eq_some_iff.1 (get_cells g2)).1]
    exact h.made q o (hps hq) ho
  · obtain ⟨g1, g2⟩ := h.took q o off (hps hq) ho
    refine ⟨by omega, ?_⟩
    rcases g2 with ⟨g2, g3⟩ | ⟨xs, s, b, bb, v, cs, ht⟩
    · exact .inl ⟨by rw [hdom o g1]; exact g2, fun r hr => g3 r (hps hr)⟩
    · have hXb : XR X L c rs bb := .inr ⟨q, hps hq, ht.rs⟩
      have hmem : (o, off) ∈ ((dsAt l c).un.map (rdAt G l R S)).filterMap Rd.cell := by
        refine List.mem_filterMap.2 ⟨rdAt G l R S q, List.mem_map.2 ⟨q, (hun q (hps hq)).resolve_left (fun e => by rw [ho] at e; cases e), rfl⟩, ?_⟩
        rw [ho]; rfl
      have hlk := hkp.lk o b off ht.i (o4 _ hmem)
      exact .inr ⟨xs, s, b, bb, v, cs, hx.i.le _ _ ht.i, by rw [hlk.2]; exact ht.cell, ht.rep.mono hx.m hx.i, ht.own, ht.rs, ht.gr.keep ht.own (fun i => hx.mX bb i hXb) (hx.keep bb hXb), ht.obj, ht.val⟩
end
end Go.Ev
set_option linter.unusedSimpArgs false
set_option linter.unusedVariables false
namespace Go.Ev
open Go
section
variable {P : Program} {ops : Array Oper} {l : List DS} {dp : List (List Nat)} {G : GV} {call : FuncId → List V → Objs → Option (V × Objs)} {R : Nat → List V} {S : Nat → Objs} {Q : Exit → Act → World → Prop}
variable {X : Nat → Prop} {ρ : List V} {σ : Objs} {w w0 : World} {M M0 : Mem} {ι ι0 : Plc} {κ : Own} {a : Act}
def left (n : Nat) (listed : Array Bool) : Nat := (List.range n).countP fun i => !listed.getD i false
theorem countP_less {p q : Nat → Bool} {i : Nat} : ∀ (xs : List Nat), (∀ x ∈ xs, q x = true → p x = true) → i ∈ xs → p i = true → q i = false → xs.countP q + 1 ≤ xs.countP p
  | [], _, hi, _, _ => by simp at hi
  | x :: xs, h, hi, hp, hq => by
    have hmono : xs.countP q ≤ xs.countP p := List.countP_mono_left fun y hy => h y (List.mem_cons_of_mem _ hy)
    rw [List.countP_cons, List.countP_cons]
    by_cases hx : x = i
    · subst hx
      rw [hp, hq]
      simp
      exact hmono
    · have := countP_less xs (fun y hy => h y (List.mem_cons_of_mem _ hy)) ((List.mem_cons.1 hi).resolve_left (Ne.symm hx)) hp hq
      have hxx := h x (List.mem_cons_self ..)
      cases hqx : q x
      · simp only [Bool.false_eq_true, if_false]; split <;> omega
      · rw [hxx hqx]; simp only [if_true]; omega
theorem place_op (hk : DrwOK P ops l dp) {i : Nat} (hi : i < ops.size) : (dsAt l (place l i)).op = i := by
  have h := hk.all i hi
  have := List.findIdx_getElem (p := fun d : DS => d.op == i) (xs := l) (w := h)
  unfold dsAt
  rw [List.getD, List.getElem?_eq_getElem h]
  exact beq_iff_eq.1 this
def isIn (l : List DS) (listed : Array Bool) (p : Nat) : Prop := p < l.length ∧ listed.getD (dsAt l p).op false = true
theorem op_lt (hk : DrwOK P ops l dp) {p : Nat} (hp : p < l.length) : (dsAt l p).op < ops.size := by
  obtain ⟨o, ho, _⟩ := hk.step p hp
  exact (Array.getElem?_eq_some_iff.1 ho).1
theorem isIn_set (hk : DrwOK P ops l dp) {listed : Array Bool} (hsz : listed.size = ops.size) {p : Nat} (hp : p < l.length) : isIn l (listed.setIfInBounds (dsAt l p).op true) = also (isIn l listed) p := by
  funext q
  apply propext
  unfold isIn also
  constructor
  · rintro ⟨h1, h2⟩
    by_cases hq : q = p
    · exact .inr hq
    · refine .inl ⟨h1, ?_⟩
      rwa [getD_set_ne false (fun e => hq (hk.inj q p h1 hp e.symm))] at h2
  · rintro (⟨h1, h2⟩ | rfl)
    · exact ⟨h1, getD_set_true h2⟩
    · refine ⟨hp, ?_⟩
      have := op_lt hk hp
      simp [Array.getD_eq_getD_getElem?, Array.getElem?_setIfInBounds, hsz, this]
theorem edges_in (hk : DrwOK P ops l dp) {listed : Array Bool} {p : Nat} (hp : p < l.length) {o : Oper} (ho : ops[(dsAt l p).op]? = some o) :
    (∀ q ∈ edges ops l p, isIn l listed q) ↔ ∀ e ∈ o.after, Region.binds .any e = true → listed.getD e.on false = true := by
  have hpl : ∀ e ∈ o.after, Region.binds .any e = true → place l e.on ∈ edges ops l p := fun e he hb => by
    unfold edges
    rw [ho]
    exact List.mem_map.2 ⟨e, List.mem_filter.2 ⟨by simpa using he, hb⟩, rfl⟩
  have hop : ∀ e ∈ o.after, Region.binds .any e = true → place l e.on < l.length ∧ (dsAt l (place l e.on)).op = e.on := fun e he hb => by
    have hlt := hk.edge p hp _ (hpl e he hb)
    have hl : place l e.on < l.length := by omega
    refine ⟨hl, ?_⟩
    have := List.findIdx_getElem (p := fun d : DS => d.op == e.on) (xs := l) (w := hl)
    unfold dsAt
    rw [List.getD, List.getElem?_eq_getElem hl]
    exact beq_iff_eq.1 this
  constructor
  · intro h e he hb
    have := (h _ (hpl e he hb)).2
    rwa [(hop e he hb).2] at this
  · intro h q hq
    unfold edges at hq
    rw [ho] at hq
    obtain ⟨e, he, rfl⟩ := List.mem_map.1 hq
    obtain ⟨he1, he2⟩ := List.mem_filter.1 he
    have he1' : e ∈ o.after := by simpa using he1
    obtain ⟨h1, h2⟩ := hop e he1' he2
    exact ⟨h1, by rw [h2]; exact h e he1' he2⟩
theorem wpAny_drw (hk : DrwOK P ops l dp) (hc : Canon G call l R S) (hS : ∀ f, Sound P G f (call f)) (hG0 : GOK G M0 ι0) {df : List Deferred}
    (hQ : ∀ a' w' M' ι' κ', a'.defers = df → Ext X M0 ι0 w0 M' ι' w' → Kp ι0 w0 (S 0) ι' w' (S l.length) → St M' ι' X κ' w' a'.tmps.toList (R l.length) (S l.length) → Q .normal a' w') :
    ∀ (fuel : Nat) (listed : Array Bool) (a : Act) (c : Nat) (ρ : List V) (w : World) (M : Mem) (ι : Plc) (κ : Own) (rs : Nat → Option Nat), listed.size = ops.size → left ops.size listed ≤ fuel → a.defers = df →
      Inv G l dp R S X (isIn l listed) c a.tmps.toList ρ w M ι κ rs → Acc G l R S X (isIn l listed) c M0 ι0 w0 M ι w → (c < l.length → dly (dsAt l c).s.ins = false) → wpAny P .any ops Q fuel listed a w := by
  have done : ∀ (listed : Array Bool) (a : Act) (c : Nat) (ρ : List V) (w : World) (M : Mem) (ι : Plc) (κ : Own) (rs : Nat → Option Nat), a.defers = df → (∀ p, p < l.length → isIn l listed p) →
      Inv G l dp R S X (isIn l listed) c a.tmps.toList ρ w M ι κ rs → Acc G l R S X (isIn l listed) c M0 ι0 w0 M ι w → (c < l.length → dly (dsAt l c).s.ins = false) → Q .normal a w := by
    intro listed a c ρ w M ι κ rs hdf hall h hA hce
    have hcn : c = l.length := by
      rcases Nat.lt_or_ge c l.length with hlt | hge
      · have := h.lt c (hall c hlt); omega
      · have := h.cn; omega
    subst hcn
    have hρ : ρ = R l.length := List.ext_getElem? fun t => h.slot.2 t l.length (Nat.le_refl _) (fun q hq _ => hall q hq) (fun q h1 h2 _ => by omega)
    subst hρ
    exact hQ a w M ι κ hdf hA.ext hA.kp (h.st.lessX fun b hb => .inl hb)
  intro fuel
  induction fuel with
  | zero =>
    intro listed a c ρ w M ι κ rs hsz hleft hdf h hA hce
    have hall' : ∀ i, i < ops.size → listed.getD i false = true := fun i hi => by
      have h0 : (List.range ops.size).countP (fun i => !listed.getD i false) = 0 := by unfold left at hleft; omega
      have := List.countP_eq_zero.1 h0 i (List.mem_range.2 hi)
      simpa using this
    have hall : ∀ p, p < l.length → isIn l listed p := fun p hp => ⟨hp, hall' _ (op_lt hk hp)⟩
    refine ⟨?_, done listed a c ρ w M ι κ rs hdf hall h hA hce⟩
    cases hrd : Region.ready .any ops listed with
    | nil => rfl
    | cons i r =>
      have hm : i ∈ Region.ready .any ops listed := by rw [hrd]; exact List.mem_cons_self ..
      obtain ⟨h1, o, ho, _⟩ := mem_ready.1 hm
      have hi := (Array.getElem?_eq_some_iff.1 ho).1
      have h2 := hall' i hi
      have hil : i < listed.size := by omega
      simp [Array.getD, hil] at h1 h2
      rw [h1] at h2; cases h2
  | succ fuel ih =>
    intro listed a c ρ w M ι κ rs hsz hleft hdf h hA hce
    have notIn : ∀ {p}, p < l.length → ¬ isIn l listed p → listed.getD (dsAt l p).op true = false := fun {p} hp hn => by
      have hil : (dsAt l p).op < listed.size := by have := op_lt hk hp; omega
      have : ¬ listed.getD (dsAt l p).op false = true := fun e => hn ⟨hp, e⟩
      simp [Array.getD, hil] at this ⊢
      exact this
    refine ⟨fun h0 => ?_, fun i hi => ?_⟩
    · refine done listed a c ρ w M ι κ rs hdf (fun p => ?_) h hA hce
      induction p using Nat.strongRecOn with
      | _ p ihp =>
        intro hp
        refine Classical.byContradiction fun hn => ?_
        obtain ⟨o, ho, _⟩ := hk.step p hp
        have he := (edges_in hk (listed := listed) hp ho).1 (fun q hq => ihp q (hk.edge p hp q hq) (by have := hk.edge p hp q hq; omega))
        have : (dsAt l p).op ∈ Region.ready .any ops listed := mem_ready.2 ⟨notIn hp hn, o, ho, he⟩
        rw [h0] at this
        cases this
    · obtain ⟨h1, o, ho, h2⟩ := mem_ready.1 hi
      have hio := (Array.getElem?_eq_some_iff.1 ho).1
      have hpl := hk.all i hio
      have hop := place_op hk hio
      generalize place l i = p at hpl hop
      subst hop
      have hn : ¬ isIn l listed p := fun e => by
        have hil : (dsAt l p).op < listed.size := by omega
        have e2 := e.2
        simp [Array.getD, hil] at h1 e2
        rw [h1] at e2; cases e2
      have hd : ∀ q ∈ dp.getD p [], isIn l listed q := deps_in hk (L := isIn l listed) (fun q hq hql r hr => h.cl.dep q hq r (hk.sub q hql r hr)) p hpl ((edges_in hk hpl ho).2 h2)
      have hset := isIn_set hk hsz hpl
      have hsz' : (listed.setIfInBounds (dsAt l p).op true).size = ops.size := by rw [Array.size_setIfInBounds]; exact hsz
      have hleft' : left ops.size (listed.setIfInBounds (dsAt l p).op true) ≤ fuel := by
        have : left ops.size (listed.setIfInBounds (dsAt l p).op true) + 1 ≤ left ops.size listed := by
          unfold left
          refine countP_less (i := (dsAt l p).op) _ (fun x _ hx => ?_) (List.mem_range.2 hio) ?_ ?_
          · cases hxl : listed.getD x false
            · rfl
            · rw [getD_set_true hxl] at hx; cases hx
          · have : ¬ listed.getD (dsAt l p).op false = true := fun e => hn ⟨hpl, e⟩
            simpa using this
          · have := congrFun hset p
            have hin : isIn l (listed.setIfInBounds (dsAt l p).op true) p := by rw [this]; exact .inr rfl
            rw [hin.2]; rfl
        omega
      have hGc : GOK G M ι := hG0.mono hA.ext.m hA.ext.i
      have next : ∀ a' w' M' ι' κ' ρ', a'.defers = a.defers → Ext (XR X (isIn l listed) c rs) M ι w M' ι' w' → (∀ o, o < (S c).length → rdAt G l R S p ≠ .made o → ι' o = ι o) → HK ι w w' → pend (isIn l listed) c p →
          Inv G l dp R S X (also (isIn l listed) p) c a'.tmps.toList ρ' w' M' ι' κ' rs → wpAny P .any ops Q fuel (listed.setIfInBounds (dsAt l p).op true) a' w' := by
        intro a' w' M' ι' κ' ρ' hdf' hx hdom hh hp' hinv
        have hA' := hA.ran hp' hx hdom hh
        rw [← hset] at hinv hA'
        exact ih _ a' c ρ' w' M' ι' κ' rs hsz' hleft' (hdf'.trans hdf) hinv hA' hce
      rcases Nat.lt_trichotomy p c with hpc | hpc | hpc
      · have hp : pend (isIn l listed) c p := ⟨hpc, hn⟩
        have hdl : dly (dsAt l p).s.ins = true := by
          cases hq : dly (dsAt l p).s.ins with
          | true => rfl
          | false => exact absurd (h.eff p hpc hq) hn
        have hcase := late_case hk hc hpl hdl
        cases hcase with
        | none g1 g2 => exact h.exec_same hk hc hGc hp hd hdl g1 (fun o off e => by rw [g2] at e; cases e) (fun o e => by rw [g2] at e; cases e) (fun a' w' M' ι' κ' ρ' q1 q2 q3 q4 q5 => next a' w' M' ι' κ' ρ' q1 q2 q3 q4 hp q5)
        | same ex o off n g1 g2 => exact h.exec_same hk hc hGc hp hd hdl g1 (fun o off e => by rw [g2] at e; cases e) (fun o e => by rw [g2] at e; cases e) (fun a' w' M' ι' κ' ρ' q1 q2 q3 q4 q5 => next a' w' M' ι' κ' ρ' q1 q2 q3 q4 hp q5)
        | took o off cs xs s g1 g2 g3 g4 => exact h.exec_took hk hc hGc hp hd hdl g4 (fun a' w' M' ι' κ' ρ' q1 q2 q3 q4 q5 => next a' w' M' ι' κ' ρ' q1 q2 q3 q4 hp q5)
        | made cs g1 g2 => exact h.exec_made hk hc hGc hp hd hdl g2 (fun a' w' M' ι' κ' ρ' q1 q2 q3 q4 q5 => next a' w' M' ι' κ' ρ' q1 q2 q3 q4 hp q5)
      · subst hpc
        refine h.effect hk hc hGc hS hA hpl hd (hce hpl) fun a' w' M' ι' κ' ρ' hdf' hinv hA' => ?_
        obtain ⟨c', κ'', rs', hinv', hA'', hce'⟩ := adv hk hc _ _ _ _ rfl hinv hA'
        rw [← hset] at hinv' hA''
        exact ih _ a' c' ρ' w' M' ι' κ'' rs' hsz' hleft' (hdf'.trans hdf) hinv' hA'' hce'
      · exfalso
        have hcl : c < l.length := by omega
        rcases hk.pair p hpl c hpc with hm | ⟨_, hm, _⟩
        · have := h.lt c (hd c hm); omega
        · rw [hce hcl] at hm; cases hm
end
end Go.Ev
set_option linter.unusedSimpArgs false
set_option linter.unusedVariables false
namespace Go.Ev
open Go
section
variable {P : Program} {ops : Array Oper} {l : List DS} {G : GV} {call : FuncId → List V → Objs → Option (V × Objs)} {Q : Exit → Act → World → Prop}
variable {X : Nat → Prop} {ρ : List V} {σ : Objs} {w : World} {M : Mem} {ι : Plc} {κ : Own} {a : Act}
theorem left_le (n : Nat) (listed : Array Bool) : left n listed ≤ n := by
  unfold left
  have := List.countP_le_length (p := fun i => !listed.getD i false) (l := List.range n)
  simpa using this
theorem wp_drw_ev (hm : P.follows .mixedOrders = true) (hS : ∀ f, Sound P G f (call f)) (h : St M ι X κ w a.tmps.toList ρ σ) (hG : GOK G M ι) {id : Nat} (hc : chkDrw P ops l = true) {ρ' : List V} {σ' : Objs}
    (he : evDrw G call [] l ρ σ = some (ρ', σ')) (hQ : ∀ a' w', Got a M ι X w σ ρ' σ' a' w' → Q .normal a' w') : (Code.region id ops true).wp P Q a w := by
  obtain ⟨dp, hk⟩ := chkDrw_ok hc
  obtain ⟨R, S, hR, hS0, hRn, hSn, htr⟩ := trace_of G call l [] ρ σ ρ' σ' he
  have hcn := canon_of hk htr
  have hnone : ∀ p, ¬ isIn l (Array.replicate ops.size false) p := fun p hp => by
    have := hp.2
    simp [Array.getD_eq_getD_getElem?, Array.getElem?_replicate] at this
    split at this <;> simp at this
  have hpend : ∀ p, ¬ pend (isIn l (Array.replicate ops.size false)) 0 p := fun p hp => by have := hp.1; omega
  have hX : ∀ b, XR X (isIn l (Array.replicate ops.size false)) 0 (fun _ => none) b → X b := fun b hb => by
    rcases hb with hb | ⟨p, hp, _⟩
    · exact hb
    · exact absurd hp (hpend p)
  have hinv : Inv G l dp R S X (isIn l (Array.replicate ops.size false)) 0 a.tmps.toList ρ { w with drawn := w.drawn + 1 } M ι κ (fun _ => none) := by
    refine ⟨by omega, ⟨fun p hp => hp.1, fun p hp => absurd hp (hnone p)⟩, fun p hp => absurd hp (hnone p), fun p hp => by omega, ⟨by rw [hR], fun t m hmn h1 h2 => ?_⟩, by rw [hS0]; exact h.drew.lessX hX,
      fun p b hp => absurd hp (hpend p), fun p q b hp => absurd hp (hpend p), fun p hp => absurd hp (hpend p), fun p hp => absurd hp (hpend p), fun p o hp => absurd hp (hpend p), fun p q o hp => absurd hp (hpend p), fun p o off hp => absurd hp (hpend p)⟩
    have key : ∀ m, m ≤ l.length → (∀ q, q < m → t ∉ (dsAt l q).s.wr) → (R m)[t]? = (R 0)[t]? := by
      intro m
      induction m with
      | zero => intro _ _; rfl
      | succ m ih =>
        intro hml hno
        rw [(hcn.frame (by omega : m < l.length)).2 t (hno m (by omega))]
        exact ih (by omega) (fun q hq => hno q (by omega))
    rw [key m hmn (fun q hq hw => hnone q (h1 q hq hw)), hR]
  have hacc : Acc G l R S X (isIn l (Array.replicate ops.size false)) 0 M ι w M ι { w with drawn := w.drawn + 1 } :=
    ⟨Ext.drew .., Kp.same _ _ (fun _ _ _ => rfl), fun p o hp => absurd hp (hpend p)⟩
  obtain ⟨c, κ', rs', hinv', hacc', hce⟩ := adv hk hcn _ _ _ _ rfl hinv hacc
  refine wp_region_any hm ?_
  refine wpAny_drw hk hcn hS hG (df := a.defers) (fun a' w' M' ι' κ'' hd hx hkp hst => ?_) ops.size _ a c ρ _ M ι κ' rs' (by simp) (left_le _ _) rfl hinv' hacc' hce
  rw [hRn, hSn] at hst
  rw [hS0, hSn] at hkp
  exact hQ a' w' ⟨hd, M', ι', κ'', hx, hkp, hst⟩
end
end Go.Ev
set_option linter.unusedSimpArgs false
set_option linter.unusedVariables false
namespace Go.Ev
open Go
theorem rbs_all {n : Nat} : ∀ {xs : List V}, V.rbs n xs = true ↔ ∀ x ∈ xs, V.rb n x = true
  | [] => by simp [V.rbs]
  | x :: xs => by simp [V.rbs, rbs_all (xs := xs)]
theorem rbs_get {n i : Nat} {xs : List V} {x : V} (h : V.rbs n xs = true) (hx : xs[i]? = some x) : V.rb n x = true := rbs_all.1 h x (List.mem_of_getElem? hx)
theorem rb_cells {n : Nat} {x : V} (h : V.rb n x = true) : V.rbs n x.cells = true := by
  cases x <;> first | (simpa [V.cells, V.rb] using h) | (simp only [V.cells, V.rbs, Bool.and_true]; exact h)
theorem rbs_flat {n : Nat} {xs : List V} (h : V.rbs n xs = true) : V.rbs n (xs.flatMap V.cells) = true := rbs_all.2 fun y hy => by
  obtain ⟨x, hx, hy⟩ := List.mem_flatMap.1 hy
  exact rbs_all.1 (rb_cells (rbs_all.1 h x hx)) y hy
section
variable {M M' : Mem} {ι ι' : Plc} {n : Nat}
theorem Rep.rb (hm : MemLe M M') (hi : ∀ o b, o < n → ι o = some b → ι' o = some b ∧ ∀ k, ι.sz b = some k → ι'.sz b = some k) {v : Value} {x : V} (h : Rep M ι v x) : V.rb n x = true → Rep M' ι' v x := by
  induction h with
  | any v => intro _; exact .any v
  | undef => intro _; exact .undef
  | bool b => intro _; exact .bool b
  | int k m => intro _; exact .int k m
  | str s l h => intro _; exact .str s l h
  | nilp => intro _; exact .nilp
  | ptr o off b h => intro hr; exact .ptr o off b (hi o b (by simpa [V.rb] using hr) h).1
  | eptr cs off b base us hl hmm hr ih =>
    intro hrb
    simp only [V.rb] at hrb
    exact .eptr cs off b base us hl (fun i u hu => hm.le _ _ _ (hmm i u hu)) (fun i u c hu hc => ih i u c hu hc (rbs_get hrb hc))
  | nils => intro _; exact .nils
  | sl xs c b off cap sz us hs hl hmm hr hcap hfx ih =>
    intro hrb
    simp only [V.rb] at hrb
    exact .sl xs c b off cap sz us hs hl (fun i u hu => hm.le _ _ _ (hmm i u hu)) (fun i u c hu hc => ih i u c hu hc (rbs_get (rbs_flat hrb) hc)) hcap hfx
  | sl0 a c hg => intro _; exact .sl0 a c hg
  | hs o off len sz ag b cap h hc => intro hr; exact .hs o off len sz ag b cap (hi o b (by simpa [V.rb] using hr) h).1 hc
  | agg vs cs hl hr ih =>
    intro hrb
    simp only [V.rb] at hrb
    exact .agg vs cs hl (fun i v c hv hc => ih i v c hv hc (rbs_get hrb hc))
  | tup vs cs hl hr ih =>
    intro hrb
    simp only [V.rb] at hrb
    exact .tup vs cs hl (fun i v c hv hc => ih i v c hv hc (rbs_get hrb hc))
  | ifc t v x h ih => intro hrb; simp only [V.rb] at hrb; exact .ifc t v x (ih hrb)
  | nili => intro _; exact .nili
  | fn f ars bs first caps ha hb hra hrb iha ihb =>
    intro hr
    simp only [V.rb, Bool.and_eq_true] at hr
    exact .fn f ars bs first caps ha hb (fun i v c hv hc => iha i v c hv hc (rbs_get hr.1 hc)) (fun i v c hv hc => ihb i v c hv hc (rbs_get hr.2 hc))
  | nilf => intro _; exact .nilf
  | mp o r h => intro hr; exact .mp o r (hi o r (by simpa [V.rb] using hr) h).1
  | nilm => intro _; exact .nilm
  | hg o len sz ag b cap m h hz hc hr0 => intro hr; exact .hg o len sz ag b cap m (hi o b (by simpa [V.rb] using hr) h).1 ((hi o b (by simpa [V.rb] using hr) h).2 m hz) hc hr0
  | mth k v x h ih => intro hrb; simp only [V.rb] at hrb; exact .mth k v x (ih hrb)
end
end Go.Ev
set_option linter.unusedSimpArgs false
set_option linter.unusedVariables false
namespace Go.Ev
open Go
theorem mapM_some {α β : Type} {g : α → Option β} : ∀ {xs : List α} {ys : List β}, xs.mapM g = some ys → ys.length = xs.length ∧ ∀ (i : Nat) x y, xs[i]? = some x → ys[i]? = some y → g x = some y
  | [], ys, h => by
    simp at h
    subst h
    exact ⟨rfl, fun i x y hx => by simp at hx⟩
  | x :: xs, ys, h => by
    simp only [List.mapM_cons, Option.bind_eq_bind, Option.bind_eq_some_iff] at h
    obtain ⟨y, hy, zs, hzs, he⟩ := h
    cases he
    obtain ⟨h1, h2⟩ := mapM_some hzs
    refine ⟨by simp [h1], fun i a b ha hb => ?_⟩
    cases i with
    | zero => simp at ha hb; subst ha hb; exact hy
    | succ i => exact h2 i a b (by simpa using ha) (by simpa using hb)
theorem mapM_mem {α β : Type} {g : α → Option β} {xs : List α} {ys : List β} (h : xs.mapM g = some ys) {y : β} (hy : y ∈ ys) : ∃ x ∈ xs, g x = some y := by
  obtain ⟨h1, h2⟩ := mapM_some h
  obtain ⟨i, hi⟩ := List.mem_iff_getElem?.1 hy
  have hlt : i < xs.length := by rw [← h1]; exact (List.getElem?_eq_some_iff.1 hi).1
  exact ⟨xs[i], List.getElem_mem hlt, h2 i _ _ (List.getElem?_eq_getElem hlt) hi⟩
section
variable {M M' : Mem} {ι ι' : Plc} {X : Nat → Prop} {κ : Own} {w : World} {σ : Objs} {n : Nat}
structure Fz (M : Mem) (ι : Plc) (M' : Mem) (ι' : Plc) (x y : V) : Prop where
  rep : ∀ v, Rep M ι v x → Rep M' ι' v y
  len : y.cells.length = x.cells.length
  cells : ∀ us, Reps M ι us x.cells → Reps M' ι' us y.cells
  own : ∀ v, ownB v y = ownB v x
  one : y.one = x.one
  lk : y.isLk = x.isLk
  sl : ∀ ys c, y = .sl ys c → c ≠ .no → ∃ xs, x = .sl xs c ∧ (ys.flatMap V.cells).length = (xs.flatMap V.cells).length ∧ ∀ sz, (∀ z ∈ xs, z.cells.length = sz) → ∀ z ∈ ys, z.cells.length = sz
theorem fz_list {g : V → Option V} (hg : ∀ x y, g x = some y → Fz M ι M' ι' x y) {xs ys : List V} (h : xs.mapM g = some ys) {us : List Value} (hr : Reps M ι us xs) : Reps M' ι' us ys := by
  obtain ⟨h1, h2⟩ := mapM_some h
  refine ⟨by rw [h1]; exact hr.1, fun i u y hu hy => ?_⟩
  obtain ⟨x, hx, hrx⟩ := hr.get' hu
  exact (hg x y (h2 i x y hx hy)).rep u hrx
theorem fz_flat {g : V → Option V} (hg : ∀ x y, g x = some y → Fz M ι M' ι' x y) : ∀ {xs ys : List V}, xs.mapM g = some ys → ∀ {us : List Value}, Reps M ι us (xs.flatMap V.cells) → Reps M' ι' us (ys.flatMap V.cells)
  | [], ys, h, us, hr => by
    simp at h
    subst h
    have : us = [] := List.length_eq_zero_iff.1 (by simpa using hr.1)
    subst this
    exact Reps.nil
  | x :: xs, ys, h, us, hr => by
    simp only [List.mapM_cons, Option.bind_eq_bind, Option.bind_eq_some_iff] at h
    obtain ⟨y, hy, zs, hzs, he⟩ := h
    cases he
    simp only [List.flatMap_cons] at hr ⊢
    have h1 := hr.take x.cells.length
    have h2 := hr.drop x.cells.length
    rw [List.take_left] at h1
    rw [List.drop_left] at h2
    have := ((hg x y hy).cells _ h1).append (fz_flat hg hzs h2)
    rwa [List.take_append_drop] at this
theorem fz_flat_len {g : V → Option V} (hg : ∀ x y, g x = some y → Fz M ι M' ι' x y) : ∀ {xs ys : List V}, xs.mapM g = some ys → (ys.flatMap V.cells).length = (xs.flatMap V.cells).length
  | [], ys, h => by
    simp at h
    subst h
    rfl
  | x :: xs, ys, h => by
    simp only [List.mapM_cons, Option.bind_eq_bind, Option.bind_eq_some_iff] at h
    obtain ⟨y, hy, zs, hzs, he⟩ := h
    cases he
    simp only [List.flatMap_cons, List.length_append, (hg x y hy).len, fz_flat_len hg hzs]
theorem fz_ok (h : Wd M ι X κ w σ) (hm : MemLe M M') (hi : ∀ o b, o < n → ι o = some b → ι' o = some b ∧ ∀ k, ι.sz b = some k → ι'.sz b = some k) (hc : ∀ o b, n ≤ o → ι o = some b → (∃ cs, σ[o]? = some (.cells cs)) → ∀ i u, w.cell? ⟨b, i, none⟩ = some u → M' b i = some u) :
    ∀ (f : Nat) (x y : V), fz n σ f x = some y → Fz M ι M' ι' x y := by
  have same : ∀ x, V.rb n x = true → Fz M ι M' ι' x x := fun x hx => ⟨fun v hr => hr.rb hm hi hx, rfl, fun us hr => ⟨hr.1, fun i u c hu hcc => (hr.2 i u c hu hcc).rb hm hi (rbs_get (rb_cells hx) hcc)⟩, fun _ => rfl, rfl, rfl, fun ys c e _ => ⟨ys, e, rfl, fun _ hz => hz⟩⟩
  intro f
  induction f with
  | zero =>
    intro x y hf
    simp only [fz] at hf
    split at hf
    · rename_i hx; cases hf; exact same x hx
    · cases hf
  | succ f ih =>
    intro x y hf
    simp only [fz] at hf
    split at hf
    · rename_i hx; cases hf; exact same x hx
    · rename_i hrb
      have single : x.cells = [x] → y.cells = [y] → (∀ v, Rep M ι v x → Rep M' ι' v y) → (∀ v, ownB v y = ownB v x) → y.one = x.one → y.isLk = x.isLk → (∀ ys c, y = .sl ys c → c ≠ .no → ∃ xs, x = .sl xs c ∧ (ys.flatMap V.cells).length = (xs.flatMap V.cells).length ∧ ∀ sz, (∀ z ∈ xs, z.cells.length = sz) → ∀ z ∈ ys, z.cells.length = sz) → Fz M ι M' ι' x y := fun hx hy hr ho h1 hk hs =>
        ⟨hr, by rw [hx, hy]; rfl, fun us hus => by
          rw [hx] at hus; rw [hy]
          refine ⟨hus.1, fun i u c hu hcc => ?_⟩
          cases i with
          | zero => simp at hcc; subst hcc; exact hr u (hus.2 0 u x hu rfl)
          | succ i => simp at hcc, ho, h1, hk, hs⟩
      split at hf
      ·
        rename_i o off
        simp only [Option.bind_eq_bind, Option.bind_eq_some_iff] at hf
        obtain ⟨cs, hcs, ds, hds, he⟩ := hf
        cases he
        refine single rfl rfl (fun v hv => ?_) (fun v => by unfold ownB; split <;> simp_all) rfl rfl (fun ys c e hn => by first | (cases e; done) | (cases e; exact absurd rfl hn))
        obtain ⟨b, rfl, hib⟩ := hv.inv_ptr
        have hno : n ≤ o := by simpa [V.rb] using hrb
        obtain ⟨O, hO, hor⟩ := h.obj o b hib
        rw [get_cells hcs] at hO; cases hO
        obtain ⟨ws, T, fzz, hb, hr2, _, _, _⟩ := hor
        have hr3 := fz_list ih hds hr2
        have := Rep.eptr (M := M') (ι := ι') ds off b 0 (ws.toList.take cs.length) hr3.1 (fun i u hu => by
          refine hc o b hno hib ⟨cs, get_cells hcs⟩ (0 + i) u ?_
          rw [cell_row hb, Nat.zero_add]
          rw [List.getElem?_take] at hu
          split at hu
          · simpa using hu
          · cases hu) hr3.2
        simpa using this
      ·
        rename_i o off len sz ag
        simp only [Option.bind_eq_bind, Option.bind_eq_some_iff] at hf
        obtain ⟨cs, hcs, xs, hxs, ys, hys, he⟩ := hf
        cases he
        refine single rfl rfl (fun v hv => ?_) (fun v => by unfold ownB; split <;> simp_all) rfl rfl (fun ys c e hn => by first | (cases e; done) | (cases e; exact absurd rfl hn))
        obtain ⟨b, cap, rfl, hib, hlc⟩ := hv.inv_hs
        have hno : n ≤ o := by simpa [V.rb] using hrb
        obtain ⟨O, hO, hor⟩ := h.obj o b hib
        rw [get_cells hcs] at hO; cases hO
        obtain ⟨ws, T, fzz, hb, hr2, _, _, hone⟩ := hor
        obtain ⟨k1, k2, k3⟩ := chunks_spec hone _ _ _ hxs
        have hr3 : Reps M ι (((ws.toList.take cs.length).drop off).take (len * sz)) (xs.flatMap V.cells) := by
          rw [k2]; exact ((hr2.drop off).take (len * sz)).ng
        have hr4 := fz_flat ih hys hr3
        have hyl : ys.length = len := by rw [(mapM_some hys).1, k1]
        have := Rep.sl (M := M') (ι := ι') ys .no b off cap sz _ (fun y hy => by
          obtain ⟨x, hx, hxy⟩ := mapM_mem hys hy
          rw [(ih x y hxy).len]; exact k3 x hx) hr4.1 (fun i u hu => by
          refine hc o b hno hib ⟨cs, get_cells hcs⟩ (off + i) u ?_
          rw [cell_row hb]
          rw [List.getElem?_take] at hu
          split at hu
          · rw [List.getElem?_drop, List.getElem?_take] at hu
            split at hu
            · simpa using hu
            · cases hu
          · cases hu) hr4.2 (by omega) (fun e => by cases e)
        rwa [hyl] at this
      ·
        rename_i o len sz ag
        simp only [Option.bind_eq_bind, Option.bind_eq_some_iff] at hf
        obtain ⟨cs, hcs, xs, hxs, ys, hys, he⟩ := hf
        cases he
        refine single rfl rfl (fun v hv => ?_) (fun v => by unfold ownB; split <;> simp_all) rfl rfl (fun ys c e hn => by first | (cases e; done) | (cases e; exact absurd rfl hn))
        have hv' := hv.ng
        obtain ⟨b, cap, rfl, hib, hlc⟩ := hv'.inv_hs
        have hno : n ≤ o := by simpa [V.rb] using hrb
        obtain ⟨O, hO, hor⟩ := h.obj o b hib
        rw [get_cells hcs] at hO; cases hO
        obtain ⟨ws, T, fzz, hb, hr2, _, _, hone⟩ := hor
        obtain ⟨k1, k2, k3⟩ := chunks_spec hone _ _ _ hxs
        have hr3 : Reps M ι (((ws.toList.take cs.length).drop 0).take (len * sz)) (xs.flatMap V.cells) := by
          rw [k2]; exact ((hr2.drop 0).take (len * sz)).ng
        have hr4 := fz_flat ih hys hr3
        have hyl : ys.length = len := by rw [(mapM_some hys).1, k1]
        have := Rep.sl (M := M') (ι := ι') ys .no b 0 cap sz _ (fun y hy => by
          obtain ⟨x, hx, hxy⟩ := mapM_mem hys hy
          rw [(ih x y hxy).len]; exact k3 x hx) hr4.1 (fun i u hu => by
          refine hc o b hno hib ⟨cs, get_cells hcs⟩ (0 + i) u ?_
          rw [cell_row hb]
          rw [List.getElem?_take] at hu
          split at hu
          · rw [List.getElem?_drop, List.getElem?_take] at hu
            split at hu
            · simpa using hu
            · cases hu
          · cases hu) hr4.2 (by omega) (fun e => by cases e)
        rwa [hyl] at this
      ·
        rename_i cs off
        simp only [Option.bind_eq_bind, Option.bind_eq_some_iff] at hf
        obtain ⟨ds, hds, he⟩ := hf
        cases he
        refine single rfl rfl (fun v hv => ?_) (fun v => by unfold ownB; split <;> simp_all) rfl rfl (fun ys c e hn => by first | (cases e; done) | (cases e; exact absurd rfl hn))
        cases hv with
        | eptr _ _ b base us hl hmm hr =>
          have hr3 := fz_list ih hds (us := us) ⟨hl, hr⟩
          exact .eptr ds off b base us hr3.1 (fun i u hu => hm.le _ _ _ (hmm i u hu)) hr3.2
      ·
        rename_i xs c
        simp only [Option.bind_eq_bind, Option.bind_eq_some_iff] at hf
        obtain ⟨ys, hys, he⟩ := hf
        cases he
        refine single rfl rfl (fun v hv => ?_) (fun v => by cases c <;> cases v <;> first | rfl | (rename_i p _ _; cases p <;> rfl)) rfl (by cases c <;> rfl) (fun zs c' e _ => by
          cases e
          exact ⟨xs, rfl, fz_flat_len ih hys, fun sz hz y hy => by
            obtain ⟨x, hx, hxy⟩ := mapM_mem hys hy
            rw [(ih x y hxy).len]; exact hz x hx⟩)
        cases hv with
        | sl _ _ b off cap sz us hs hl hmm hr hcap hfx =>
          have hr3 := fz_flat ih hys (us := us) ⟨hl, hr⟩
          have hyl := (mapM_some hys).1
          have := Rep.sl (M := M') (ι := ι') ys c b off cap sz us (fun y hy => by
            obtain ⟨x, hx, hxy⟩ := mapM_mem hys hy
            rw [(ih x y hxy).len]; exact hs x hx) hr3.1 (fun i u hu => hm.le _ _ _ (hmm i u hu)) hr3.2 (by omega) (fun e => by rw [hyl]; exact hfx e)
          rwa [hyl] at this
        | sl0 a _ hg =>
          obtain rfl : ys = [] := by simpa using hys
          exact .sl0 a c hg
      ·
        rename_i cs
        simp only [Option.bind_eq_bind, Option.bind_eq_some_iff] at hf
        obtain ⟨ds, hds, he⟩ := hf
        cases he
        refine ⟨fun v hv => ?_, (mapM_some hds).1, fun us hus => fz_list ih hds hus, fun v => by unfold ownB; split <;> simp_all, rfl, rfl, fun ys c e _ => by cases e⟩
        cases hv with
        | agg vs _ hl hr =>
          exact Rep.agg_iff.2 (fz_list ih hds (Rep.agg_iff.1 (.agg vs cs hl hr)))
      ·
        rename_i cs
        simp only [Option.bind_eq_bind, Option.bind_eq_some_iff] at hf
        obtain ⟨ds, hds, he⟩ := hf
        cases he
        refine single rfl rfl (fun v hv => ?_) (fun v => by unfold ownB; split <;> simp_all) rfl rfl (fun ys c e hn => by first | (cases e; done) | (cases e; exact absurd rfl hn))
        cases hv with
        | tup vs _ hl hr =>
          have hr3 := fz_list ih hds (us := vs.toList) ⟨by simpa using hl, fun i u x hu hx => hr i u x (by simpa using hu) hx⟩
          exact .tup vs ds (by simpa using hr3.1) (fun i u x hu hx => hr3.2 i u x (by simpa using hu) hx)
      ·
        rename_i t z
        simp only [Option.bind_eq_bind, Option.bind_eq_some_iff] at hf
        obtain ⟨z', hz, he⟩ := hf
        cases he
        refine single rfl rfl (fun v hv => ?_) (fun v => by unfold ownB; split <;> simp_all) rfl rfl (fun ys c e hn => by first | (cases e; done) | (cases e; exact absurd rfl hn))
        cases hv with
        | ifc _ v' _ hr => exact .ifc t v' z' ((ih z z' hz).rep v' hr)
      ·
        rename_i g p q
        simp only [Option.bind_eq_bind, Option.bind_eq_some_iff] at hf
        obtain ⟨p', hp, q', hq, he⟩ := hf
        cases he
        refine single rfl rfl (fun v hv => ?_) (fun v => by unfold ownB; split <;> simp_all) rfl rfl (fun ys c e hn => by first | (cases e; done) | (cases e; exact absurd rfl hn))
        cases hv with
        | fn _ ars bs _ _ ha hb hra hrb =>
          have h1 := fz_list ih hp (us := ars.toList) ⟨by simpa using ha, fun i u x hu hx => hra i u x (by simpa using hu) hx⟩
          have h2 := fz_list ih hq (us := bs.toList) ⟨by simpa using hb, fun i u x hu hx => hrb i u x (by simpa using hu) hx⟩
          exact .fn g ars bs p' q' (by simpa using h1.1) (by simpa using h2.1) (fun i u x hu hx => h1.2 i u x (by simpa using hu) hx) (fun i u x hu hx => h2.2 i u x (by simpa using hu) hx)
      · cases hf
end
end Go.Ev
