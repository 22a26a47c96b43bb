/- One step, but calls: rows; and all of them together. -/
import Derived.Test.YtehbeicmmnjpfaaGreatDoorEvR
import Derived.Lib.ConvBytes
import Derived.Laws.MakeOwn
set_option linter.unusedSimpArgs false
set_option linter.unusedVariables false
namespace Go.Ev
open Go

section
variable {P : Program} {M : Mem} {ι : Plc} {X : Nat → Prop} {κ : Own} {w : World} {ρ : List V} {σ : Objs} {G : Nat → V} {a : Act}

theorem get_cells {o : Nat} {cs : List V} (h : Objs.get σ o = some cs) : σ[o]? = some (.cells cs) := by
  unfold Objs.get at h
  split at h
  · cases h; assumption
  · cases h

theorem ownB_notgr {u : Value} {c : V} (h : ∀ xs s, c = .sl xs (.gr s) → False) : ownB u c = none := by
  unfold ownB
  split
  · exact absurd rfl (fun e => h _ _ e)
  · rfl

/-- What a cell's holder may do goes over to a slot. -/
theorem step_loadT (h : St M ι X κ w a.tmps.toList ρ σ) (hG : GOK G M ι) {o : Oper} {t : TypeId} {x : Operand} {y : Arg} {v : V} {σ' : Objs} (ho : o.op = .load t x) (ht : chkTy P t false 1 = true) (hx : chkArg x y = true)
    (he : (match arg G ρ y with
      | .ptr o off => (Objs.get σ o).bind fun cs => (cs[off]?).bind fun v =>
        match v with
        | .sl xs (.gr s) => some (.sl xs (.gr s), σ.set o (.cells (cs.set off (.sl xs .no))))
        | .sl _ .lk => none
        | v => some (v, σ)
      | .eptr cs off => (cs[off]?).bind fun v => some (v.nogr, σ)
      | _ => none) = some (v, σ')) : Left P a o M ι X w σ (put ρ o.dst v) σ' := by
  have hA := Opd.of_state h.rep hG
  have hv := hA.ok _ _ hx
  have hag : agOf P t = some false := by simp only [chkTy, Bool.and_eq_true, beq_iff_eq] at ht; exact ht.1.1
  have run : ∀ b off u, a.eval x = .pointer (some ⟨b, off, none⟩) → w.cell? ⟨b, off, none⟩ = some u → (execOp a.eval o).run P w = .ok (.value u) w := by
    intro b off u hev hc
    unfold execOp
    rw [ho]
    simp only [Instr.loadAt, Instr.sureAddr, hev, loadVar, sem_bind_run, sem_pure_run, run_isAgg hag, Result.andThen, Bool.false_eq_true, if_false, run_load hc]
  split at he
  · rename_i oo off hpp
    rw [hpp] at hv
    obtain ⟨b, hpb, hi⟩ := hv.inv_ptr
    simp only [Option.bind_eq_some_iff] at he
    obtain ⟨cs, hcs, c, hc, he⟩ := he
    have hcs' := get_cells hcs
    obtain ⟨O, hO, hor⟩ := h.wd.obj oo b hi
    rw [hcs'] at hO; cases hO
    obtain ⟨ws, T, fz, hb, hr2, hfz, hM, hone2⟩ := hor
    obtain ⟨u, hu, hru⟩ := hr2.get hc
    have hu' : ws[off]? = some u := by
      rw [List.getElem?_take] at hu
      split at hu
      · simpa using hu
      · cases hu
    have hrun := run b off u hpb (by rw [cell_row hb]; exact hu')
    have hc1 := hone2 _ (List.mem_of_getElem? hc)
    split at he
    case h_2 => cases he
    case h_3 hng _ =>
      simp only [Option.some.injEq, Prod.mk.injEq] at he
      obtain ⟨rfl, rfl⟩ := he
      exact left_value hrun (h.putNone hru (ownB_notgr hng) _)
    rename_i xs s
    simp only [Option.some.injEq, Prod.mk.injEq] at he
    obtain ⟨rfl, rfl⟩ := he
    have hk : Kp ι w σ ι w (σ.set oo (.cells (cs.set off (V.sl xs (.gr s)).nogr))) := Kp.set h.wd hi hcs' (fun _ _ => rfl) (fun i y hy hlk => by
      rw [List.getElem?_set] at hy
      split at hy
      · split at hy
        · cases hy; rw [nogr_lk] at hlk; cases hlk
        · cases hy
      · exact ⟨hy, rfl⟩)
    cases hob : ownB u (V.sl xs (.gr s)) with
    | none =>
      have hd := h.dropCell hcs' hc (by rw [V.nogr_one]; exact hc1)
      exact left_value' hrun hk (hd.putNone hru hob _)
    | some bb =>
      obtain ⟨κ', hs, hf, hg⟩ := h.takeCell hi hb hcs' hu' hc hob
      obtain ⟨κ2, hs2⟩ := hs.putOwn hru (fun b' hb' => by rw [hob] at hb'; cases hb'; exact ⟨hf, hg⟩) o.dst
      exact left_value' hrun hk hs2
  · rename_i cs off hpp
    rw [hpp] at hv
    obtain ⟨b, base, us, hpb, hr, hm⟩ := hv.inv_eptr
    simp only [Option.bind_eq_some_iff] at he
    obtain ⟨c, hc, he⟩ := he
    cases he
    obtain ⟨u, hu, hru⟩ := hr.get hc
    exact left_value (run b _ u hpb (h.wd.cells hm off u hu)) (h.putNone hru.nogr (ownB_nogr _ _) _)
  · cases he

theorem step_app (h : St M ι X κ w a.tmps.toList ρ σ) (hG : GOK G M ι) {o : Oper} {p q : Operand} {x y : Arg} {str ag tk : Bool} {sz bytes : Nat} {t tx : TypeId} {v : V}
    (ho : o.op = .call { callee := .builtin .append, args := #[p, q], argTypes := #[t, tx] }) (hp : chkArg p x = true) (hq : chkArg q y = true) (ht : okTk x tk = true) (hc : chkApp P str ag sz bytes t tx = true) {ys : List V}
    (hs : srcOf str σ (arg G ρ y) = some ys) (he : evApp ag sz bytes (if tk then argT G ρ x else arg G ρ x) ys = some v) : Left P a o M ι X w σ (put (unslot ρ x tk) o.dst v) σ := by
  have hA := Opd.of_state h.rep hG
  have hvx := chkArg_rep h.rep hG hp
  have hvy := hA.ok _ _ hq
  have lift : ∀ {u : Value} {w' : World}, (Builtin.append_ #[t, tx] o.type #[a.eval p, a.eval q]).run P w = .ok u w' → (execOp a.eval o).run P w = .ok (.value u) w' := by
    intro u w' hrun
    obtain ⟨dst, op, type, pos, after, guard⟩ := o
    simp only at ho hrun
    subst ho
    rw [exec_append, sem_bind_run]
    simp only [List.map_toArray, List.map_cons, List.map_nil, hrun, Result.andThen]
    rfl
  have fin : ∀ {u : Value} {w' : World} {M' : Mem} {κ' : Own} {ρ' : List V}, (Builtin.append_ #[t, tx] o.type #[a.eval p, a.eval q]).run P w = .ok u w' → Ext X M ι w M' ι w' → HK ι w w' → St M' ι X κ' w' (putL a.tmps.toList o.dst u) ρ' σ → Left P a o M ι X w σ ρ' σ :=
    fun h1 h2 hk h3 => ⟨_, _, _, _, _, _, lift h1, .inl rfl, ⟨h2, Kp.same _ _ hk, fun _ => hk⟩, h3⟩
  cases tk with
  | false =>
    rw [unslot_false]
    simp only [Bool.false_eq_true, if_false] at he
    have hvn : Rep M ι (a.eval p) (arg G ρ x) := hvx.nogr
    by_cases hys : ys = []
    · subst hys
      obtain ⟨hrun, rfl⟩ := app_none h.wd (ty := o.type) hc hvn hvy hs he
      exact fin hrun (Ext.refl ..) (HK.refl _ _) (h.putNone hvn (ownB_nogr _ _) _)
    · obtain ⟨u, w', M', κ', hrun, hx, hk, hst⟩ := app_new h (ty := o.type) hc hvn hvy hs hys (fun xs s e => by
        have := V.nogr_nogr (argT G ρ x)
        rw [show (argT G ρ x).nogr = arg G ρ x from rfl, e] at this
        cases this) he o.dst
      exact fin hrun hx hk hst
  | true =>
    obtain ⟨n, rfl⟩ := tk_slot ht
    have hpt := chkArg_t hp
    subst hpt
    simp only [if_true] at he
    show Left P a o M ι X w σ (put (ρ.set n (ρ.getD n .undef).nogr) o.dst v) σ
    have hT : argT G ρ (.t n) = ρ.getD n .undef := rfl
    rw [hT] at he hvx
    by_cases hn : n < ρ.length
    · have hnu : n < a.tmps.toList.length := by rw [h.rep.1]; exact hn
      have hv : a.tmps.toList[n]? = some (a.tmps.toList[n]) := List.getElem?_eq_getElem hnu
      have hρ : ρ[n]? = some ρ[n] := List.getElem?_eq_getElem hn
      have e1 : ρ.getD n .undef = ρ[n] := by simp [List.getD, hρ]
      have e2 : a.eval (.tmp n) = a.tmps.toList[n] := by rw [eval_tmp]; simp only [List.getD, hv, Option.getD_some]
      rw [e1] at he hvx ⊢
      have hdrop := h.dropSlot n
      rw [e1] at hdrop
      by_cases hys : ys = []
      · subst hys
        obtain ⟨hrun, rfl⟩ := app_none h.wd (ty := o.type) hc hvx hvy hs he
        cases hd : o.dst with
        | none =>
          refine fin hrun (Ext.refl ..) (HK.refl _ _) ?_ (κ' := κ)
          rw [hd]; exact hdrop
        | some d =>
          obtain ⟨κ', hs', _⟩ := h.moveSlot (d := d) hv hρ
          refine fin hrun (Ext.refl ..) (HK.refl _ _) ?_ (κ' := κ')
          rw [hd, e2]; exact hs'
      · by_cases hgr : ∃ xs s, ρ[n] = .sl xs (.gr s)
        · obtain ⟨xs, s, hxs⟩ := hgr
          have hρ' : ρ[n]? = some (.sl xs (.gr s)) := by rw [hρ, hxs]
          rw [hxs] at he ⊢
          obtain ⟨u, w', M', κ', hrun, hx, hk, hst⟩ := app_gr h (ty := o.type) hc hv hρ' hvy hs hys he o.dst
          rw [← e2] at hrun
          exact fin hrun hx hk hst
        · obtain ⟨u, w', M', κ', hrun, hx, hk, hst⟩ := app_new hdrop (ty := o.type) hc hvx hvy hs hys (fun xs s e => hgr ⟨xs, s, e⟩) he o.dst
          exact fin hrun hx hk hst
    · exfalso
      have e1 : ρ.getD n .undef = .undef := by simp [List.getD, List.getElem?_eq_none (Nat.not_lt.1 hn)]
      rw [e1] at he
      rcases evApp_other he with h | ⟨_, _, h⟩ <;> cases h

theorem drew_pushB (e : TypeId) (s : ByteArray) : Lib.bytesWorld w e s = pushB { w with drawn := w.drawn + 1 } (.cells (Lib.bytesCells w e s) e ((Lib.bytesCells w e s).size, (Lib.bytesCells w e s).size + 1)) := by
  have h : (Lib.bytesWorld w e s).heap = (pushB { w with drawn := w.drawn + 1 } (.cells (Lib.bytesCells w e s) e ((Lib.bytesCells w e s).size, (Lib.bytesCells w e s).size + 1))).heap := by
    apply Array.ext_getElem?
    intro j
    rw [pushB_heap]
    rcases Nat.lt_trichotomy j w.heap.size with hj | hj | hj
    · rw [Lib.bytesWorld_at_old w e s j hj, if_neg (by show ¬ j = w.heap.size; omega)]
    · subst hj
      rw [Lib.bytesWorld_at_new, if_pos rfl]
    · rw [if_neg (by show ¬ j = w.heap.size; omega), Array.getElem?_eq_none (by rw [Lib.bytesWorld_size]; omega), Array.getElem?_eq_none (by show w.heap.size ≤ j; omega)]
  unfold Lib.bytesWorld World.freeze World.alloc World.drew pushB at h ⊢
  simp only [Nat.one_ne_zero, if_false] at h ⊢
  rw [h]

theorem bytesCells_reps (e : TypeId) (s : ByteArray) : Reps M ι ((Lib.bytesCells w e s).toList.take (ofBytes s.data.toList).length) (ofBytes s.data.toList) := by
  have e1 : (Lib.bytesCells w e s).toList.take (ofBytes s.data.toList).length = s.data.toList.map fun b => Value.int .u8 b.toNat := by
    unfold Lib.bytesCells ofBytes
    simp
  rw [e1]
  refine ⟨by simp [ofBytes], fun i u y hu hy => ?_⟩
  unfold ofBytes at hy
  rw [List.getElem?_map, Option.map_eq_some_iff] at hu hy
  obtain ⟨b, hb, rfl⟩ := hu
  obtain ⟨c, hc, rfl⟩ := hy
  rw [hb] at hc; cases hc
  exact .int _ _

theorem ofBytes_mem {s : List UInt8} {y : V} (h : y ∈ ofBytes s) : ∃ n : Nat, y = .int .u8 n := by
  unfold ofBytes at h
  obtain ⟨b, _, rfl⟩ := List.mem_map.1 h
  exact ⟨_, rfl⟩

theorem step_strBytes (h : St M ι X κ w a.tmps.toList ρ σ) (hG : GOK G M ι) {o : Oper} {s d e : TypeId} {x : Operand} {y : Arg} {v : V} (ho : o.op = .convert s d x) (hs : P.underlying s = some .string) (hd : P.underlying d = some (.slice e)) (he : P.underlying e = some (.int .u8))
    (hx : chkArg x y = true) (hv : evConv σ .strBytes (arg G ρ y) = some v) : Left P a o M ι X w σ (put ρ o.dst v) σ := by
  have hA := Opd.of_state h.rep hG
  have hvx := hA.ok _ _ hx
  unfold evConv at hv
  split at hv <;> first | (rename_i hk _; cases hk; done) | (rename_i hk _ _; cases hk; done) | skip
  · rename_i bs _ hb
    cases hv
    rw [hb] at hvx
    obtain ⟨b, hxb, hbd⟩ := hvx.inv_str
    subst hbd
    have hrun := Lib.run_convert_string_bytes (P := P) w s d e b hs hd he
    rw [drew_pushB] at hrun
    have hsz : b.size = (ofBytes b.data.toList).length := by simp [ofBytes]
    obtain ⟨M', κ', hx', hst⟩ := h.drew.putRow (Lib.bytesCells w e b) e ((Lib.bytesCells w e b).size, (Lib.bytesCells w e b).size + 1) (ofBytes b.data.toList) (.gr 1) (grownCap w b.size 0 e) 1
      (by rw [ofBytes_flat]; exact bytesCells_reps e b) (fun y hy => by obtain ⟨n, rfl⟩ := ofBytes_mem hy; rfl) (by rw [← hsz]; exact grownCap_ge ..) (fun hc => by cases hc)
      (fun s' hs' => by
        cases hs'
        have hge := grownCap_ge w b.size 0 e
        refine ⟨rfl, ?_, fun i _ hi => ?_⟩
        · unfold Lib.bytesCells; simp; omega
        · unfold frozenAt; simp; omega) o.dst
    rw [← hsz] at hst
    refine ⟨_, _, _, M', ι, κ', ?_, .inl rfl, ⟨(Ext.drew X M ι w).trans hx', Kp.same _ _ (h.wd.hkPush _ _), fun _ => h.wd.hkPush _ _⟩, hst⟩
    unfold execOp
    rw [ho]
    simp only [sem_bind_run, hxb, hrun, Result.andThen]
    rfl
  · cases hv
end
end Go.Ev
