/- One step, but calls: what makes new variables; all of them together. -/
import Derived.Test.YtehbeicmmnjpfaaGreatDoorEvS
set_option linter.unusedSimpArgs false
set_option linter.unusedVariables false
namespace Go.Ev
open Go

section
variable {P : Program} {M : Mem} {ι : Plc} {X : Nat → Prop} {κ : Own} {w : World} {ρ : List V} {σ : Objs} {G : Nat → V} {a : Act}

theorem nogr_map_len (cs : List V) : (cs.map V.nogr).length = cs.length := by simp
theorem nogr_map_one {cs : List V} (h : ∀ c ∈ cs, c.one = true) : ∀ c ∈ cs.map V.nogr, c.one = true := fun c hc => by
  obtain ⟨c', hc', rfl⟩ := List.mem_map.1 hc
  rw [V.nogr_one]; exact h c' hc'
theorem nogr_map_own {cs : List V} : ∀ c ∈ cs.map V.nogr, ∀ u, ownB u c = none := fun c hc u => by
  obtain ⟨c', _, rfl⟩ := List.mem_map.1 hc
  exact ownB_nogr _ _
theorem nogr_map_id {cs : List V} (h : ∀ c ∈ cs, c.nogr = c) : cs.map V.nogr = cs := by
  conv => rhs; rw [← List.map_id cs]
  exact List.map_congr_left fun c hc => h c hc

theorem step_alloc (h : St M ι X κ w a.tmps.toList ρ σ) {o : Oper} {e : TypeId} {zv : Value} {z : List V} (ho : o.op = .alloc e) (hz : zeroOf P e = some zv) (hc : chkCells zv.cells.toList z = true) :
    Left P a o M ι X w σ (put ρ o.dst (.ptr σ.length 0)) (σ ++ [.cells z]) := by
  obtain ⟨hr, h1, _⟩ := chkCells_reps (M := M) (ι := ι) hc
  have := step_new (P := P) (a := a) (o := o) h (e := e) (v := zv) hr (fun c hc => (h1 c hc).1) (by
    unfold execOp
    rw [ho]
    simp only [Instr.alloc, sem_bind_run, run_zero hz, Result.andThen, run_newVar, sem_pure_run])
  rwa [nogr_map_id (fun c hc => (h1 c hc).2)] at this

theorem step_box (h : St M ι X κ w a.tmps.toList ρ σ) (hG : GOK G M ι) {o : Oper} {e : TypeId} {x : Operand} {y : Arg} (ho : o.op = .box e x) (hx : chkArg x y = true) (hok : okCells (arg G ρ y).cells = true) :
    Left P a o M ι X w σ (put ρ o.dst (.ptr σ.length 0)) (σ ++ [.cells ((arg G ρ y).cells.map V.nogr)]) := by
  have hA := Opd.of_state h.rep hG
  have hvx := hA.ok _ _ hx
  refine step_new h (e := e) (v := a.eval x) (hvx.cells (ok_one hok)) (ok_one hok) ?_
  unfold execOp
  rw [ho]
  simp only [sem_bind_run, run_newVar, Result.andThen]
  rfl

/-- A row that is an object, as a step's value. -/
theorem left_hs (h : St M ι X κ w a.tmps.toList ρ σ) {o : Oper} {w0 : World} (hw0 : Ext X M ι w M ι w0) (hk0 : w0.heap = w.heap) (h0 : St M ι X κ w0 a.tmps.toList ρ σ) {as : Array Value} {T : TypeId} {fz : Nat × Nat} {cs : List V} {len cap sz : Nat} {ag : Bool}
    (hr : Reps M ι (as.toList.take cs.length) cs) (hfz : ∀ i, i < cs.length → frozenAt fz i = false) (hone : ∀ c ∈ cs, c.one = true) (hno : ∀ c ∈ cs, ∀ v, ownB v c = none) (hlc : len ≤ cap)
    (hrun : (execOp a.eval o).run P w = .ok (.value (.slice (some ⟨w0.heap.size, 0, none⟩) len cap)) (pushB w0 (.cells as T fz))) :
    Left P a o M ι X w σ (put ρ o.dst (.hs σ.length 0 len sz ag)) (σ ++ [.cells cs]) := by
  obtain ⟨M', ι', he, hi, hs, hdm⟩ := h0.newObj (h0.wd.none_of_ge (Nat.le_refl _)) as T fz cs hr hfz hone hno
  exact ⟨_, _, _, M', ι', κ, hrun, .inl rfl, ⟨hw0.trans he, Kp.newObj h.wd (fun o b hb => by rw [h0.wd.hkPush' _ o b hb, hk0]) hdm _, fun _ o b hb => by rw [h0.wd.hkPush' _ o b hb, hk0]⟩, hs.putNone (.hs _ 0 _ sz ag _ cap hi hlc) rfl _⟩

theorem step_bytesH (h : St M ι X κ w a.tmps.toList ρ σ) (hG : GOK G M ι) {o : Oper} {s d e : TypeId} {x : Operand} {y : Arg} {bs : List UInt8} (ho : o.op = .convert s d x) (hs : P.underlying s = some .string) (hd : P.underlying d = some (.slice e)) (he : P.underlying e = some (.int .u8))
    (hx : chkArg x y = true) (hy : arg G ρ y = .str bs) : Left P a o M ι X w σ (put ρ o.dst (.hs σ.length 0 bs.length 1 false)) (σ ++ [.cells (ofBytes bs)]) := by
  have hA := Opd.of_state h.rep hG
  have hvx := hA.ok _ _ hx
  rw [hy] at hvx
  obtain ⟨b, hxb, hbd⟩ := hvx.inv_str
  subst hbd
  have hrun := Lib.run_convert_string_bytes (P := P) w s d e b hs hd he
  rw [drew_pushB] at hrun
  have hsz : b.size = b.data.toList.length := by simp
  have hge := grownCap_ge w b.size 0 e
  have hcs : (Lib.bytesCells w e b).size = grownCap w b.size 0 e := by unfold Lib.bytesCells; simp; omega
  rw [← hsz]
  refine left_hs h (Ext.drew X M ι w) rfl h.drew (as := Lib.bytesCells w e b) (bytesCells_reps e b) (fun i hi => ?_) (fun c hc => ?_) (fun c hc v => ?_) hge ?_ (fz := ((Lib.bytesCells w e b).size, (Lib.bytesCells w e b).size + 1)) (T := e)
  · have : i < b.size := by simpa [ofBytes] using hi
    unfold frozenAt; rw [hcs]; simp; omega
  · obtain ⟨n, rfl⟩ := ofBytes_mem hc; rfl
  · obtain ⟨n, rfl⟩ := ofBytes_mem hc; unfold ownB; split <;> first | rfl | (rename_i hh; cases hh)
  · unfold execOp
    rw [ho]
    simp only [sem_bind_run, hxb, hrun, Result.andThen]
    rfl

theorem step_buildSl (h : St M ι X κ w a.tmps.toList ρ σ) (hG : GOK G M ι) {o : Oper} {t e : TypeId} {ag hh : Bool} {sz len : Nat} {z : V} {ps : Array (Nat × Operand)} {qs : List (Nat × Arg)} {v : V} {σ' : Objs} (ho : o.op = .buildSlice t len ps)
    (ht : chkElem P t ag sz = some e) (hz : len = 0 ∨ chkZero P e z = true ∧ z.cells.length = sz) (hpos : sz ≠ 0) (hsmall : len * sz ≤ 16777216) (hps : chkPartsSl ps.toList qs = true)
    {call : FuncId → List V → Objs → Option (V × Objs)} (he : evIns call (arg G ρ) (argT G ρ) σ (.buildSl ag sz len z qs hh) = some (v, σ')) : Left P a o M ι X w σ (put ρ o.dst v) σ' := by
  have hA := Opd.of_state h.rep hG
  simp only [evIns, Option.bind_eq_bind, Option.bind_eq_some_iff] at he
  obtain ⟨xs, hxs, he⟩ := he
  obtain ⟨as, hrun, hr, hl, hs⟩ := snd_buildSl h hA ht hz hpos hsmall hps hxs
  have hrun' : (execOp a.eval o).run P w = .ok (.value (.slice (some ⟨w.heap.size, 0, none⟩) len len)) (pushB w (.cells as e (0, 0))) := by
    unfold execOp
    rw [ho]
    simp only [sem_bind_run, hrun, Result.andThen]
    rfl
  have hfl := flat_len hs
  have has : as.size = (xs.flatMap V.cells).length := by have := hr.1; simpa using this
  split at he
  · rename_i hok
    cases hh with
    | true =>
      simp only [if_true] at he
      cases he
      refine left_hs h (Ext.refl ..) rfl h (T := e) (fz := (0, 0)) (as := as) ?_ (fun i _ => by unfold frozenAt; simp) (nogr_map_one (okRow_flat hok)) nogr_map_own (Nat.le_refl _) hrun'
      rw [nogr_map_len, ← has, ← Array.length_toList, List.take_length]
      exact hr.nogr
    | false =>
      simp only [Bool.false_eq_true, if_false] at he
      cases he
      obtain ⟨M', κ', hx', hst⟩ := h.putRow as e (0, 0) xs .fx len sz (by rw [← has, ← Array.length_toList, List.take_length]; exact hr) hs (Nat.le_of_eq hl) (fun _ => hl.symm) (fun s hc => by cases hc) o.dst
      rw [hl] at hst
      exact ⟨_, _, _, M', ι, κ', hrun', .inl rfl, ⟨hx', Kp.same _ _ (h.wd.hkPush' _), fun _ => h.wd.hkPush' _⟩, hst⟩
  · cases he

theorem step_buildG (h : St M ι X κ w a.tmps.toList ρ σ) (hG : GOK G M ι) {o : Oper} {t e : TypeId} {ag : Bool} {sz len : Nat} {z : V} {ps : Array (Nat × Operand)} {qs : List (Nat × Arg)} {v : V} {σ' : Objs} (ho : o.op = .buildSlice t len ps)
    (ht : chkElem P t ag sz = some e) (hz : len = 0 ∨ chkZero P e z = true ∧ z.cells.length = sz) (hpos : sz ≠ 0) (hsmall : len * sz ≤ 16777216) (hps : chkPartsSl ps.toList qs = true)
    {call : FuncId → List V → Objs → Option (V × Objs)} (he : evIns call (arg G ρ) (argT G ρ) σ (.buildG ag sz len z qs) = some (v, σ')) : Left P a o M ι X w σ (put ρ o.dst v) σ' := by
  have hA := Opd.of_state h.rep hG
  simp only [evIns, Option.bind_eq_bind, Option.bind_eq_some_iff] at he
  obtain ⟨xs, hxs, he⟩ := he
  obtain ⟨as, hrun, hr, hl, hs⟩ := snd_buildSl h hA ht hz hpos hsmall hps hxs
  have hrun' : (execOp a.eval o).run P w = .ok (.value (.slice (some ⟨w.heap.size, 0, none⟩) len len)) (pushB w (.cells as e (0, 0))) := by
    unfold execOp
    rw [ho]
    simp only [sem_bind_run, hrun, Result.andThen]
    rfl
  have hfl := flat_len hs
  have has : as.size = (xs.flatMap V.cells).length := by have := hr.1; simpa using this
  split at he
  · rename_i hok
    cases he
    obtain ⟨M', κ', hx', hst⟩ := h.putRow as e (0, 0) xs (.gr sz) len sz (by rw [← has, ← Array.length_toList, List.take_length]; exact hr) hs (Nat.le_of_eq hl) (fun hc => by cases hc) (fun s hc => by
      cases hc
      refine ⟨rfl, ?_, fun i _ _ => by unfold frozenAt; simp⟩
      rw [has, hfl, hl]; exact Nat.le_refl _) o.dst
    rw [hl] at hst
    exact ⟨_, _, _, M', ι, κ', hrun', .inl rfl, ⟨hx', Kp.same _ _ (h.wd.hkPush' _), fun _ => h.wd.hkPush' _⟩, hst⟩
  · cases he

/-- A free block's marks are laid anew. -/
theorem St.refreeze {us : List Value} (h : St M ι X κ w us ρ σ) {b : Nat} (hf : Free M ι X κ w b) {ws : Array Value} {T : TypeId} {fz : Nat × Nat} (hb : w.heap[b]? = some (.cells ws T fz)) (fz' : Nat × Nat) :
    St M ι X κ (setRow w b ws T fz') us ρ σ ∧ Ext X M ι w M ι (setRow w b ws T fz') ∧ HK ι w (setRow w b ws T fz') := by
  have hatb : ∀ p v x, At ι (setRow w b ws T fz') us ρ σ p v x → At ι w us ρ σ p v x := by
    intro p v x ha
    cases p with
    | s i => exact ha
    | c o i =>
      obtain ⟨b', ws', T', fz2, cs', g1, g2, g3⟩ := ha
      have hbb : b ≠ b' := fun e => by subst e; exact hf.i o g1
      rw [setRow_heap, if_neg hbb] at g2
      exact ⟨b', ws', T', fz2, cs', g1, g2, g3⟩
  have hownb : ∀ p v x c, At ι w us ρ σ p v x → ownB v x = some c → b ≠ c := fun p v x c ha hc e => by
    subst e; have := h.own p v x _ ha hc; rw [hf.k] at this; cases this
  refine ⟨⟨⟨fun c i u hm => ?_, fun o c hi => ?_, fun o c hi => by rw [setRow_size]; exact h.wd.olt o c hi, h.wd.inj, fun c hc => by rw [setRow_size]; exact h.wd.xlt c hc, h.wd.xobj,
    fun c p hp => by rw [setRow_size]; exact h.wd.kap c p hp⟩, h.rep, fun p v x c ha hc => h.own p v x c (hatb p v x ha) hc, fun p v x ha => ?_⟩, Ext.setRow hf.x ws T fz', fun o c hi => ?_⟩
  · have := h.wd.mem c i u hm
    by_cases hcb : c = b
    · subst hcb
      rw [cell_row hb] at this
      rw [cell_row (by rw [setRow_heap, if_pos rfl, if_pos hf.lt] : (setRow w c ws T fz').heap[c]? = some (.cells ws T fz'))]
      exact this
    · simp only [World.cell?, setRow_heap, if_neg (Ne.symm hcb)]
      simpa [World.cell?] using this
  · obtain ⟨O, hO, hor⟩ := h.wd.obj o c hi
    exact ⟨O, hO, hor.setRow fun e => hf.i o (by rw [e]; exact hi)⟩
  · have ha' := hatb p v x ha
    exact (h.gr p v x ha').setRow fun c hc => hownb p v x c ha' hc
  · rw [setRow_heap, if_neg (fun e => hf.i o (by rw [e]; exact hi))]

theorem setRow_freeze {w : World} {b n : Nat} {ws : Array Value} {T : TypeId} {fz : Nat × Nat} (hb : w.heap[b]? = some (.cells ws T fz)) :
    w.freeze ⟨b, n, none⟩ 1 = setRow w b ws T (if fz.1 == fz.2 then (n, n + 1) else (min fz.1 n, max fz.2 (n + 1))) := by
  unfold World.freeze setRow
  rw [if_neg (by decide)]
  have hlt : b < w.heap.size := (Array.getElem?_eq_some_iff.1 hb).1
  congr 1
  apply Array.ext
  · simp
  · intro i h1 h2
    have h3 : i < w.heap.size := by simpa using h1
    rw [Array.getElem_modify, Array.getElem_setIfInBounds h3]
    split
    · rename_i hbi
      subst hbi
      have : w.heap[b] = .cells ws T fz := by rw [Array.getElem?_eq_getElem hlt] at hb; exact Option.some.inj hb
      rw [this]
    · rfl

theorem step_mark (h : St M ι X κ w a.tmps.toList ρ σ) (hG : GOK G M ι) {o : Oper} {s e : TypeId} {x : Operand} {y : Arg} {v : V} {σ' : Objs} (ho : o.op = .convert s s x) (hs : P.underlying s = some (.slice e)) (he : P.underlying e = some (.int .u8))
    (hc : chkArg x y = true) (ht : okTk y true = true) {call : FuncId → List V → Objs → Option (V × Objs)} (hv : evIns call (arg G ρ) (argT G ρ) σ (.mark y) = some (v, σ')) : Left P a o M ι X w σ (put (unslot ρ y true) o.dst v) σ' := by
  obtain ⟨n, rfl⟩ := tk_slot ht
  have hx := chkArg_t hc
  subst hx
  simp only [evIns] at hv
  split at hv
  · rename_i xs sz hgx
    cases hv
    have hgx : ρ.getD n .undef = .sl xs (.gr sz) := hgx
    have hn : n < ρ.length := by
      rcases Nat.lt_or_ge n ρ.length with h1 | h1
      · exact h1
      · simp [List.getD, List.getElem?_eq_none h1] at hgx
    have hρ : ρ[n]? = some (.sl xs (.gr sz)) := by
      rw [List.getElem?_eq_getElem hn]
      simp [List.getD, List.getElem?_eq_getElem hn] at hgx
      rw [hgx]
    have hnu : n < a.tmps.toList.length := by rw [h.rep.1]; exact hn
    have hvv : a.tmps.toList[n]? = some (a.tmps.toList[n]) := List.getElem?_eq_getElem hnu
    have hrep := h.rep.2 n _ _ hvv hρ
    obtain ⟨b, off, cap, sz', us, hval, h1, h2, h3, h4, -⟩ := hrep.inv_sl
    have hown : ownB (a.tmps.toList[n]) (.sl xs (.gr sz)) = some b := by rw [hval]; rfl
    obtain ⟨κ', hst, hfree, hgr⟩ := h.takeSlot hvv hρ hown
    obtain ⟨-, -, ws, T, fz, hb, -, -⟩ := hgr.ok xs sz rfl _ _ _ hval
    obtain ⟨hst2, hext, hhk⟩ := hst.refreeze hfree hb (if fz.1 == fz.2 then (ws.size, ws.size + 1) else (min fz.1 ws.size, max fz.2 (ws.size + 1)))
    have hev : a.eval (.tmp n) = .slice (some ⟨b, off, none⟩) xs.length cap := by
      rw [eval_tmp]; simp only [List.getD, hvv, Option.getD_some]; exact hval
    have hsh : w.shape? b = some (T, ws.size) := by unfold World.shape?; rw [hb]
    have hrun : (execOp a.eval o).run P w = .ok (.value (.slice (some ⟨b, off, none⟩) xs.length cap)) (setRow w b ws T (if fz.1 == fz.2 then (ws.size, ws.size + 1) else (min fz.1 ws.size, max fz.2 (ws.size + 1)))) := by
      unfold execOp
      rw [ho, ← setRow_freeze hb]
      simp only [sem_bind_run, hev, convert, run_underlying hs, run_underlying he, Result.andThen, BEq.rfl]
      simp [markStringish, sem_bind_run, shape, freeze, Sem.run, hsh, Result.andThen, sem_pure_run]
    refine ⟨_, _, _, M, ι, κ', hrun, .inl rfl, ⟨hext, Kp.same _ _ hhk, fun _ => hhk⟩, ?_⟩
    have hno : Rep M ι (.slice (some ⟨b, off, none⟩) xs.length cap) (.sl xs .no) := by rw [← hval]; exact hrep.nogr
    have hun : unslot ρ (.t n) true = ρ.set n (V.sl xs (.gr sz)).nogr := by
      show ρ.set n (ρ.getD n .undef).nogr = _
      rw [hgx]
    rw [hun]
    exact hst2.putNone hno (ownB_nogr _ (.sl xs .no)) _
  · cases hv

theorem inv_intOf {v : Value} {x : V} {n : Int} (h : Rep M ι v x) (hn : intOf x = some n) : ∃ k, v = .int k n := by
  cases x <;> simp [intOf] at hn
  subst hn
  exact ⟨_, h.inv_int⟩

theorem step_mkSl (h : St M ι X κ w a.tmps.toList ρ σ) (hG : GOK G M ι) {o : Oper} {t e : TypeId} {ag hh : Bool} {sz bytes : Nat} {z : V} {l c : Operand} {l' c' : Arg} {v : V} {σ' : Objs} (ho : o.op = .makeSlice t l c)
    (ht : chkElem P t ag sz = some e) (hz : chkZero P e z = true) (hzl : z.cells.length = sz) (hpos : sz ≠ 0) (hb0 : bytes ≠ 0) (hby : (P.info? e).map (·.bytes) = some bytes) (hl : chkArg l l' = true) (hcc : chkArg c c' = true)
    {call : FuncId → List V → Objs → Option (V × Objs)} (he : evIns call (arg G ρ) (argT G ρ) σ (.mkSl ag sz bytes z l' c' hh) = some (v, σ')) : Left P a o M ι X w σ (put ρ o.dst v) σ' := by
  have hA := Opd.of_state h.rep hG
  simp only [evIns, Option.bind_eq_bind, Option.bind_eq_some_iff] at he
  obtain ⟨ln, hln, cn, hcn, he⟩ := he
  obtain ⟨kl, hlv⟩ := inv_intOf (hA.ok _ _ hl) hln
  obtain ⟨kc, hcv⟩ := inv_intOf (hA.ok _ _ hcc) hcn
  obtain ⟨hu, hty⟩ := chkElem_spec ht
  have hsz := chkTy_sz hty
  split at he
  · rename_i hcond
    obtain ⟨h0, hlc, hmax, -, hzok, hzag⟩ := hcond
    obtain ⟨i, zv, hi, his, hiz, hzs, hreps⟩ := zero_row (M := M) (ι := ι) (n := cn.toNat) hz hsz hzl hpos
    rw [hi] at hby
    have hby' : i.bytes = bytes := by simpa using hby
    have hmax' : (i.bytes : Int) * cn ≤ 281474976710656 := by rw [hby', Int.mul_comm]; unfold rowMax at hmax; omega
    have h63 : cn ≤ 9223372036854775807 := by
      have h1 : cn * 1 ≤ cn * (bytes : Int) := Int.mul_le_mul_of_nonneg_left (by omega) (by omega)
      unfold rowMax at hmax
      omega
    have hrun0 := run_make (P := P) w t e i zv hu hi hiz kl kc ln cn h0 hlc hmax' h63
    have hrun' : (execOp a.eval o).run P w = .ok (.value (.slice (some ⟨w.heap.size, 0, none⟩) ln.toNat cn.toNat)) (pushB w (.cells (madeCells zv.cells (cn.toNat * sz)) e)) := by
      unfold execOp
      rw [ho]
      rw [his] at hrun0
      simp only [sem_bind_run, hlv, hcv, hrun0, Result.andThen]
      rfl
    have hrep : Reps M ι (madeCells zv.cells (cn.toNat * sz)).toList ((List.replicate cn.toNat z).flatMap V.cells) := hreps
    have hzall : ∀ n, ∀ y ∈ List.replicate n z, y.cells.length = sz := fun n y hy => by rw [List.eq_of_mem_replicate hy]; exact hzl
    have hfl : ∀ n, ((List.replicate n z).flatMap V.cells).length = n * sz := fun n => by rw [flat_len (hzall n), List.length_replicate]
    have has : (madeCells zv.cells (cn.toNat * sz)).size = cn.toNat * sz := size_madeCells _ _
    have hln' : ln.toNat ≤ cn.toNat := by omega
    have hone : ∀ n, ∀ y ∈ (List.replicate n z).flatMap V.cells, y.one = true := fun n y hy => by
      obtain ⟨q, hq, hy⟩ := List.mem_flatMap.1 hy
      rw [List.eq_of_mem_replicate hq] at hy
      exact ok_one hzok y hy
    have hzn : ∀ y ∈ z.cells, y.nogr = y := by
      unfold chkZero at hz
      split at hz
      · exact fun y hy => ((chkCells_reps (M := M) (ι := ι) hz).2.1 y hy).2
      · cases hz
    cases hh with
    | true =>
      simp only [if_true] at he
      cases he
      refine left_hs h (Ext.refl ..) rfl h (T := e) (fz := (0, 0)) (as := madeCells zv.cells (cn.toNat * sz)) ?_ (fun i _ => by unfold frozenAt; simp) (hone _) (fun c hc u => ?_) hln' hrun'
      · rw [List.take_of_length_le (by rw [hfl]; have := has; simp only [Array.length_toList]; omega)]; exact hrep
      · obtain ⟨q, hq, hy⟩ := List.mem_flatMap.1 hc
        rw [List.eq_of_mem_replicate hq] at hy
        rw [← hzn c hy]
        exact ownB_nogr _ _
    | false =>
      simp only [Bool.false_eq_true, if_false] at he
      cases he
      have htake : Reps M ι ((madeCells zv.cells (cn.toNat * sz)).toList.take ((List.replicate ln.toNat z).flatMap V.cells).length) ((List.replicate ln.toNat z).flatMap V.cells) := by
        have e1 : (List.replicate cn.toNat z).flatMap V.cells = (List.replicate ln.toNat z).flatMap V.cells ++ (List.replicate (cn.toNat - ln.toNat) z).flatMap V.cells := by
          rw [← List.flatMap_append, List.replicate_append_replicate, Nat.add_sub_cancel' hln']
        rw [e1] at hrep
        refine ⟨?_, fun j u y hu hy => ?_⟩
        · have h1 := Nat.mul_le_mul_right sz hln'
          have h2 : (madeCells zv.cells (cn.toNat * sz)).toList.length = cn.toNat * sz := by rw [Array.length_toList]; exact has
          rw [List.length_take, h2, hfl]
          exact Nat.min_eq_left h1
        · rw [List.getElem?_take] at hu
          split at hu
          · exact hrep.2 j u y hu (by rw [List.getElem?_append_left (by assumption)]; exact hy)
          · cases hu
      obtain ⟨M', κ', hx', hst⟩ := h.putRow (madeCells zv.cells (cn.toNat * sz)) e (0, 0) (List.replicate ln.toNat z) (if ln = cn then .fx else .gr sz) cn.toNat sz htake (hzall _) (by rw [List.length_replicate]; exact hln')
        (fun hc => by
          split at hc
          · rename_i heq; rw [List.length_replicate, heq]
          · cases hc)
        (fun s hc => by
          split at hc
          · cases hc
          · cases hc
            exact ⟨rfl, by rw [has]; exact Nat.le_refl _, fun i _ _ => by unfold frozenAt; simp⟩) o.dst
      rw [List.length_replicate] at hst
      exact ⟨_, _, _, M', ι, κ', hrun', .inl rfl, ⟨hx', Kp.same _ _ (h.wd.hkPush' _), fun _ => h.wd.hkPush' _⟩, hst⟩
  · cases he
end
end Go.Ev
