/- Functions. -/
import Derived.Test.YtehbeicmmnjpfaaGreatDoorEwL
import Derived.Laws.Sem
set_option linter.unusedSimpArgs false
set_option linter.unusedVariables false
namespace Go.Ev
open Go

def chkRes (P : Program) : List ResultVar → List Res → Bool
  | [], [] => true
  | .tmp t :: rs, .tmp t' :: qs => t == t' && chkRes P rs qs
  | .cell t ty :: rs, .cell t' ag sz :: qs => t == t' && chkTy P ty ag sz && chkRes P rs qs
  | _, _ => false

def chkFnB (P : Program) (fn : Func) (F : Fn) : Bool :=
  match fn.body with
  | some c => fn.ntmps == F.nt && chkRes P fn.results.toList F.res && !F.esc && chkCd P c F.body && fn.name != "runtime.NumGoroutine"
  | none => false

def chkFn (P : Program) (f : FuncId) (F : Fn) : Bool :=
  match P.funcs[f]? with
  | some fn => chkFnB P fn F
  | none => false

theorem chkFn_of {P : Program} {f : FuncId} {F : Fn} {fn : Func} (hf : P.funcs[f]? = some fn) (h : chkFnB P fn F = true) : chkFn P f F = true := by
  unfold chkFn
  rw [hf]
  exact h

section
variable {P : Program} {M : Mem} {ι : Plc} {X : Nat → Prop} {κ : Own} {w : World} {us : List Value} {ρ : List V} {σ : Objs} {G : Nat → V} {call : FuncId → List V → Objs → Option (V × Objs)}

/-- What a slot owns is what is handed on. -/
theorem St.result (h : St M ι X κ w us ρ σ) {t : Nat} {v : Value} {x : V} (hv : us[t]? = some v) (hx : ρ[t]? = some x) : ∃ κ', St M ι X κ' w [v] [x] σ := by
  refine ⟨fun b => match κ b with | some (.s i) => if i = t then some (.s 0) else none | q => q, ⟨h.wd.mem, h.wd.obj, h.wd.olt, h.wd.inj, h.wd.xlt, h.wd.xobj, fun b p hp => ?_⟩, Reps.cons (h.rep.2 t v x hv hx) Reps.nil, fun p u y b ha hb => ?_, fun p u y ha => ?_⟩
  · cases hk : κ b with
    | none => simp [hk] at hp
    | some q => exact h.wd.kap b q hk
  · cases p with
    | c o i =>
      have hk := h.own (.c o i) u y b ha hb
      simp [hk]
    | s i =>
      obtain ⟨h1, h2⟩ := ha
      cases i with
      | succ i => simp at h1
      | zero =>
        simp at h1 h2
        subst h1 h2
        have hk := h.own (.s t) v x b ⟨hv, hx⟩ hb
        simp [hk]
  · cases p with
    | c o i => exact h.gr (.c o i) u y ha
    | s i =>
      obtain ⟨h1, h2⟩ := ha
      cases i with
      | succ i => simp at h1
      | zero =>
        simp at h1 h2
        subst h1 h2
        exact h.gr (.s t) v x ⟨hv, hx⟩

theorem St.only (h : St M ι X κ w us ρ σ) {v : Value} {x : V} (hr : Rep M ι v x) (hn : x.nogr = x) : ∃ κ', St M ι X κ' w [v] [x] σ :=
  ⟨_, (h.callee (Reps.cons hr Reps.nil) (by simpa using hn)).lessX fun _ hb => .inl hb⟩

def resOne (tmps : Array Value) : ResultVar → Sem Value
  | .tmp t => pure (tmps.getD t Go.undef)
  | .cell a t => do loadVar t (← asAddr (tmps.getD a Go.undef))

theorem results_eq (fn : Func) (tmps : Array Value) : Go.results fn tmps = (do
    let vs ← fn.results.mapM (resOne tmps)
    pure (if h : vs.size = 1 then vs[0] else .tuple vs)) := by
  unfold Go.results
  congr 1

theorem part_nogr {ag : Bool} {sz off : Nat} {cs : List V} {x : V} (h : part ag sz cs off = some x) : x.nogr = x := by
  unfold part at h
  split at h
  · split at h
    · cases h; rfl
    · cases h
  · split at h
    · rw [Option.map_eq_some_iff] at h
      obtain ⟨y, _, rfl⟩ := h
      exact V.nogr_nogr y
    · cases h

theorem run_resOne {tmps : Array Value} (h : St M ι X κ w tmps.toList ρ σ) {r : ResultVar} {q : Res} (hc : chkRes P [r] [q] = true) {x : V} (hx : resV ρ σ q = some x) :
    ∃ v, (resOne tmps r).run P w = .ok v w ∧ Rep M ι v x ∧ ((∃ t, v = tmps.getD t Go.undef ∧ x = ρ.getD t .undef) ∨ x.nogr = x) := by
  cases r with
  | tmp t =>
    cases q with
    | cell t' ag sz => cases hc
    | tmp t' =>
      simp only [chkRes, Bool.and_true, beq_iff_eq] at hc
      subst hc
      simp only [resV, Option.some.injEq] at hx
      subst hx
      have := reps_getD h.rep t
      rw [List.getD_eq_getElem?_getD] at this
      refine ⟨tmps.getD t Go.undef, rfl, by simpa [Array.getD_eq_getD_getElem?] using this, .inl ⟨t, rfl, rfl⟩⟩
  | cell t ty =>
    cases q with
    | tmp t' => cases hc
    | cell t' ag sz =>
      simp only [chkRes, Bool.and_true, Bool.and_eq_true, beq_iff_eq] at hc
      obtain ⟨rfl, ht⟩ := hc
      simp only [resV] at hx
      have hr := reps_getD h.rep t
      rw [List.getD_eq_getElem?_getD] at hr
      have hr : Rep M ι (tmps.getD t Go.undef) (ρ.getD t .undef) := by simpa [Array.getD_eq_getD_getElem?] using hr
      split at hx
      · rename_i o off hp
        rw [hp] at hr
        obtain ⟨b, hb, hi⟩ := hr.inv_ptr
        simp only [Option.bind_eq_bind, Option.bind_eq_some_iff] at hx
        obtain ⟨cs, hcs, hpp⟩ := hx
        obtain ⟨us, hru, hcc⟩ := h.wd.objCells hi hcs
        obtain ⟨u, hrun, hu⟩ := run_loadVar (P := P) ht hru hcc hpp
        refine ⟨u, ?_, hu, .inr (part_nogr hpp)⟩
        rw [Nat.zero_add] at hrun
        simp only [resOne, hb, sem_bind_run]
        rw [show (asAddr (.pointer (some ⟨b, off, none⟩))).run P w = .ok ⟨b, off, none⟩ w from rfl]
        exact hrun
      · cases hx

theorem run_resList {tmps : Array Value} (h : St M ι X κ w tmps.toList ρ σ) : ∀ {rs : List ResultVar} {qs : List Res}, chkRes P rs qs = true → ∀ {xs : List V}, qs.mapM (resV ρ σ) = some xs → ∃ vs, (rs.mapM (resOne tmps)).run P w = .ok vs w ∧ Reps M ι vs xs
  | [], [], _, xs, hx => by
    simp at hx
    subst hx
    exact ⟨[], by simp [sem_pure_run], Reps.nil⟩
  | r :: rs, q :: qs, hc, xs, hx => by
    have hc2 : chkRes P [r] [q] = true ∧ chkRes P rs qs = true := by
      cases r <;> cases q <;> simp_all [chkRes]
    simp only [List.mapM_cons, Option.bind_eq_bind, Option.bind_eq_some_iff] at hx
    obtain ⟨x, hx1, ys, hys, he⟩ := hx
    cases he
    obtain ⟨v, hv, hr, _⟩ := run_resOne h hc2.1 hx1
    obtain ⟨vs, hvs, hrs⟩ := run_resList h hc2.2 hys
    refine ⟨v :: vs, ?_, Reps.cons hr hrs⟩
    simp only [List.mapM_cons, sem_bind_run, hv, Result.andThen, hvs, sem_pure_run]
  | [], _ :: _, hc, _, _ => by cases hc
  | r :: _, [], hc, _, _ => by cases r <;> cases hc

theorem fn_end {fn : Func} {tmps : Array Value} (h : St M ι X κ w tmps.toList ρ σ) {qs : List Res} (hc : chkRes P fn.results.toList qs = true) {keep : Bool} {r : V} (hr : results keep ρ σ qs = some r) :
    ∃ v κ', (Go.results fn tmps).run P w = .ok v w ∧ St M ι X κ' w [v] [r] σ := by
  have hrun : ∀ vs, (fn.results.toList.mapM (resOne tmps)).run P w = .ok vs w → (Go.results fn tmps).run P w = .ok (if h : vs.length = 1 then vs[0] else .tuple vs.toArray) w := by
    intro vs hvs
    rw [results_eq, Array.mapM_eq_mapM_toList, sem_bind_run]
    rw [show (List.toArray <$> fn.results.toList.mapM (resOne tmps)) = (fn.results.toList.mapM (resOne tmps)) >>= fun a => pure a.toArray from (bind_pure_comp _ _).symm]
    rw [sem_bind_run, hvs]
    simp [Result.andThen, sem_pure_run]
  match qs, hr with
  | [q], hr =>
    simp only [results, Option.bind_eq_bind, Option.bind_eq_some_iff] at hr
    obtain ⟨x, hx, hr⟩ := hr
    split at hr
    · cases hr
      match hrs : fn.results.toList, hc with
      | [rv], hc =>
        obtain ⟨v, hv, hrep, hcase⟩ := run_resOne h hc hx
        have h1 := hrun [v] (by
          rw [hrs]
          simp only [List.mapM_cons, List.mapM_nil, sem_bind_run, hv, Result.andThen, sem_pure_run])
        simp only [List.length_singleton, dite_true, List.getElem_cons_zero] at h1
        cases keep with
        | false =>
          obtain ⟨κ', hs⟩ := h.only (x := x.nogr) hrep.nogr (V.nogr_nogr x)
          exact ⟨v, κ', h1, hs⟩
        | true =>
          simp only [keepIf, if_true]
          rcases hcase with ⟨t, rfl, rfl⟩ | hn
          · rcases Nat.lt_or_ge t ρ.length with hlt | hge
            · have hlt' : t < tmps.size := by have := h.rep.1; simp at this; omega
              obtain ⟨κ', hs⟩ := h.result (t := t) (List.getElem?_eq_getElem (by simpa using hlt')) (List.getElem?_eq_getElem hlt)
              refine ⟨_, κ', h1, ?_⟩
              simpa [Array.getD, hlt', List.getD, List.getElem?_eq_getElem hlt] using hs
            · have e : ρ.getD t .undef = .undef := by simp [List.getD, List.getElem?_eq_none hge]
              rw [e] at hrep ⊢
              obtain ⟨κ', hs⟩ := h.only hrep rfl
              exact ⟨_, κ', h1, hs⟩
          · obtain ⟨κ', hs⟩ := h.only hrep hn
            exact ⟨v, κ', h1, hs⟩
      | [], hc => cases hc
      | rv :: _ :: _, hc => cases rv <;> cases q <;> simp [chkRes] at hc
    · cases hr
  | [], hr =>
    have hr2 : (some (V.tup []) : Option V) = some r := hr
    cases hr2
    obtain ⟨vs, hvs, hrs⟩ := run_resList (P := P) h hc (xs := []) (by rfl)
    have : vs = [] := List.length_eq_zero_iff.1 (by simpa using hrs.1)
    subst this
    obtain ⟨κ', hs⟩ := h.only (x := .tup []) (v := .tuple #[]) (.tup #[] [] rfl (fun i v c hv => by simp at hv)) rfl
    exact ⟨_, κ', hrun [] hvs, by simpa using hs⟩
  | q1 :: q2 :: qs, hr =>
    simp only [results, Option.bind_eq_bind, Option.bind_eq_some_iff] at hr
    obtain ⟨xs, hxs, he⟩ := hr
    cases he
    obtain ⟨vs, hvs, hrs⟩ := run_resList (P := P) h hc hxs
    have hlen : xs.length = (q1 :: q2 :: qs).length := (mapM_some hxs).1
    have hne : ¬ vs.length = 1 := by rw [hrs.1, hlen]; simp
    have h1 := hrun vs hvs
    rw [dif_neg hne] at h1
    have hrn := hrs.nogr
    obtain ⟨κ', hs⟩ := h.only (x := .tup (xs.map V.nogr)) (v := .tuple vs.toArray) (.tup _ _ (by simpa using hrn.1) (fun i v c hv hcc => hrn.2 i v c (by simpa using hv) hcc)) rfl
    exact ⟨_, κ', h1, hs⟩

theorem St.enter {vs : List Value} {xs : List V} (h : St M ι X κ w vs xs σ) (n : Nat) : St M ι X κ w (vs ++ List.replicate n Go.undef) (xs ++ List.replicate n .undef) σ := by
  have key : ∀ p v x, At ι w (vs ++ List.replicate n Go.undef) (xs ++ List.replicate n .undef) σ p v x → At ι w vs xs σ p v x ∨ x = .undef := by
    intro p v x ha
    cases p with
    | c o i => exact .inl ha
    | s i =>
      obtain ⟨h1, h2⟩ := ha
      rw [List.getElem?_append] at h1 h2
      rw [← h.rep.1] at h2
      split at h1
      · rename_i hi; rw [if_pos hi] at h2; exact .inl ⟨h1, h2⟩
      · rename_i hi
        rw [if_neg hi, List.getElem?_replicate] at h2
        split at h2
        · cases h2; exact .inr rfl
        · cases h2
  refine ⟨h.wd, h.rep.append ⟨by simp, fun i u c hu hc => ?_⟩, fun p v x b ha hb => ?_, fun p v x ha => ?_⟩
  · rw [List.getElem?_replicate] at hu hc
    split at hu
    · rename_i hi; rw [if_pos hi] at hc; cases hu; cases hc; exact .undef
    · cases hu
  · rcases key p v x ha with ha | rfl
    · exact h.own p v x b ha hb
    · unfold ownB at hb; split at hb <;> simp_all
  · rcases key p v x ha with ha | rfl
    · exact h.gr p v x ha
    · exact ⟨fun xs s e => by cases e⟩

theorem run_callFunc {f : FuncId} {fn : Func} {c : Code} (hf : P.funcs[f]? = some fn) (hb : fn.body = some c) (hn : (fn.name == "runtime.NumGoroutine") = false) (vs : Array Value) : (callFunc f vs).run P w = .ok (.enter f vs) w := by
  unfold callFunc
  rw [sem_bind_run]
  rw [show (Go.program).run P w = .ok P w from rfl]
  simp only [Result.andThen, hf, hn, hb]
  simp [sem_pure_run]

theorem evFn_sound (hm : P.follows .mixedOrders = true) (hS : ∀ f, Sound P G f (call f)) {f : FuncId} {F : Fn} (hc : chkFn P f F = true) (fuel : Nat) : Sound P G f (evFn G call F fuel) := by
  intro args σ r σ' he M ι X κ w vs h hG _
  unfold chkFn at hc
  split at hc
  · rename_i fn hf
    unfold chkFnB at hc
    split at hc
    · rename_i c hb
      simp only [Bool.and_eq_true, beq_iff_eq, Bool.not_eq_true', bne_iff_ne, ne_eq] at hc
      obtain ⟨⟨⟨⟨hnt, hres⟩, hesc⟩, hcd⟩, hname⟩ := hc
      refine .inl ⟨run_callFunc hf hb (by simpa using hname) vs, ?_⟩
      refine calls_of_wp hf hb ?_
      have hlen : vs.size = args.length := by simpa using h.rep.1
      have hent := h.enter (F.nt - args.length)
      unfold evFn at he
      simp only [hesc, Option.bind_eq_bind, Option.bind_eq_some_iff] at he
      obtain ⟨⟨out, ρ', σ1⟩, hrun, he⟩ := he
      have hst : St M ι X κ w ({ tmps := vs ++ Array.replicate (fn.ntmps - vs.size) Go.undef, defers := [] } : Act).tmps.toList (args ++ List.replicate (F.nt - args.length) .undef) σ := by
        simpa [hnt, hlen] using hent
      have hout : (out = .norm ∨ out = .ret) ∧ ∃ r0, results F.keep ρ' σ1 F.res = some r0 ∧ ∃ σ2, cutObjs σ.length σ1 = some σ2 ∧ ∃ r1, fz σ.length σ1 fzDepth r0 = some r1 ∧ r = r1 ∧ σ' = σ2 := by
        cases out with
        | ex id => simp at he
        | norm =>
          simp only [Option.bind_eq_some_iff] at he
          obtain ⟨r0, h0, σ2, h2, h3⟩ := he
          simp at h3
          obtain ⟨r1, h4, h5, h6⟩ := h3
          exact ⟨.inl rfl, r0, h0, σ2, h2, r1, h4, h5.symm, h6.symm⟩
        | ret =>
          simp only [Option.bind_eq_some_iff] at he
          obtain ⟨r0, h0, σ2, h2, h3⟩ := he
          simp at h3
          obtain ⟨r1, h4, h5, h6⟩ := h3
          exact ⟨.inr rfl, r0, h0, σ2, h2, r1, h4, h5.symm, h6.symm⟩
      obtain ⟨ho, r0, h0, σ2, h2, r1, h1, rfl, rfl⟩ := hout
      refine wp_cd hm hS F.body c hcd _ M ι κ w _ _ σ out ρ' σ1 hst hG hrun fun a' w' hgot => ?_
      obtain ⟨hd, M1, ι1, κ1, hx, hk, hs⟩ := hgot
      obtain ⟨v, κ2, hv, hs2⟩ := fn_end (P := P) (fn := fn) hs hres h0
      have hcs : cutSlots σ.length σ1 [0] 0 [r0] = some [r] := by
        simp [cutSlots, h1]
      obtain ⟨c1, c2, c3, c4, c5⟩ := hs2.cut (n := σ.length) (ι0 := ι) (fun o ho => (hk.dom o ho).symm) (fun o ho => h.wd.none_of_ge ho) hcs h2
      have hfin : bodyPost P fn (fun e w' => ∃ v, e = .returned v ∧ ∃ M' ι' κ', (Ext X M ι w M' ι' w' ∧ Kp ι w σ ι' w' σ') ∧ St M' ι' X κ' w' [v] [r] σ') .ret a' w' := by
        refine ⟨hd, v, hv, v, rfl, _, ι, κ2, ⟨⟨hx.m.trans c1, PlcLe.refl ι, fun b i hb => (c2 b i hb).trans (hx.mX b i hb), hx.size, hx.keep, hx.os, hx.tape, hx.output⟩, ⟨?_, fun _ _ => rfl, fun o b i hi hl => hk.lk o b i hi (c4 o i hl)⟩⟩, c3⟩
        have := hk.len; omega
      rcases ho with rfl | rfl
      · exact hfin
      · exact hfin
    · cases hc
  · cases hc

/-- Everything that the small language computes, the program does. -/
theorem ev_sound (hm : P.follows .mixedOrders = true) (C : Ctx) (hP : ∀ f h, C.prim f = some h → Sound P C.G f h) (hF : ∀ f F, C.code f = some F → chkFn P f F = true) : ∀ (n : Nat) (f : FuncId), Sound P C.G f (ev C n f)
  | 0, f => fun args σ r σ' he => by simp [ev] at he
  | n + 1, f => fun args σ r σ' he => by
    simp only [ev] at he
    split at he
    · rename_i h hp
      exact hP f h hp args σ r σ' he
    · split at he
      · rename_i F hF'
        exact evFn_sound hm (ev_sound hm C hP hF n) (hF f F hF') n args σ r σ' he
      · cases he
end
end Go.Ev
