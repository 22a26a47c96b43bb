/- The small language, evaluated step by step: rules for a rewriting; what a call from the world without objects says of the program. -/
import Derived.Test.YtehbeicmmnjpfaaGreatDoorEwM
set_option linter.unusedSimpArgs false
set_option linter.unusedVariables false
namespace Go.Ev
open Go

def fin (keep : Bool) (res : List Res) (σ : Objs) : Ran → Option (V × Objs)
  | some (.ret, ρ, σ') | some (.norm, ρ, σ') => (Ev.results keep ρ σ' res).bind fun r => (cutObjs σ.length σ').bind fun σ'' => (fz σ.length σ' fzDepth r).bind fun r' => some (r', σ'')
  | _ => none

theorem ev_run {C : Ctx} {f n : Nat} {F : Ev.Fn} {args : List V} {σ : Objs} (hp : C.prim f = none) (hc : C.code f = some F) (he : F.esc = false) :
    ev C (n+1) f args σ = fin F.keep F.res σ (evCd C.G (ev C n) n F.body (args ++ List.replicate (F.nt - args.length) .undef) σ) := by
  simp only [ev, hp, hc]
  unfold evFn
  simp only [he]
  cases evCd C.G (ev C n) n F.body (args ++ List.replicate (F.nt - args.length) .undef) σ with
  | none => rfl
  | some p =>
    obtain ⟨o, ρ, σ'⟩ := p
    cases o <;> rfl

theorem fz_rb {n d : Nat} {σ : Objs} {x : V} (h : V.rb n x = true) : fz n σ d x = some x := by cases d <;> simp [fz, h]
theorem fz_int {n d : Nat} {σ : Objs} {k : IntKind} {a : Int} : fz n σ d (.int k a) = some (.int k a) := by cases d <;> rfl
theorem fz_bool {n d : Nat} {σ : Objs} {b : Bool} : fz n σ d (.bool b) = some (.bool b) := by cases d <;> rfl
theorem fz_str {n d : Nat} {σ : Objs} {s : List UInt8} : fz n σ d (.str s) = some (.str s) := by cases d <;> rfl
theorem fz_nilp {n d : Nat} {σ : Objs}  : fz n σ d (.nilp) = some (.nilp) := by cases d <;> rfl
theorem fz_nils {n d : Nat} {σ : Objs}  : fz n σ d (.nils) = some (.nils) := by cases d <;> rfl
theorem fz_nili {n d : Nat} {σ : Objs}  : fz n σ d (.nili) = some (.nili) := by cases d <;> rfl
theorem fz_nilf {n d : Nat} {σ : Objs}  : fz n σ d (.nilf) = some (.nilf) := by cases d <;> rfl
theorem fz_undef {n d : Nat} {σ : Objs}  : fz n σ d (.undef) = some (.undef) := by cases d <;> rfl
theorem fz_any {n d : Nat} {σ : Objs}  : fz n σ d (.any) = some (.any) := by cases d <;> rfl
theorem cut_nil : cutObjs (List.length ([] : Objs)) [] = some [] := rfl
theorem cut_nil0 : cutObjs 0 [] = some [] := rfl
theorem bool_beq (a b : Bool) : (a == b) = decide (a = b) := by cases a <;> cases b <;> rfl

section
variable {G : Nat → V} {call : FuncId → List V → Objs → Option (V × Objs)} {fuel : Nat} {x : V} {ρ : List V} {σ : Objs}
theorem r_nil : evSteps G call [] ρ σ = some (ρ, σ) := rfl
theorem r_cons {s : Step} {l : List Step} : evSteps G call (s :: l) (x :: ρ) σ = (evStep G call s (x :: ρ) σ).bind fun p => evSteps G call l p.1 p.2 := rfl
theorem r_step {d : Option Nat} {i : Ins} : evStep G call ⟨d, none, i⟩ ρ σ = ev1 G call ⟨d, none, i⟩ ρ σ := rfl
theorem r_stepg {d : Option Nat} {g : Nat} {b : Bool} {i : Ins} : evStep G call ⟨d, some (g, b), i⟩ (x :: ρ) σ =
    (match (x :: ρ).getD g .undef with
    | .bool t => if t == b then ev1 G call ⟨d, some (g, b), i⟩ (x :: ρ) σ else some (put (x :: ρ) d .undef, σ)
    | .undef => some (put (x :: ρ) d .undef, σ)
    | _ => none) := by
  unfold evStep wanted
  simp only
  cases (x :: ρ).getD g .undef with
  | bool t => cases t <;> cases b <;> rfl
  | _ => rfl
theorem r_ev1 {s : Step} : ev1 G call s (x :: ρ) σ = (evIns call (arg G (x :: ρ)) (argT G (x :: ρ)) σ s.ins).bind fun p => some (put (unslot (x :: ρ) s.ins.takes.1 s.ins.takes.2) s.dst p.1, p.2) := rfl
theorem r_skip : evCd G call fuel .skip ρ σ = some (.norm, ρ, σ) := rfl
theorem r_ret : evCd G call fuel .ret ρ σ = some (.ret, ρ, σ) := rfl
theorem r_exit {id : Nat} : evCd G call fuel (.exit id) ρ σ = some (.ex id, ρ, σ) := rfl
theorem r_ops {k : Nat} {l : List Step} : evCd G call fuel (.ops k l) (x :: ρ) σ = (evSteps G call l (x :: ρ) σ).bind fun p => some (.norm, p.1, p.2) := by
  simp only [evCd]; cases evSteps G call l (x :: ρ) σ <;> rfl
theorem r_drw {k : Nat} {l : List DS} : evCd G call fuel (.drw k l) (x :: ρ) σ = (evDrw G call [] l (x :: ρ) σ).bind fun p => some (.norm, p.1, p.2) := by
  simp only [evCd]; cases evDrw G call [] l (x :: ρ) σ <;> rfl
theorem r_seq {a b : Cd} : evCd G call fuel (.seq a b) (x :: ρ) σ = (match evCd G call fuel a (x :: ρ) σ with
    | some (.norm, ρ', σ') => evCd G call fuel b ρ' σ'
    | r => r) := rfl
theorem r_cond {c : Arg} {a b : Cd} : evCd G call fuel (.cond c a b) (x :: ρ) σ = (match arg G (x :: ρ) c with
    | .bool t => if t then evCd G call fuel a (x :: ρ) σ else evCd G call fuel b (x :: ρ) σ
    | _ => none) := by
  simp only [evCd]
  cases arg G (x :: ρ) c with
  | bool t => cases t <;> rfl
  | _ => rfl
theorem r_block {id : Nat} {b : Cd} : evCd G call fuel (.block id b) (x :: ρ) σ = (match evCd G call fuel b (x :: ρ) σ with
    | some (.ex i, ρ', σ') => if i = id then some (.norm, ρ', σ') else some (.ex i, ρ', σ')
    | r => r) := rfl
theorem r_loop {lin lout : List Nat} {b : Cd} : evCd G call fuel (.loop lin lout b) (x :: ρ) σ = (cutSlots σ.length σ lin 0 (x :: ρ)).bind fun ρ' => loopN lin lout σ.length (evCd G call fuel b) fuel ρ' σ := rfl
theorem n_int {k : IntKind} {n : Int} : (V.int k n).nogr = .int k n := rfl
theorem n_bool {b : Bool} : (V.bool b).nogr = .bool b := rfl
theorem n_str {s : List UInt8} : (V.str s).nogr = .str s := rfl
theorem n_undef : V.undef.nogr = .undef := rfl
theorem n_any : V.any.nogr = .any := rfl
theorem n_nilp : V.nilp.nogr = .nilp := rfl
theorem n_ptr {o i : Nat} : (V.ptr o i).nogr = .ptr o i := rfl
theorem n_eptr {cs : List V} {i : Nat} : (V.eptr cs i).nogr = .eptr cs i := rfl
theorem n_nils : V.nils.nogr = .nils := rfl
theorem n_sl {xs : List V} {c : Cap} : (V.sl xs c).nogr = .sl xs .no := rfl
theorem n_hs {a b c d : Nat} {e : Bool} : (V.hs a b c d e).nogr = .hs a b c d e := rfl
theorem n_agg {cs : List V} : (V.agg cs).nogr = .agg cs := rfl
theorem n_tup {cs : List V} : (V.tup cs).nogr = .tup cs := rfl
theorem n_ifc {t : TypeId} {x : V} : (V.ifc t x).nogr = .ifc t x := rfl
theorem n_nili : V.nili.nogr = .nili := rfl
theorem n_fn {f : FuncId} {a b : List V} : (V.fn f a b).nogr = .fn f a b := rfl
theorem a_t {n : Nat} : arg G (x :: ρ) (.t n) = ((x :: ρ).getD n .undef).nogr := rfl
theorem a_c {y : V} : arg G ρ (.c y) = y.nogr := rfl
theorem aT_t {n : Nat} : argT G (x :: ρ) (.t n) = (x :: ρ).getD n .undef := rfl
theorem aT_c {y : V} : argT G ρ (.c y) = y := rfl
theorem p_some {d : Nat} {v : V} : put ρ (some d) v = ρ.set d v := rfl
theorem p_none {v : V} : put ρ none v = ρ := rfl
theorem u_no {y : Arg} : unslot ρ y false = ρ := by cases y <;> rfl
theorem u_t {n : Nat} : unslot (x :: ρ) (.t n) true = (x :: ρ).set n ((x :: ρ).getD n .undef).nogr := rfl
theorem k_mv {y : Arg} {tk : Bool} : (Ins.mv y tk).takes = (y, tk) := rfl
theorem k_store {n : Nat} {p y : Arg} {tk : Bool} : (Ins.store n p y tk).takes = (y, tk) := rfl
theorem k_app {a b : Bool} {c d : Nat} {y z : Arg} {tk : Bool} : (Ins.app a b c d y z tk).takes = (y, tk) := rfl
theorem k_mark {y : Arg} : (Ins.mark y).takes = (y, true) := rfl
end

/-- A table of functions, all held against the program. -/
def allOk (P : Program) : List (Nat × Ev.Fn) → Prop
  | [] => True
  | p :: r => chkFn P p.1 p.2 = true ∧ allOk P r
def lookF (l : List (Nat × Ev.Fn)) (f : Nat) : Option Ev.Fn :=
  match l with
  | [] => none
  | p :: r => if p.1 == f then some p.2 else lookF r f
theorem lookF_ok {P : Program} : ∀ {l : List (Nat × Ev.Fn)}, allOk P l → ∀ f F, lookF l f = some F → chkFn P f F = true
  | [], _, f, F, h => by cases h
  | p :: r, ha, f, F, h => by
    unfold lookF at h
    split at h
    · rename_i hp
      cases h
      have : p.1 = f := by simpa using hp
      rw [← this]
      exact ha.1
    · exact lookF_ok ha.2 f F h

/-- What is in memory when a call begins. -/
def memOf (W : World) : Mem := fun b i => W.cell? ⟨b, i, none⟩
def noPlc : Plc := fun _ => none

theorem St.start (W : World) {us : List Value} {xs : List V} (hr : Reps (memOf W) noPlc us xs) (hn : ∀ x ∈ xs, x.nogr = x) : St (memOf W) noPlc (fun b => b < W.heap.size) (fun _ => none) W us xs [] := by
  refine ⟨⟨fun b i u h => h, fun o b h => (by cases h), fun o b h => (by cases h), fun o o' b h => (by cases h), fun b h => h, fun o b h => (by cases h), fun b p h => (by cases h)⟩, hr, fun p v x b ha hb => ?_, fun p v x ha => ?_⟩
  · cases p with
    | c o i => obtain ⟨_, _, _, _, _, h, _⟩ := ha; cases h
    | s i =>
      rw [← hn x (List.mem_of_getElem? ha.2), ownB_nogr] at hb; cases hb
  · cases p with
    | c o i => obtain ⟨_, _, _, _, _, h, _⟩ := ha; cases h
    | s i => exact .of_none (by rw [← hn x (List.mem_of_getElem? ha.2)]; exact ownB_nogr _ _)

/-- A call that the small language ends with a truth: so does the program, and nothing that was there has turned. -/
theorem calls_of_ev {P : Program} (hm : P.follows .mixedOrders = true) (C : Ctx) (hP : ∀ f h, C.prim f = some h → Sound P C.G f h) (hF : ∀ f F, C.code f = some F → chkFn P f F = true) {n : Nat} {f : FuncId} {F : Ev.Fn} (hc : C.code f = some F) {vs : Array Value} {args : List V} {b : Bool}
    (W : World) (hr : Reps (memOf W) noPlc vs.toList args) (hn : ∀ x ∈ args, x.nogr = x) (hG : GOK C.G (memOf W) noPlc) (he : ev C n f args [] = some (.bool b, [])) :
    Calls P f vs W (fun e w' => e = .returned (.bool b) ∧ RowKit.Below W.heap.size W w') := by
  have hs := ev_sound hm C hP hF n f args [] (.bool b) [] he (memOf W) noPlc _ _ W vs (St.start W hr hn) hG hn
  have fin : ∀ v w', (∃ M' ι' κ', (Ext (fun b => b < W.heap.size) (memOf W) noPlc W M' ι' w' ∧ Kp noPlc W [] ι' w' []) ∧ St M' ι' (fun b => b < W.heap.size) κ' w' [v] [V.bool b] []) → v = .bool b ∧ RowKit.Below W.heap.size W w' := by
    intro v w' ⟨M', ι', κ', ⟨hx, _⟩, hst⟩
    exact ⟨(hst.rep.2 0 _ _ rfl rfl).inv_bool, ⟨hx.os, hx.tape, hx.output, hx.size, fun k hk => hx.keep k hk⟩⟩
  rcases hs with ⟨_, h2⟩ | ⟨v, w', h1, _⟩
  · refine h2.mono fun e w' ⟨v, he, hR⟩ => ?_
    obtain ⟨rfl, hb⟩ := fin v w' hR
    exact ⟨he, hb⟩
  · have hc' := hF f F hc
    unfold chkFn at hc'
    split at hc'
    · rename_i fn hf
      unfold chkFnB at hc'
      split at hc'
      · rename_i c hb
        simp only [Bool.and_eq_true, bne_iff_ne, ne_eq] at hc'
        rw [run_callFunc hf hb (by simpa using hc'.2) vs] at h1
        cases h1
      · cases hc'
    · cases hc'
end Go.Ev
