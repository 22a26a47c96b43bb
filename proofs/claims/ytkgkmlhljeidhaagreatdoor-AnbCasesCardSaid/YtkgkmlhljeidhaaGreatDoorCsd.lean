/- Part of a proof: the small language, and functions of the program on it. -/
import Derived.Test.YtkgkmlhljeidhaaGreatDoorCsc
import Derived.LaidEql
import Derived.Stop.Asserts
import Derived.RowKitTokens
import Derived.WalkKit
import Derived.Elder7
import Derived.Attr
import Derived.KernelRfl
namespace Go.Proofs.YtkgkmlhljeidhaaGreatDoor
open Go.RowKit Go.Extern.Stop Go.Stop Go.Extern
theorem Tryz.isTypeOf (v : Value) (w : World) : (Extern.ReflectliteType.typeOf #[.iface 38 v]).run Tryz.prog w = .ok (.iface 128 (.agg #[.pointer (some ⟨7, 38, none⟩)])) w := by kernel_rfl
theorem Tryz.isComparable (w : World) : ((Extern.ReflectliteType.method fun t => do Extern.Rtype.noPackHeld "Comparable" t; (fun a => Value.bool a.comparable) <$> typeInfo t) #[.agg #[.pointer (some ⟨7, 38, none⟩)]]).run Tryz.prog w = .ok (.bool true) w := by kernel_rfl
theorem Tryz.isMethodComparable (v : Value) (w : World) : (Go.method 298 128 v "Comparable").run Tryz.prog w = .ok (154, v) w := by kernel_rfl
theorem Tryz.hasIsF (v : Value) (xT : TypeId) (w : World) : (Instr.typeAssert (.iface 73 v) xT 130 true).run Tryz.prog w = .ok (.tuple #[.iface 73 v, .bool true]) w := run_typeAssert_hasB Tryz.underlying130 (by kernel_rfl) v xT w
theorem Tryz.hasUnwrapF (v : Value) (xT : TypeId) (w : World) : (Instr.typeAssert (.iface 73 v) xT 132 true).run Tryz.prog w = .ok (.tuple #[.iface 73 v, .bool true]) w := run_typeAssert_hasB Tryz.underlying132 (by kernel_rfl) v xT w
theorem Tryz.methodIsF (v : Value) (w : World) : (Go.method 298 73 v "Is").run Tryz.prog w = .ok (147, v) w := by kernel_rfl
theorem Tryz.methodUnwrapF (v : Value) (w : World) : (Go.method 298 73 v "Unwrap").run Tryz.prog w = .ok (148, v) w := by kernel_rfl
theorem Tryz.assertErrno (n : Int) (w : World) : (Instr.typeAssert (.iface 38 (.int .i64 n)) 27 38 true).run Tryz.prog w = .ok (.tuple #[.int .i64 n, .bool true]) w := by kernel_rfl
inductive FC (W : World) : Value → List Int → Prop
  | nil : FC W .nilIface []
  | cons (b o : Nat) (k : Int) (E : Value) (l : List Int) : W.cell? ⟨b, o, none⟩ = some (.int .i64 k) → W.cell? ⟨b, o + 2, none⟩ = some E → FC W E l → FC W (.iface 73 (.pointer (some ⟨b, o, none⟩))) (k :: l)
theorem FC.unique {W : World} {E : Value} {l l' : List Int} (h : FC W E l) (h' : FC W E l') : l = l' := by
  induction h generalizing l' with
  | nil => cases h'; rfl
  | cons b o k E1 l1 h1 h2 h3 ih =>
    cases h' with
    | cons _ _ k2 E2 l2 g1 g2 g3 =>
      rw [h1] at g1; rw [h2] at g2
      cases g1; cases g2
      rw [ih g3]
open Classical in
noncomputable def fcLen (W : World) (E : Value) : Nat := if h : ∃ l, FC W E l then h.choose.length else 0
theorem fcLen_eq {W : World} {E : Value} {l : List Int} (h : FC W E l) : fcLen W E = l.length := by
  unfold fcLen
  rw [dif_pos ⟨l, h⟩]
  rw [FC.unique (Exists.choose_spec ⟨l, h⟩) h]
set_option maxRecDepth 100000 in
theorem is_chain {W : World} (j : Int) (E : Value) (l : List Int) (hch : FC W E l) (hne : l ≠ []) :
    Calls Tryz.prog 58 #[E, .iface 38 (.int .i64 j), .bool true] W fun e w' => e = .returned (.bool (decide (j ∈ l))) ∧ w' = W := by
  have nE := Tryz.hasIsF
  have uE := Tryz.hasUnwrapF
  have mI := Tryz.methodIsF
  have mU := Tryz.methodUnwrapF
  go_enter Tryz.func58, Tryz.ntmps58
  go_wp2
  go_loopw [0] (fun E' wl => wl = W ∧ ∃ l', FC W E' l' ∧ l' ≠ [] ∧ decide (j ∈ l) = decide (j ∈ l')) (fun E' _ => fcLen W E')
  case atStart => exact ⟨rfl, l, hch, hne, rfl⟩
  case round =>
    obtain ⟨rfl, l', hc', hn', hiff⟩ := hrel
    cases hc' with
    | nil => exact absurd rfl hn'
    | cons b o k E1 l1 hk hi h1 =>
      have hty := run_eql_iface_types (P := Tryz.prog) 73 38 (.pointer (some ⟨b, o, none⟩)) (.int .i64 j) Tryz.underlying27 (by decide) wr
      have hA := Tryz.assertErrno
      have hlen := fcLen_eq h1
      have hlen0 := fcLen_eq (FC.cons b o k E1 l1 hk hi h1)
      have HC : Hid (FC wr E1 l1) := h1
      cases hjk : j == k
      · cases h1 with
        | nil =>
          clear HC
          go_wp2
          go_ret
          exact ⟨by simp [hiff]; simpa using hjk, rfl⟩
        | cons b1 o1 k1 E2 l2 g1 g2 g3 =>
          clear g1 g2 g3
          go_wp2
          go_roundw
          case rel => exact ⟨trivial, _, HC.out, by simp, by rw [hiff]; simp [show ¬ j = k by simpa using hjk]⟩
          case measure =>
            show fcLen wr (.iface 73 (.pointer (some ⟨b1, o1, none⟩))) < _
            rw [hlen, hlen0]; simp
      · go_wp2
        go_ret
        exact ⟨by rw [hiff]; simp [show j = k by simpa using hjk], rfl⟩
set_option maxRecDepth 100000 in
theorem is_nil (j : Int) (w : World) : Calls Tryz.prog 35 #[.nilIface, .iface 38 (.int .i64 j)] w fun e w' => e = .returned (.bool false) ∧ w' = w := by
  have hn := run_eql_iface_nil_left (P := Tryz.prog) w 38 (.int .i64 j) Tryz.underlying27
  go_enter Tryz.func35, Tryz.ntmps35
  go_wp2
  go_ret
  exact ⟨rfl, rfl⟩
set_option maxRecDepth 100000 in
theorem is_fault {w : World} (j : Int) (b o : Nat) (l : List Int) (hch : FC w (.iface 73 (.pointer (some ⟨b, o, none⟩))) l) : Calls Tryz.prog 35 #[.iface 73 (.pointer (some ⟨b, o, none⟩)), .iface 38 (.int .i64 j)] w fun e w' => e = .returned (.bool (decide (j ∈ l))) ∧ w' = w := by
  have hne : l ≠ [] := by cases hch; simp
  have h8 := @run_callFunc_extern Tryz.prog 57 _ Extern.ReflectliteType.typeOf Tryz.func57 (by kernel_rfl) (by kernel_rfl) (by kernel_rfl) (by kernel_rfl)
  have h32 := @run_callFunc_extern Tryz.prog 154 _ (Extern.ReflectliteType.method fun t => do Extern.Rtype.noPackHeld "Comparable" t; pure (.bool (← typeInfo t).comparable)) Tryz.func154 (by kernel_rfl) (by kernel_rfl) (by kernel_rfl) (by kernel_rfl)
  have tT := Tryz.isTypeOf
  have cT := Tryz.isComparable
  have mR := Tryz.isMethodComparable
  have hc := is_chain j _ l hch hne
  go_enter Tryz.func35, Tryz.ntmps35
  go_wp2_with fail
  refine hc.mono ?_
  rintro e w' ⟨rfl, rfl⟩
  go_wp2
  go_ret
  exact ⟨rfl, rfl⟩
end Go.Proofs.YtkgkmlhljeidhaaGreatDoor
namespace Go.Proofs.YtkgkmlhljeidhaaGreatDoor
open Go.RowKit Go.Extern.Stop Go.Stop Go.Extern
end Go.Proofs.YtkgkmlhljeidhaaGreatDoor
namespace Go.Proofs.YtkgkmlhljeidhaaGreatDoor
open Go.RowKit
def ErrVar (w : World) : Prop := w.cell? ⟨0, 0, none⟩ = some (.iface 128 (.agg #[.pointer (some ⟨7, 27, none⟩)]))
theorem ErrVar.keep {w w' : World} (h : ErrVar w) (hb : Below w.heap.size w w') : ErrVar w' := by
  unfold ErrVar at *
  rw [hb.cell (p := ⟨0, 0, none⟩) (World.block_lt_of_cell? w _ h)]; exact h
end Go.Proofs.YtkgkmlhljeidhaaGreatDoor
set_option linter.unusedSimpArgs false
set_option linter.unusedVariables false
namespace Go.Proofs.YtkgkmlhljeidhaaGreatDoor
open Go.RowKit
open Go.Ev
end Go.Proofs.YtkgkmlhljeidhaaGreatDoor
set_option linter.unusedSimpArgs false
set_option linter.unusedVariables false
namespace Go.Proofs.YtkgkmlhljeidhaaGreatDoor
open Go.RowKit Go.Ev
def kinds : Nat → V → Option (List Int)
  | 0, x => match x with | .nili => some [] | _ => none
  | n + 1, x =>
    match x with
    | .nili => some []
    | .ifc t (.eptr (.int .i64 k :: _ :: x :: _) 0) => if t = 73 then (kinds n x).map (k :: ·) else none
    | _ => none
def isP : List V → Objs → Option (V × Objs)
  | [x, .ifc t (.int .i64 j)], σ => if t = 38 then (kinds 20 x).map fun l => (.bool (decide (j ∈ l)), σ) else none
  | _, _ => none
theorem fc_of {M : Mem} {ι : Plc} {X : Nat → Prop} {κ : Own} {w : World} {us : List Value} {ρ : List V} {σ : Objs} (h : St M ι X κ w us ρ σ) : ∀ (n : Nat) (v : Value) (x : V) (l : List Int), Rep M ι v x → kinds n x = some l → FC w v l := by
  intro n
  induction n with
  | zero =>
    intro v x l hr hk
    simp only [kinds] at hk
    split at hk
    · cases hr; cases hk; exact .nil
    · cases hk
  | succ n ih =>
    intro v x l hr hk
    simp only [kinds] at hk
    split at hk
    · cases hr; cases hk; exact .nil
    · split at hk
      · rename_i ht
        subst ht
        rw [Option.map_eq_some_iff] at hk
        obtain ⟨l', hl', rfl⟩ := hk
        cases hr with
        | ifc _ u _ hu =>
          obtain ⟨b, base, us', rfl, hrs, hm⟩ := hu.inv_eptr
          obtain ⟨u0, h0, h0'⟩ := hrs.get (i := 0) rfl
          obtain ⟨u2, h2, h2'⟩ := hrs.get (i := 2) rfl
          rw [h0'.inv_int] at h0
          exact .cons b base _ u2 l' (h.wd.mem _ _ _ (hm 0 _ h0)) (h.wd.mem _ _ _ (hm 2 _ h2)) (ih u2 _ l' h2' hl')
      · cases hk
    · cases hk
theorem two_args {M : Mem} {ι : Plc} {vs : Array Value} {x y : V} (h : Reps M ι vs.toList [x, y]) : ∃ v u, vs = #[v, u] ∧ Rep M ι v x ∧ Rep M ι u y := by
  have hl := h.1
  obtain ⟨v, u, hv⟩ : ∃ v u, vs.toList = [v, u] := by
    match hq : vs.toList with
    | [] => rw [hq] at hl; cases hl
    | [v] => rw [hq] at hl; cases hl
    | [v, u] => exact ⟨v, u, rfl⟩
    | _ :: _ :: _ :: _ => rw [hq] at hl; simp at hl
  rw [hv] at h
  exact ⟨v, u, by apply Array.ext'; simpa using hv, h.head, h.tail.head⟩
theorem isP_sound (G : GV) : Sound Tryz.prog G 35 isP := by
  refine Sound.of_below fun args σ r σ' he => ?_
  have hrun : ∀ vs w, (callFunc 35 vs).run Tryz.prog w = .ok (.enter 35 vs) w := fun vs w => run_callFunc Tryz.func35 rfl (by kernel_rfl) vs
  unfold isP at he
  split at he
  · split at he
    · rename_i x t j ht
      subst ht
      rw [Option.map_eq_some_iff] at he
      obtain ⟨l, hl, he⟩ := he
      cases he
      refine ⟨rfl, rfl, fun M ι X κ w vs h hG => ⟨hrun _ _, _, .bool _, ?_⟩⟩
      obtain ⟨v, u, rfl, hv, hu⟩ := two_args h.rep
      have hc := fc_of h 20 v x l hv hl
      cases hu with
      | ifc _ u0 _ hu0 =>
        rw [hu0.inv_int]
        cases hc with
        | nil => exact (is_nil j w).mono fun e w' ⟨he, hw⟩ => ⟨by rw [he]; simp, by subst hw; exact Below.refl _ _⟩
        | cons b o k E l' h1 h2 h3 => exact (is_fault j b o _ (.cons b o k E l' h1 h2 h3)).mono fun e w' ⟨he, hw⟩ => ⟨he, by subst hw; exact Below.refl _ _⟩
    · cases he
  · cases he
end Go.Proofs.YtkgkmlhljeidhaaGreatDoor
set_option linter.unusedSimpArgs false
set_option linter.unusedVariables false
namespace Go.Ev
open Go
attribute [congr] bd_congr br_congr gd_congr
attribute [congr] ite_congr
attribute [go_sem] bd_some bd_none br_bool
theorem pu_some {v : V} : pu (some v) = some v.ng := rfl
theorem pu_none : pu none = none := rfl
theorem gdv_b {c : Bool} {x : Option V} : gdv (.bool c) true x = if c = true then x else some .undef := by cases c <;> rfl
theorem gdv_n {c : Bool} {x : Option V} : gdv (.bool c) false x = if c = true then some .undef else x := by cases c <;> rfl
theorem gdv_u {t : Bool} {x : Option V} : gdv .undef t x = some .undef := rfl
theorem gdp_b {c : Bool} {x : Ro} {σ : Objs} : gdp (.bool c) true x σ = if c = true then x else some (.undef, σ) := by cases c <;> rfl
theorem gdp_n {c : Bool} {x : Ro} {σ : Objs} : gdp (.bool c) false x σ = if c = true then some (.undef, σ) else x := by cases c <;> rfl
theorem gdp_u {t : Bool} {x : Ro} {σ : Objs} : gdp .undef t x σ = some (.undef, σ) := rfl
theorem gd_b {c : Bool} {x y : Ro} : gd (.bool c) true x y = if c = true then x else y := by cases c <;> rfl
theorem gd_n {c : Bool} {x y : Ro} : gd (.bool c) false x y = if c = true then y else x := by cases c <;> rfl
theorem gd_u {t : Bool} {x y : Ro} : gd .undef t x y = y := rfl
section
variable {p : Prop} [Decidable p]
theorem ite_some {α : Type} {a b : α} : (if p then some a else some b) = some (if p then a else b) := by split <;> rfl
theorem ite_pair {α β : Type} {a b : α} {s : β} : (if p then (a, s) else (b, s)) = (if p then a else b, s) := by split <;> rfl
theorem ite_and {d : Bool} : (if p then V.bool d else V.bool false) = V.bool (decide p && d) := by by_cases h : p <;> simp [h]
theorem ite_or {d : Bool} : (if p then V.bool true else V.bool d) = V.bool (decide p || d) := by by_cases h : p <;> simp [h]
theorem ite_nogr {a b : V} : (if p then a else b).ng = if p then a.ng else b.ng := by split <;> rfl
theorem ite_cf {c : Bool} {α : Type} {x y : α} : (if c = false then x else y) = if c = true then y else x := by cases c <;> rfl
theorem ite_np {α : Type} {x y : α} : (if ¬ p then x else y) = if p then y else x := by by_cases h : p <;> simp [h]
theorem gdv_ite {a b : V} {t : Bool} {x : Option V} : gdv (if p then a else b) t x = if p then gdv a t x else gdv b t x := by split <;> rfl
theorem gdp_ite {a b : V} {t : Bool} {x : Ro} {σ : Objs} : gdp (if p then a else b) t x σ = if p then gdp a t x σ else gdp b t x σ := by split <;> rfl
theorem gd_ite {a b : V} {t : Bool} {x y : Ro} : gd (if p then a else b) t x y = if p then gd a t x y else gd b t x y := by split <;> rfl
theorem bd_ite {α : Type} {x y : Option α} {f : α → Ro} : bd (if p then x else y) f = if p then bd x f else bd y f := by split <;> rfl
theorem pu_ite {x y : Option V} : pu (if p then x else y) = if p then pu x else pu y := by split <;> rfl
theorem ite_int {k : IntKind} {a b : Int} : (if p then V.int k a else V.int k b) = V.int k (if p then a else b) := by split <;> rfl
theorem ite_str {a b : List UInt8} : (if p then V.str a else V.str b) = V.str (if p then a else b) := by split <;> rfl
theorem iteT {α : Type} {a b : α} : (if True then a else b) = a := rfl
theorem iteF {α : Type} {a b : α} : (if False then a else b) = b := rfl
end
theorem gdv_tt {x : Option V} : gdv (.bool true) true x = x := rfl
theorem gdv_ff {x : Option V} : gdv (.bool false) false x = x := rfl
theorem gdv_tf {x : Option V} : gdv (.bool true) false x = some .undef := rfl
theorem gdv_ft {x : Option V} : gdv (.bool false) true x = some .undef := rfl
theorem gdp_tt {x : Ro} {σ : Objs} : gdp (.bool true) true x σ = x := rfl
theorem gdp_ff {x : Ro} {σ : Objs} : gdp (.bool false) false x σ = x := rfl
theorem gdp_tf {x : Ro} {σ : Objs} : gdp (.bool true) false x σ = some (.undef, σ) := rfl
theorem gdp_ft {x : Ro} {σ : Objs} : gdp (.bool false) true x σ = some (.undef, σ) := rfl
theorem gd_tt {x y : Ro} : gd (.bool true) true x y = x := rfl
theorem gd_ff {x y : Ro} : gd (.bool false) false x y = x := rfl
theorem gd_tf {x y : Ro} : gd (.bool true) false x y = y := rfl
theorem gd_ft {x y : Ro} : gd (.bool false) true x y = y := rfl
attribute [go_sem high] gdv_tt gdv_ff gdv_tf gdv_ft gdp_tt gdp_ff gdp_tf gdp_ft gd_tt gd_ff gd_tf gd_ft br_t br_f
attribute [go_sem] pu_some pu_none gdv_b gdv_n gdv_u gdp_b gdp_n gdp_u gd_b gd_n gd_u gdv_ite gdp_ite gd_ite Bool.decide_eq_true ite_int ite_str ite_cf ite_np ite_some ite_pair ite_and ite_or ite_nogr bd_ite pu_ite iteT iteF decide_eq_true_eq decide_eq_false_iff_not Bool.and_eq_true Bool.or_eq_true Bool.not_eq_true' Bool.not_eq_true Bool.true_eq_false Bool.false_eq_true if_true if_false not_true_eq_false not_false_eq_true and_true true_and and_false false_and or_true true_or or_false false_or Bool.decide_and Bool.decide_or decide_true decide_false
theorem n_nilm : V.nilm.ng = .nilm := rfl
theorem n_nilf : V.nilf.ng = .nilf := rfl
theorem n_mp {o : Nat} : (V.mp o).ng = .mp o := rfl
attribute [go_sem] n_int n_bool n_str n_undef n_any n_nilp n_ptr n_eptr n_nils n_sl n_hs n_agg n_tup n_ifc n_nili n_fn n_nilm n_nilf n_mp Mi_call
section
variable {k : IntKind} {e : EqK} {a b : Int} {s t : List UInt8}
theorem b_add : eB .add e (.int k a) (.int k b) = some (.int k (k.wrap (a + b))) := by simp [eB]
theorem b_sub : eB .sub e (.int k a) (.int k b) = some (.int k (k.wrap (a - b))) := by simp [eB]
theorem b_mul : eB .mul e (.int k a) (.int k b) = some (.int k (k.wrap (a * b))) := by simp [eB]
theorem b_quo (h : ¬ b = 0) : eB .quo e (.int k a) (.int k b) = some (.int k (k.wrap (a.tdiv b))) := by simp [eB, h]
theorem b_rem (h : ¬ b = 0) : eB .rem e (.int k a) (.int k b) = some (.int k (a.tmod b)) := by simp [eB, h]
theorem b_eql : eB .eql e (.int k a) (.int k b) = some (.bool (decide (a = b))) := by simp [eB]; by_cases h : a = b <;> simp [h]
theorem b_neq : eB .neq e (.int k a) (.int k b) = some (.bool (decide (¬ a = b))) := by simp [eB]; by_cases h : a = b <;> simp [h]
theorem b_lss : eB .lss e (.int k a) (.int k b) = some (.bool (decide (a < b))) := by simp [eB]
theorem b_leq : eB .leq e (.int k a) (.int k b) = some (.bool (decide (a ≤ b))) := by simp [eB]
theorem b_gtr : eB .gtr e (.int k a) (.int k b) = some (.bool (decide (b < a))) := by simp [eB]
theorem b_geq : eB .geq e (.int k a) (.int k b) = some (.bool (decide (b ≤ a))) := by simp [eB]
theorem bs_add (h : s.length + t.length ≤ strMax) : eB .add e (.str s) (.str t) = some (.str (s ++ t)) := by simp [eB, h]
theorem bs_eql : eB .eql e (.str s) (.str t) = some (.bool (decide (s = t))) := by simp [eB]
theorem bs_neq : eB .neq e (.str s) (.str t) = some (.bool (decide (¬ s = t))) := by simp [eB]
theorem bs_lss : eB .lss e (.str s) (.str t) = some (.bool (bytesLess s t)) := by simp [eB]
theorem bb_eql {x y : Bool} : eB .eql .bool (.bool x) (.bool y) = some (.bool (decide (x = y))) := by cases x <;> cases y <;> rfl
theorem bb_neq {x y : Bool} : eB .neq .bool (.bool x) (.bool y) = some (.bool (decide (¬ x = y))) := by cases x <;> cases y <;> rfl
theorem u_neg : evUn .neg (.int k a) = some (.int k (k.wrap (0 - a))) := rfl
theorem u_not {x : Bool} : evUn .not (.bool x) = some (.bool !x) := rfl
theorem c_toInt {σ : Objs} {j : IntKind} : eC σ (.toInt k) (.int j a) = some (.int k (k.wrap a)) := rfl
theorem c_same {σ : Objs} : eC σ .same (.str s) = some (.str s) := rfl
theorem c_strBytes {σ : Objs} : eC σ .strBytes (.str s) = some (.sl (ofBytes s) (.gr 1)) := rfl
theorem len_str : evLenS (.str s) = some (.int .i64 s.length) := rfl
theorem len_nils : evLen .nils = some (.int .i64 0) := rfl
theorem len_sl {xs : List V} {c : Cap} : evLen (.sl xs c) = some (.int .i64 xs.length) := rfl
theorem len_hs {o off len sz : Nat} {ag : Bool} : evLen (.hs o off len sz ag) = some (.int .i64 len) := rfl
theorem pick_b {x : Bool} {v w : V} : pV (.bool x) v w = some (if x then v else w) := rfl
theorem pick_t {v w : V} : pV (.bool true) v w = some v := rfl
theorem pick_f {v w : V} : pV (.bool false) v w = some w := rfl
theorem idx_str (h : 0 ≤ a ∧ a < s.length) : evIdx (.int k a) (.str s) = some (.int .u8 (s.getD a.toNat 0).toNat) := by
  have h3 : a.toNat < s.length := by omega
  simp only [evIdx, index, if_pos h, Option.bind_eq_bind, Option.bind_some, List.getElem?_eq_getElem h3, List.getD_eq_getElem?_getD, Option.getD_some]
theorem extr_tup {vs : List V} {i : Nat} : eX i (.tup vs) = vs[i]? := rfl
theorem faddr_ptr {o i off : Nat} : eF off (.ptr o i) = some (.ptr o (i + off)) := rfl
theorem faddr_eptr {cs : List V} {i off : Nat} : eF off (.eptr cs i) = some (.eptr cs (i + off)) := rfl
theorem nilc_ptr {o i : Nat} : evNilc (.ptr o i) = some (.ptr o i) := rfl
theorem nilc_eptr {cs : List V} {i : Nat} : evNilc (.eptr cs i) = some (.eptr cs i) := rfl
theorem load_ptr {σ : Objs} {ag : Bool} {sz o off : Nat} : eL σ ag sz (.ptr o off) = (Objs.get σ o).bind fun cs => part ag sz cs off := rfl
theorem load_eptr {σ : Objs} {ag : Bool} {sz off : Nat} {cs : List V} : eL σ ag sz (.eptr cs off) = part ag sz cs off := rfl
theorem field_agg {ag : Bool} {sz off : Nat} {cs : List V} : evField ag off sz (.agg cs) = part ag sz cs off := rfl
theorem part_0 {c : V} {cs : List V} : part false 1 (c :: cs) 0 = some c.ng := rfl
theorem part_s {c : V} {cs : List V} {n : Nat} : part false 1 (c :: cs) (n + 1) = part false 1 cs n := rfl
theorem part_ag {cs : List V} {sz off : Nat} (h : off + sz ≤ cs.length) : part true sz cs off = some (.agg (((cs.drop off).take sz).map V.ng)) := by simp [part, h]
theorem one_int {keep : Bool} : oK keep (.int k a) = some (.int k a) := by cases keep <;> rfl
theorem one_bool {keep x : Bool} : oK keep (.bool x) = some (.bool x) := by cases keep <;> rfl
theorem one_str {keep : Bool} : oK keep (.str s) = some (.str s) := by cases keep <;> rfl
theorem one_agg {keep : Bool} {cs : List V} : oK keep (.agg cs) = some (.agg cs) := by cases keep <;> rfl
theorem one_ifc {keep : Bool} {t : TypeId} {x : V} : oK keep (.ifc t x) = some (.ifc t x) := by cases keep <;> rfl
theorem one_nili {keep : Bool} : oK keep .nili = some .nili := by cases keep <;> rfl
theorem one_nils {keep : Bool} : oK keep .nils = some .nils := by cases keep <;> rfl
theorem one_ptr {keep : Bool} {o i : Nat} : oK keep (.ptr o i) = some (.ptr o i) := by cases keep <;> rfl
theorem one_eptr {keep : Bool} {cs : List V} {i : Nat} : oK keep (.eptr cs i) = some (.eptr cs i) := by cases keep <;> rfl
theorem one_sl {xs : List V} {c : Cap} : oK false (.sl xs c) = some (.sl xs .no) := rfl
theorem one_slk {xs : List V} {c : Cap} : oK true (.sl xs c) = some (.sl xs c) := rfl
theorem one_hs {keep : Bool} {o off len sz : Nat} {ag : Bool} : oK keep (.hs o off len sz ag) = some (.hs o off len sz ag) := by cases keep <;> rfl
end
attribute [go_sem] b_add b_sub b_mul b_quo b_rem b_eql b_neq b_lss b_leq b_gtr b_geq bs_add bs_eql bs_neq bs_lss bb_eql bb_neq u_neg u_not c_toInt c_same c_strBytes len_str len_nils len_sl len_hs pick_b idx_str extr_tup faddr_ptr faddr_eptr nilc_ptr nilc_eptr load_ptr load_eptr field_agg part_0 part_s part_ag one_int one_bool one_str one_agg one_ifc one_nili one_nils one_ptr one_eptr one_sl one_slk one_hs
attribute [go_sem high] pick_t pick_f
def O.rb (n : Nat) : O → Bool
  | .cells cs => V.rbs n cs
  | .mp es => V.rbs n (es.map Prod.fst) && V.rbs n (es.map Prod.snd)
def Wf (σ : Objs) : Prop := σ.all (O.rb σ.length) = true
theorem fzO_rb {n : Nat} {σ : Objs} {o : O} (h : o.rb n = true) : fzO n σ o = some o := by
  cases o with
  | cells cs => simp only [O.rb] at h; simp [fzO, h]
  | mp es => simp only [O.rb] at h; simp [fzO, h]
theorem mapM_fzO {n : Nat} {σ : Objs} : ∀ {l : List O}, l.all (O.rb n) = true → l.mapM (fzO n σ) = some l
  | [], _ => by simp
  | o :: l, h => by
    simp only [List.all_cons, Bool.and_eq_true] at h
    simp [List.mapM_cons, fzO_rb h.1, mapM_fzO h.2]
theorem cut_wf {σ : Objs} (h : Wf σ) : cuO σ.length σ = some σ := by
  unfold cuO
  rw [List.take_length]
  exact mapM_fzO h
theorem cut_app {σ τ : Objs} (h : Wf σ) : cuO σ.length (σ ++ τ) = some σ := by
  unfold cuO
  rw [List.take_left']
  · exact mapM_fzO h
  · rfl
theorem wf_nil : Wf [] := rfl
theorem end_wf {σ : Objs} {r : V} (h : Wf σ) (hr : r.rb σ.length = true) : nK σ.length σ r = some (r, σ) := by
  unfold nK
  rw [cut_wf h, bd_some, fz_rb hr, bd_some]
theorem end_app {σ τ : Objs} {r : V} (h : Wf σ) (hr : r.rb σ.length = true) : nK σ.length (σ ++ τ) r = some (r, σ) := by
  unfold nK
  rw [cut_app h, bd_some, fz_rb hr, bd_some]
theorem end_0 {r : V} (hr : r.rb 0 = true) : nK 0 [] r = some (r, []) := end_wf (σ := []) wf_nil hr
theorem rb_int {n : Nat} {k : IntKind} {a : Int} : V.rb n (.int k a) = true := rfl
theorem rb_bool {n : Nat} {b : Bool} : V.rb n (.bool b) = true := rfl
theorem rb_str {n : Nat} {s : List UInt8} : V.rb n (.str s) = true := rfl
theorem rb_nili {n : Nat} : V.rb n .nili = true := rfl
theorem rb_nils {n : Nat} : V.rb n .nils = true := rfl
theorem rb_nilp {n : Nat} : V.rb n .nilp = true := rfl
theorem rb_any {n : Nat} : V.rb n .any = true := rfl
theorem rb_undef {n : Nat} : V.rb n .undef = true := rfl
theorem rb_ptr {n o i : Nat} : V.rb n (.ptr o i) = decide (o < n) := rfl
theorem rb_hs {n o off len sz : Nat} {ag : Bool} : V.rb n (.hs o off len sz ag) = decide (o < n) := rfl
theorem rb_agg {n : Nat} {cs : List V} : V.rb n (.agg cs) = V.rbs n cs := rfl
theorem rb_tup {n : Nat} {cs : List V} : V.rb n (.tup cs) = V.rbs n cs := rfl
theorem rb_sl {n : Nat} {cs : List V} {c : Cap} : V.rb n (.sl cs c) = V.rbs n cs := rfl
theorem rb_eptr {n i : Nat} {cs : List V} : V.rb n (.eptr cs i) = V.rbs n cs := rfl
theorem rb_ifc {n : Nat} {t : TypeId} {x : V} : V.rb n (.ifc t x) = V.rb n x := rfl
theorem rbs_nil {n : Nat} : V.rbs n [] = true := rfl
theorem rbs_cons {n : Nat} {x : V} {xs : List V} : V.rbs n (x :: xs) = (V.rb n x && V.rbs n xs) := rfl
theorem rbs_map {α : Type} {n : Nat} {f : α → V} (h : ∀ x, V.rb n (f x) = true) : ∀ {l : List α}, V.rbs n (l.map f) = true
  | [] => rfl
  | x :: l => by rw [List.map_cons, rbs_cons, h, rbs_map h]; rfl
attribute [go_sem] cut_wf cut_app end_wf end_app end_0 rb_int rb_bool rb_str rb_nili rb_nils rb_nilp rb_any rb_undef rb_ptr rb_hs rb_agg rb_tup rb_sl rb_eptr rb_ifc rbs_nil rbs_cons rbs_bytes fz_int fz_bool fz_str fz_nilp fz_nils fz_nili fz_nilf fz_undef fz_any fz_bytes fz_rb
theorem w64 {x : Int} (h : -9223372036854775808 ≤ x ∧ x ≤ 9223372036854775807) : IntKind.i64.wrap x = x := by simp only [IntKind.wrap_i64]; omega
theorem w8 {x : Int} (h : 0 ≤ x ∧ x ≤ 255) : IntKind.u8.wrap x = x := by simp only [IntKind.wrap_u8]; omega
theorem w32 {x : Int} (h : -2147483648 ≤ x ∧ x ≤ 2147483647) : IntKind.i32.wrap x = x := by simp only [IntKind.wrap_i32]; omega
attribute [go_sem] List.getD_cons_zero List.getD_cons_succ Option.bind_some Option.bind_none Bool.and_true Bool.true_and Bool.not_true Bool.not_false Bool.false_or Bool.or_false Bool.true_or Bool.or_true Bool.false_and Bool.and_false
theorem get_new {σ : Objs} {cs : List V} : Objs.get (σ ++ [.cells cs]) σ.length = some cs := by simp [Objs.get]
theorem mapM_fz {n d : Nat} {σ : Objs} : ∀ {cs : List V}, V.rbs n cs = true → cs.mapM (fz n σ d) = some cs
  | [], _ => by simp
  | c :: cs, h => by
    rw [rbs_cons, Bool.and_eq_true] at h
    simp [List.mapM_cons, fz_rb h.1, mapM_fz h.2]
theorem fz_newp {σ : Objs} {cs : List V} {d off : Nat} (h : V.rbs σ.length cs = true) : fz σ.length (σ ++ [.cells cs]) (d + 1) (.ptr σ.length off) = some (.eptr cs off) := by
  simp [fz, rb_ptr, get_new, mapM_fz h]
theorem fz_box {σ : Objs} {cs : List V} {t : TypeId} {off : Nat} (h : V.rbs σ.length cs = true) : fz σ.length (σ ++ [.cells cs]) fzD (.ifc t (.ptr σ.length off)) = some (.ifc t (.eptr cs off)) := by
  unfold fzD
  rw [show (40 : Nat) = 39 + 1 from rfl]
  unfold fz
  simp only [rb_ifc, rb_ptr, Nat.lt_irrefl, decide_false, Bool.false_eq_true, if_false, fz_newp h]
  rfl
theorem end_box {σ : Objs} {cs : List V} {t : TypeId} {off : Nat} (hσ : Wf σ) (h : V.rbs σ.length cs = true) : nK σ.length (σ ++ [.cells cs]) (.ifc t (.ptr σ.length off)) = some (.ifc t (.eptr cs off), σ) := by
  unfold nK
  rw [cut_app hσ, bd_some, fz_box h, bd_some]
theorem box_eq {σ : Objs} {x : V} : boxV σ x = if okCells x.cells = true then some (.ptr σ.length 0, σ ++ [.cells (x.cells.map V.ng)]) else none := by unfold boxV; rfl
theorem cells_agg {cs : List V} : (V.agg cs).cells = cs := rfl
theorem cells_int {k : IntKind} {a : Int} : (V.int k a).cells = [.int k a] := rfl
theorem cells_bool {b : Bool} : (V.bool b).cells = [.bool b] := rfl
theorem cells_str {s : List UInt8} : (V.str s).cells = [.str s] := rfl
theorem cells_nili : V.nili.cells = [.nili] := rfl
theorem cells_nils : V.nils.cells = [.nils] := rfl
theorem cells_sl {xs : List V} {c : Cap} : (V.sl xs c).cells = [.sl xs c] := rfl
theorem cells_ifc {t : TypeId} {x : V} : (V.ifc t x).cells = [.ifc t x] := rfl
theorem cells_ptr {o i : Nat} : (V.ptr o i).cells = [.ptr o i] := rfl
theorem cells_eptr {cs : List V} {i : Nat} : (V.eptr cs i).cells = [.eptr cs i] := rfl
theorem okc_nil : okCells [] = true := rfl
theorem okc_cons {x : V} {xs : List V} : okCells (x :: xs) = (V.one x && okCells xs) := rfl
theorem one_int' {k : IntKind} {a : Int} : V.one (.int k a) = true := rfl
theorem one_bool' {b : Bool} : V.one (.bool b) = true := rfl
theorem one_str' {s : List UInt8} : V.one (.str s) = true := rfl
theorem one_nili' : V.one .nili = true := rfl
theorem one_nils' : V.one .nils = true := rfl
theorem one_nilp' : V.one .nilp = true := rfl
theorem one_sl' {xs : List V} {c : Cap} : V.one (.sl xs c) = true := rfl
theorem one_ifc' {t : TypeId} {x : V} : V.one (.ifc t x) = true := rfl
theorem one_ptr' {o i : Nat} : V.one (.ptr o i) = true := rfl
theorem one_eptr' {cs : List V} {i : Nat} : V.one (.eptr cs i) = true := rfl
attribute [go_sem] get_new end_box box_eq cells_agg cells_int cells_bool cells_str cells_nili cells_nils cells_sl cells_ifc cells_ptr cells_eptr okc_nil okc_cons one_int' one_bool' one_str' one_nili' one_nils' one_nilp' one_sl' one_ifc' one_ptr' one_eptr' List.map_cons List.map_nil List.drop_succ_cons List.drop_zero List.take_succ_cons List.take_zero List.take_nil List.drop_nil List.length_cons List.length_nil Nat.reduceAdd Nat.reduceLeDiff Nat.reduceLT Nat.zero_add Nat.add_zero
theorem build_eq {z : List V} {ps : List (Nat × Nat × V)} : buildV z ps = (lay z ps).map V.agg := rfl
theorem lay_nil {z : List V} : lay z [] = some z := rfl
theorem lay_cons {z : List V} {off sz : Nat} {x : V} {r : List (Nat × Nat × V)} (h1 : x.cells.length = sz) (h2 : off + sz ≤ z.length) (h3 : okCells x.cells = true) : lay z ((off, sz, x) :: r) = lay (putAt z off (x.cells.map V.ng)) r := by
  simp [lay, h1, h2, h3]
theorem putAt_nil {z : List V} {n : Nat} : putAt z n [] = z := by cases z <;> cases n <;> rfl
theorem putAt_0 {c x : V} {cs xs : List V} : putAt (c :: cs) 0 (x :: xs) = x :: putAt cs 0 xs := rfl
theorem putAt_s {c x : V} {cs xs : List V} {n : Nat} : putAt (c :: cs) (n + 1) (x :: xs) = c :: putAt cs n (x :: xs) := rfl
theorem omap_some {α β : Type} {a : α} {f : α → β} : (some a).map f = some (f a) := rfl
attribute [go_sem] build_eq lay_nil lay_cons putAt_nil putAt_0 putAt_s omap_some
theorem wf_nil' : Wf [] = True := by simp [Wf]
theorem wf_one {cs : List V} : Wf [.cells cs] = (V.rbs 1 cs = true) := by simp [Wf, O.rb]
theorem cutO_0 {σ : Objs} : cuO 0 σ = some [] := rfl
theorem end_z {σ : Objs} {r : V} (hr : r.rb 0 = true) : nK 0 σ r = some (r, []) := by
  unfold nK
  rw [cutO_0, bd_some, fz_rb hr, bd_some]
theorem end_box0 {cs : List V} {t : TypeId} {off : Nat} (h : V.rbs 0 cs = true) : nK 0 [.cells cs] (.ifc t (.ptr 0 off)) = some (.ifc t (.eptr cs off), []) := end_box (σ := []) wf_nil h
theorem cut_one {cs : List V} (h : V.rbs 1 cs = true) : cuO 1 [.cells cs] = some [.cells cs] := cut_wf (σ := [.cells cs]) (by rw [wf_one]; exact h)
theorem cut_one' {cs : List V} {τ : Objs} (h : V.rbs 1 cs = true) : cuO 1 (.cells cs :: τ) = some [.cells cs] := cut_app (σ := [.cells cs]) (τ := τ) (by rw [wf_one]; exact h)
theorem end_one {cs : List V} {r : V} (h : V.rbs 1 cs = true) (hr : r.rb 1 = true) : nK 1 [.cells cs] r = some (r, [.cells cs]) := end_wf (σ := [.cells cs]) (by rw [wf_one]; exact h) hr
theorem end_one' {cs : List V} {τ : Objs} {r : V} (h : V.rbs 1 cs = true) (hr : r.rb 1 = true) : nK 1 (.cells cs :: τ) r = some (r, [.cells cs]) := end_app (σ := [.cells cs]) (τ := τ) (by rw [wf_one]; exact h) hr
theorem end_box1 {cs ds : List V} {t : TypeId} {off : Nat} (h : V.rbs 1 cs = true) (hd : V.rbs 1 ds = true) : nK 1 [.cells cs, .cells ds] (.ifc t (.ptr 1 off)) = some (.ifc t (.eptr ds off), [.cells cs]) := end_box (σ := [.cells cs]) (by rw [wf_one]; exact h) hd
theorem get1 {O : O} {cs : List V} {τ : Objs} : Objs.get (O :: .cells cs :: τ) 1 = some cs := rfl
theorem cutS_lo {k : IntKind} {a : Int} {s : List UInt8} (h : 0 ≤ a ∧ a ≤ s.length) : evCutS (.str s) (some (.int k a)) none = some (.str (s.drop a.toNat)) := by
  have hb : bound (.int k a) s.length = some a.toNat := by simp [bound, h]
  have h3 : ((s.drop a.toNat).take (s.length - a.toNat)) = s.drop a.toNat := by rw [List.take_of_length_le]; simp
  simp [evCutS, bounds, hb, h3]
theorem cutS_hi {k : IntKind} {a : Int} {s : List UInt8} (h : 0 ≤ a ∧ a ≤ s.length) : evCutS (.str s) none (some (.int k a)) = some (.str (s.take a.toNat)) := by
  have hb : bound (.int k a) s.length = some a.toNat := by simp [bound, h]
  simp [evCutS, bounds, hb]
attribute [go_sem] wf_nil' wf_one cutO_0 end_z end_box0 cut_one cut_one' end_one end_one' end_box1 get0 get1 cutS_lo cutS_hi List.nil_append List.cons_append
theorem iP {p : Prop} [Decidable p] {α : Type} {a b : α} (h : p) : (if p then a else b) = a := if_pos h
theorem iN {p : Prop} [Decidable p] {α : Type} {a b : α} (h : ¬ p) : (if p then a else b) = b := if_neg h
attribute [go_sem] Int.reduceToNat Int.toNat_natCast Int.toNat_zero Int.reduceAdd Int.reduceSub Int.reduceMul Int.reduceNeg Int.reduceLT Int.reduceLE Nat.reduceSub Nat.reduceMul
theorem iaddr_bytes {k : IntKind} {i : Int} {s : List UInt8} {c : Cap} (h : 0 ≤ i ∧ i < s.length) : eI 1 (.int k i) (.sl (ofBytes s) c) = some (.eptr [.int .u8 (s.getD i.toNat 0).toNat] 0) := by
  have h3 : i.toNat < s.length := by omega
  have h4 : (ofBytes s).length = s.length := by simp [ofBytes]
  have h5 : (ofBytes s)[i.toNat]? = some (.int .u8 (s.getD i.toNat 0).toNat) := by simp [ofBytes, h3]
  simp only [eI, index, h4, if_pos h, Option.bind_eq_bind, Option.bind_some, h5]
  rfl
theorem len_bytes {s : List UInt8} : (ofBytes s).length = s.length := by simp [ofBytes]
theorem getD_mid {α : Type} {p r : List α} {b x : α} : (p ++ b :: r).getD p.length x = b := by simp
attribute [go_sem] iaddr_bytes len_bytes getD_mid
attribute [go_sem] reduceCtorEq List.getElem?_cons_zero List.getElem?_cons_succ List.length_append
theorem tmod_nn {a b : Int} (h : 0 ≤ a ∧ 0 ≤ b) : a.tmod b = a % b := Int.tmod_eq_emod_of_nonneg h.1
theorem tdiv_nn {a b : Int} (h : 0 ≤ a ∧ 0 ≤ b) : a.tdiv b = a / b := Int.tdiv_eq_ediv_of_nonneg h.1
theorem agOk_int {k : IntKind} {a : Int} : agOk false (.int k a) = true := rfl
theorem agOk_str {s : List UInt8} : agOk false (.str s) = true := rfl
theorem agOk_bool {b : Bool} : agOk false (.bool b) = true := rfl
theorem agOk_agg {cs : List V} : agOk true (.agg cs) = true := rfl
theorem buildF_eq {ag : Bool} {sz len : Nat} {z : V} {ps : List (Nat × V)} : buildFV ag sz len z ps = (laySl sz (List.replicate len z) ps).bind fun xs => if okRow ag sz xs = true then some (.sl xs .fx) else none := rfl
theorem laySl_nil {sz : Nat} {z : List V} : laySl sz z [] = some z := rfl
theorem laySl_cons {sz i : Nat} {z : List V} {x : V} {r : List (Nat × V)} (h1 : x.cells.length = sz) (h2 : i < z.length) (h3 : okCells x.cells = true) : laySl sz z ((i, x) :: r) = laySl sz (z.set i x.ng) r := by simp [laySl, h1, h2, h3]
theorem okRow_nil {ag : Bool} {sz : Nat} : okRow ag sz [] = true := rfl
theorem okRow_cons {ag : Bool} {sz : Nat} {y : V} {ys : List V} : okRow ag sz (y :: ys) = (decide (y.cells.length = sz) && okCells y.cells && agOk ag y && okRow ag sz ys) := rfl
theorem bytesStr_sl {σ : Objs} {xs : List V} {c : Cap} : eC σ .bytesStr (.sl xs c) = (bytesOf xs).map V.str := rfl
theorem bytesOf_nil : bytesOf [] = some [] := rfl
theorem bytesOf_cons {n : Int} {xs : List V} : bytesOf (.int .u8 n :: xs) = (bytesOf xs).map fun bs => UInt8.ofNat n.toNat :: bs := by simp only [bytesOf]; cases bytesOf xs <;> rfl
theorem neq_nili : eB .neq .ifc .nili .nili = some (.bool false) := rfl
theorem eq_nili : eB .eql .ifc .nili .nili = some (.bool true) := rfl
theorem neq_ifc {t : TypeId} {x : V} : eB .neq .ifc (.ifc t x) .nili = some (.bool true) := rfl
theorem eq_ifc {t : TypeId} {x : V} : eB .eql .ifc (.ifc t x) .nili = some (.bool false) := rfl
attribute [go_sem] agOk_int agOk_str agOk_bool agOk_agg buildF_eq laySl_nil laySl_cons okRow_nil okRow_cons bytesStr_sl bytesOf_nil bytesOf_cons neq_nili eq_nili neq_ifc eq_ifc List.length_replicate List.replicate_succ List.replicate_zero List.set_cons_zero List.set_cons_succ
end Go.Ev
set_option linter.unusedSimpArgs false
set_option linter.unusedVariables false
set_option linter.unusedSectionVars false
namespace Go.Ev
open Go
def rn (b k o : Nat) : Nat := if o < b then o else o + k
theorem rn_lt {b k o n : Nat} (hn : b ≤ n) : (rn b k o < n + k) ↔ o < n := by unfold rn; split <;> omega
theorem rn_inj {b k o p : Nat} : (rn b k o = rn b k p) ↔ o = p := by unfold rn; split <;> split <;> omega
mutual
def V.sh (b k : Nat) : V → V
  | .ptr o off => .ptr (rn b k o) off
  | .hs o off len sz ag => .hs (rn b k o) off len sz ag
  | .mp o => .mp (rn b k o)
  | .eptr cs off => .eptr (V.shs b k cs) off
  | .sl xs c => .sl (V.shs b k xs) c
  | .agg cs => .agg (V.shs b k cs)
  | .tup cs => .tup (V.shs b k cs)
  | .ifc t x => .ifc t (V.sh b k x)
  | .fn f xs ys => .fn f (V.shs b k xs) (V.shs b k ys)
  | .any => .any | .undef => .undef | .bool x => .bool x | .int j n => .int j n | .str s => .str s
  | .nilp => .nilp | .nils => .nils | .nili => .nili | .nilf => .nilf | .nilm => .nilm
def V.shs (b k : Nat) : List V → List V
  | [] => []
  | x :: xs => V.sh b k x :: V.shs b k xs
end
theorem shs_map {b k : Nat} : ∀ {l : List V}, V.shs b k l = l.map (V.sh b k)
  | [] => rfl
  | x :: xs => by rw [V.shs, shs_map]; rfl
mutual
theorem sh_closed {b k : Nat} : ∀ {x : V}, V.rb 0 x = true → V.sh b k x = x
  | .ptr o off, h => by simp [V.rb] at h
  | .hs o off len sz ag, h => by simp [V.rb] at h
  | .mp o, h => by simp [V.rb] at h
  | .eptr cs off, h => by rw [V.sh, shs_closed (by simpa [V.rb] using h)]
  | .sl xs c, h => by rw [V.sh, shs_closed (by simpa [V.rb] using h)]
  | .agg cs, h => by rw [V.sh, shs_closed (by simpa [V.rb] using h)]
  | .tup cs, h => by rw [V.sh, shs_closed (by simpa [V.rb] using h)]
  | .ifc t x, h => by rw [V.sh, sh_closed (by simpa [V.rb] using h)]
  | .fn f xs ys, h => by
    have h' : V.rbs 0 xs = true ∧ V.rbs 0 ys = true := by simpa [V.rb] using h
    rw [V.sh, shs_closed h'.1, shs_closed h'.2]
  | .any, _ => rfl | .undef, _ => rfl | .bool x, _ => rfl | .int j n, _ => rfl | .str s, _ => rfl
  | .nilp, _ => rfl | .nils, _ => rfl | .nili, _ => rfl | .nilf, _ => rfl | .nilm, _ => rfl
theorem shs_closed {b k : Nat} : ∀ {l : List V}, V.rbs 0 l = true → V.shs b k l = l
  | [], _ => rfl
  | x :: xs, h => by
    rw [rbs_cons, Bool.and_eq_true] at h
    rw [V.shs, sh_closed h.1, shs_closed h.2]
end
mutual
theorem rb_sh {b k n : Nat} (hn : b ≤ n) : ∀ {x : V}, V.rb (n + k) (V.sh b k x) = V.rb n x
  | .ptr o off => by simp [V.rb, V.sh, rn_lt hn]
  | .hs o off len sz ag => by simp [V.rb, V.sh, rn_lt hn]
  | .mp o => by simp [V.rb, V.sh, rn_lt hn]
  | .eptr cs off => by rw [V.sh, rb_eptr, rb_eptr, rbs_sh hn]
  | .sl xs c => by rw [V.sh, rb_sl, rb_sl, rbs_sh hn]
  | .agg cs => by rw [V.sh, rb_agg, rb_agg, rbs_sh hn]
  | .tup cs => by rw [V.sh, rb_tup, rb_tup, rbs_sh hn]
  | .ifc t x => by rw [V.sh, rb_ifc, rb_ifc, rb_sh hn]
  | .fn f xs ys => by
    have h1 := rbs_sh (k := k) hn (l := xs)
    have h2 := rbs_sh (k := k) hn (l := ys)
    simp [V.rb, V.sh, h1, h2]
  | .any => rfl | .undef => rfl | .bool x => rfl | .int j n => rfl | .str s => rfl
  | .nilp => rfl | .nils => rfl | .nili => rfl | .nilf => rfl | .nilm => rfl
theorem rbs_sh {b k n : Nat} (hn : b ≤ n) : ∀ {l : List V}, V.rbs (n + k) (V.shs b k l) = V.rbs n l
  | [] => rfl
  | x :: xs => by rw [V.shs, rbs_cons, rbs_cons, rb_sh hn, rbs_sh hn]
end
theorem rn_beq {b k o p : Nat} : (rn b k o == rn b k p) = (o == p) := by rw [Bool.eq_iff_iff]; simp [rn_inj]
mutual
theorem beq_sh {b k : Nat} : ∀ {x y : V}, V.beq (V.sh b k x) (V.sh b k y) = V.beq x y
  | x, y => by
    cases x <;> cases y <;> first
      | rfl
      | (simp only [V.sh, V.beq, beqs_sh, beq_sh]; done)
      | (simp only [V.sh, V.beq, rn_beq]; done)
theorem beqs_sh {b k : Nat} : ∀ {l m : List V}, V.beqs (V.shs b k l) (V.shs b k m) = V.beqs l m
  | [], [] => rfl
  | [], _ :: _ => rfl
  | _ :: _, [] => rfl
  | x :: xs, y :: ys => by simp only [V.shs, V.beqs]; rw [beq_sh, beqs_sh]
end
section
variable {b k : Nat}
theorem nogr_sh {x : V} : (V.sh b k x).ng = V.sh b k x.ng := by cases x <;> rfl
theorem isLk_sh {x : V} : (V.sh b k x).isLk = x.isLk := by
  cases x with
  | sl xs c => cases c <;> rfl
  | _ => rfl
theorem cells_sh {x : V} : (V.sh b k x).cells = x.cells.map (V.sh b k) := by
  cases x <;> first | rfl | (simp only [V.sh, V.cells, shs_map, List.map_cons, List.map_nil]; done)
theorem one_sh {x : V} : V.one (V.sh b k x) = V.one x := by cases x <;> rfl
theorem agOk_sh {ag : Bool} {x : V} : agOk ag (V.sh b k x) = agOk ag x := by cases x <;> rfl
theorem okc_sh {l : List V} : okCells (l.map (V.sh b k)) = okCells l := by
  unfold okCells
  rw [List.all_map]
  congr 1
  funext x
  exact one_sh
theorem map_nogr_sh {l : List V} : (l.map (V.sh b k)).map V.ng = (l.map V.ng).map (V.sh b k) := by
  rw [List.map_map, List.map_map]
  congr 1
  funext x
  exact nogr_sh
theorem part_sh {ag : Bool} {sz off : Nat} {cs : List V} : part ag sz (cs.map (V.sh b k)) off = (part ag sz cs off).map (V.sh b k) := by
  unfold part
  rw [List.length_map]
  cases ag with
  | true =>
    simp only [if_true]
    split
    · simp only [Option.map_some, V.sh, shs_map, ← List.map_drop, ← List.map_take, map_nogr_sh]
    · rfl
  | false =>
    simp only [Bool.false_eq_true, if_false]
    split
    · rw [List.getElem?_map]
      cases cs[off]? with
      | none => rfl
      | some x => simp only [Option.map_some, nogr_sh]
    · rfl
theorem chunks_sh {ag : Bool} {sz : Nat} {cs : List V} : ∀ {n off : Nat}, chunks ag sz (cs.map (V.sh b k)) n off = (chunks ag sz cs n off).map (List.map (V.sh b k))
  | 0, _ => rfl
  | n + 1, off => by
    simp only [chunks, part_sh, chunks_sh, Option.bind_eq_bind]
    cases part ag sz cs off with
    | none => rfl
    | some x =>
      simp only [Option.map_some, Option.bind_some]
      cases chunks ag sz cs n (off + sz) <;> rfl
theorem putAt_sh : ∀ {cs : List V} {n : Nat} {xs : List V}, putAt (cs.map (V.sh b k)) n (xs.map (V.sh b k)) = (putAt cs n xs).map (V.sh b k)
  | cs, n, [] => by rw [List.map_nil, putAt_nil, putAt_nil]
  | [], n, x :: xs => by cases n <;> rfl
  | c :: cs, 0, x :: xs => by simp only [List.map_cons, putAt_0, putAt_sh]
  | c :: cs, n + 1, x :: xs => by
    have := putAt_sh (cs := cs) (n := n) (xs := x :: xs)
    simp only [List.map_cons] at this
    simp only [List.map_cons, putAt_s, this]
theorem lay_sh : ∀ {ps : List (Nat × Nat × V)} {z : List V}, lay (z.map (V.sh b k)) (ps.map fun p => (p.1, p.2.1, V.sh b k p.2.2)) = (lay z ps).map (List.map (V.sh b k))
  | [], z => rfl
  | (off, sz, x) :: r, z => by
    simp only [List.map_cons, lay, cells_sh, List.length_map, okc_sh, map_nogr_sh, putAt_sh]
    split
    · exact lay_sh
    · rfl
theorem laySl_sh {sz : Nat} : ∀ {ps : List (Nat × V)} {z : List V}, laySl sz (z.map (V.sh b k)) (ps.map fun p => (p.1, V.sh b k p.2)) = (laySl sz z ps).map (List.map (V.sh b k))
  | [], z => rfl
  | (i, x) :: r, z => by
    simp only [List.map_cons, laySl, cells_sh, List.length_map, okc_sh, nogr_sh, ← List.map_set]
    split
    · exact laySl_sh
    · rfl
theorem okRow_sh {ag : Bool} {sz : Nat} {ys : List V} : okRow ag sz (ys.map (V.sh b k)) = okRow ag sz ys := by
  unfold okRow
  rw [List.all_map]
  congr 1
  funext x
  simp only [Function.comp, cells_sh, List.length_map, okc_sh, agOk_sh]
theorem flat_sh {xs : List V} : (xs.map (V.sh b k)).flatMap V.cells = (xs.flatMap V.cells).map (V.sh b k) := by
  rw [List.flatMap_map, List.map_flatMap]
  congr 1
  funext x
  exact cells_sh
theorem mapM_sh {f g : V → Option V} (h : ∀ x, g (V.sh b k x) = (f x).map (V.sh b k)) : ∀ {l : List V}, (l.map (V.sh b k)).mapM g = (l.mapM f).map (List.map (V.sh b k))
  | [] => rfl
  | x :: xs => by
    simp only [List.map_cons, List.mapM_cons, h, mapM_sh h, Option.bind_eq_bind]
    cases f x with
    | none => rfl
    | some y =>
      simp only [Option.map_some, Option.bind_some]
      cases xs.mapM f <;> rfl
def O.sh (b k : Nat) : O → O
  | .cells cs => .cells (cs.map (V.sh b k))
  | .mp es => .mp (es.map fun p => (V.sh b k p.1, V.sh b k p.2))
end
def ins (b : Nat) (φ σ : Objs) : Objs := (σ.map (O.sh b φ.length)).take b ++ φ ++ (σ.map (O.sh b φ.length)).drop b
section
variable {b : Nat} {φ σ : Objs}
theorem ins_len (hb : b ≤ σ.length) : (ins b φ σ).length = σ.length + φ.length := by simp [ins]; omega
theorem ins_get (hb : b ≤ σ.length) (o : Nat) : (ins b φ σ)[rn b φ.length o]? = (σ[o]?).map (O.sh b φ.length) := by
  unfold ins rn
  split
  · rename_i h
    rw [List.append_assoc, List.getElem?_append_left (by simp; omega), List.getElem?_take, if_pos h, List.getElem?_map]
  · rename_i h
    rw [List.getElem?_append_right (by simp; omega), List.getElem?_drop, List.getElem?_map]
    congr 2
    simp; omega
theorem ins_set (hb : b ≤ σ.length) (o : Nat) (x : O) : (ins b φ σ).set (rn b φ.length o) (x.sh b φ.length) = ins b φ (σ.set o x) := by
  unfold ins rn
  split
  · rename_i h
    rw [List.append_assoc, List.set_append_left _ _ (by simp; omega), ← List.append_assoc, List.map_set, List.take_set, List.drop_set_of_lt h]
  · rename_i h
    rw [List.set_append_right _ _ (by simp; omega), List.map_set, List.take_set_of_le (by omega), List.drop_set]
    rw [if_neg (by omega)]
    congr 2
    simp; omega
theorem ins_app (hb : b ≤ σ.length) (x : O) : ins b φ σ ++ [x.sh b φ.length] = ins b φ (σ ++ [x]) := by
  unfold ins
  rw [List.map_append, List.take_append_of_le_length (by simpa using hb), List.drop_append_of_le_length (by simpa using hb), List.append_assoc]
  rfl
theorem oget_sh (hb : b ≤ σ.length) (o : Nat) : Objs.get (ins b φ σ) (rn b φ.length o) = (Objs.get σ o).map (List.map (V.sh b φ.length)) := by
  unfold Objs.get
  rw [ins_get hb]
  cases σ[o]? with
  | none => rfl
  | some x => cases x <;> rfl
theorem len_ptr (hb : b ≤ σ.length) : (ins b φ σ).length = rn b φ.length σ.length := by
  rw [ins_len hb]; unfold rn; rw [if_neg (by omega)]
theorem fz_sh (hb : b ≤ σ.length) {n : Nat} (hn : b ≤ n) : ∀ {d : Nat} {x : V}, fz (n + φ.length) (ins b φ σ) d (V.sh b φ.length x) = (fz n σ d x).map (V.sh b φ.length)
  | 0, x => by
    unfold fz
    rw [rb_sh hn]
    split <;> rfl
  | d + 1, x => by
    have ih : ∀ y, fz (n + φ.length) (ins b φ σ) d (V.sh b φ.length y) = (fz n σ d y).map (V.sh b φ.length) := fun y => fz_sh hb hn
    have ihm : ∀ l : List V, (l.map (V.sh b φ.length)).mapM (fz (n + φ.length) (ins b φ σ) d) = (l.mapM (fz n σ d)).map (List.map (V.sh b φ.length)) := fun l => mapM_sh ih
    unfold fz
    rw [rb_sh hn]
    split
    · rfl
    · cases x with
      | ptr o off =>
        simp only [V.sh, oget_sh hb, Option.bind_eq_bind]
        cases Objs.get σ o with
        | none => rfl
        | some cs =>
          simp only [Option.map_some, Option.bind_some, ihm]
          cases cs.mapM (fz n σ d) with
          | none => rfl
          | some ds => simp only [Option.map_some, Option.bind_some, Option.pure_def, V.sh, shs_map]
      | hs o off len sz ag =>
        simp only [V.sh, oget_sh hb, Option.bind_eq_bind]
        cases Objs.get σ o with
        | none => rfl
        | some cs =>
          simp only [Option.map_some, Option.bind_some, chunks_sh]
          cases chunks ag sz cs len off with
          | none => rfl
          | some xs =>
            simp only [Option.map_some, Option.bind_some, ihm]
            cases xs.mapM (fz n σ d) with
            | none => rfl
            | some ds => simp only [Option.map_some, Option.bind_some, Option.pure_def, V.sh, shs_map]
      | eptr cs off =>
        simp only [V.sh, shs_map, ihm, Option.bind_eq_bind]
        cases cs.mapM (fz n σ d) with
        | none => rfl
        | some ds => simp only [Option.map_some, Option.bind_some, Option.pure_def, V.sh, shs_map]
      | sl cs c =>
        simp only [V.sh, shs_map, ihm, Option.bind_eq_bind]
        cases cs.mapM (fz n σ d) with
        | none => rfl
        | some ds => simp only [Option.map_some, Option.bind_some, Option.pure_def, V.sh, shs_map]
      | agg cs =>
        simp only [V.sh, shs_map, ihm, Option.bind_eq_bind]
        cases cs.mapM (fz n σ d) with
        | none => rfl
        | some ds => simp only [Option.map_some, Option.bind_some, Option.pure_def, V.sh, shs_map]
      | tup cs =>
        simp only [V.sh, shs_map, ihm, Option.bind_eq_bind]
        cases cs.mapM (fz n σ d) with
        | none => rfl
        | some ds => simp only [Option.map_some, Option.bind_some, Option.pure_def, V.sh, shs_map]
      | ifc t x =>
        simp only [V.sh, ih, Option.bind_eq_bind]
        cases fz n σ d x with
        | none => rfl
        | some ds => simp only [Option.map_some, Option.bind_some, Option.pure_def, V.sh]
      | fn g xs ys =>
        simp only [V.sh, shs_map, ihm, Option.bind_eq_bind]
        cases xs.mapM (fz n σ d) with
        | none => rfl
        | some us =>
          simp only [Option.map_some, Option.bind_some]
          cases ys.mapM (fz n σ d) with
          | none => rfl
          | some ds => simp only [Option.map_some, Option.bind_some, Option.pure_def, V.sh, shs_map]
      | _ => rfl
end
end Go.Ev
set_option linter.unusedSimpArgs false
set_option linter.unusedVariables false
set_option linter.unusedSectionVars false
namespace Go.Ev
open Go
section
variable {b k : Nat}
theorem eqCell_sh {x y : V} : eqCell (V.sh b k x) (V.sh b k y) = eqCell x y := by cases x <;> cases y <;> rfl
theorem eqCellK_sh {c : CK} {x y : V} : eqCellK c (V.sh b k x) (V.sh b k y) = eqCellK c x y := by cases c <;> cases x <;> cases y <;> rfl
theorem eqCells_sh : ∀ {ks : List CK} {xs ys : List V}, eqCells ks (xs.map (V.sh b k)) (ys.map (V.sh b k)) = eqCells ks xs ys
  | [], [], [] => rfl
  | [], [], _ :: _ => rfl
  | [], _ :: _, _ => rfl
  | _ :: _, [], _ => rfl
  | _ :: _, _ :: _, [] => rfl
  | c :: ks, x :: xs, y :: ys => by simp only [List.map_cons, eqCells, eqCellK_sh, eqCells_sh]
theorem eqV_sh {e : EqK} {x y : V} : eqV e (V.sh b k x) (V.sh b k y) = eqV e x y := by
  cases e with
  | agg ks =>
    cases x <;> cases y <;> first | rfl | (simp only [V.sh, eqV, shs_map, eqCells_sh]; done)
  | _ => cases x <;> cases y <;> rfl
theorem evBin_sh0 {op : BinOp} {e : EqK} {x y : V} : eB op e (V.sh b k x) (V.sh b k y) = eB op e x y := by
  have h := @eqV_sh b k e x y
  cases x <;> cases y <;> first | rfl | (simp only [V.sh] at h ⊢; simp only [eB, h]; done)
theorem evBin_res {op : BinOp} {e : EqK} {x y v : V} (h : eB op e x y = some v) : V.rb 0 v = true := by
  unfold eB at h
  split at h
  · split at h
    · split at h <;> cases h; rfl
    · split at h <;> cases h; rfl
    · split at h
      · split at h <;> first | (cases h; rfl) | (split at h <;> cases h; rfl) | cases h
      · cases h
  · split at h <;> first | (cases h; rfl) | (split at h <;> cases h; rfl) | cases h
  · split at h
    · rw [Option.map_eq_some_iff] at h; obtain ⟨a, _, rfl⟩ := h; rfl
    · rw [Option.map_eq_some_iff] at h; obtain ⟨a, _, rfl⟩ := h; rfl
    · cases h
theorem closed_map {x : Option V} (h : ∀ v, x = some v → V.rb 0 v = true) : x.map (V.sh b k) = x := by
  cases x with
  | none => rfl
  | some v => rw [Option.map_some, sh_closed (h v rfl)]
theorem evBin_sh {op : BinOp} {e : EqK} {x y : V} : eB op e (V.sh b k x) (V.sh b k y) = (eB op e x y).map (V.sh b k) := by
  rw [evBin_sh0, closed_map fun v h => evBin_res h]
theorem evUn_sh {op : UnOp} {x : V} : evUn op (V.sh b k x) = (evUn op x).map (V.sh b k) := by cases op <;> cases x <;> rfl
theorem bytesOf_sh : ∀ {l : List V}, bytesOf (l.map (V.sh b k)) = bytesOf l
  | [] => rfl
  | x :: xs => by
    cases x with
    | int j n => cases j <;> simp only [List.map_cons, V.sh, bytesOf, bytesOf_sh]
    | _ => rfl
theorem bound_sh {x : V} {hi : Nat} : bound (V.sh b k x) hi = bound x hi := by cases x <;> rfl
theorem bounds_sh {len : Nat} {lo hi mx : Option V} : bounds len (lo.map (V.sh b k)) (hi.map (V.sh b k)) (mx.map (V.sh b k)) = bounds len lo hi mx := by
  cases lo <;> cases hi <;> cases mx <;> simp only [bounds, Option.map_some, Option.map_none, bound_sh]
theorem evCutS_sh {x : V} {lo hi : Option V} : evCutS (V.sh b k x) (lo.map (V.sh b k)) (hi.map (V.sh b k)) = (evCutS x lo hi).map (V.sh b k) := by
  cases x with
  | str s =>
    have := @bounds_sh b k s.length lo hi none
    simp only [Option.map_none] at this
    simp only [V.sh, evCutS, this, Option.bind_eq_bind]
    cases bounds s.length lo hi none <;> rfl
  | _ => rfl
theorem allc_sh {sz : Nat} {xs : List V} : (xs.map (V.sh b k)).all (fun y => decide (y.cells.length = sz)) = xs.all (fun y => decide (y.cells.length = sz)) := by
  rw [List.all_map]
  congr 1
  funext x
  simp only [Function.comp, cells_sh, List.length_map]
theorem evCut_sh {sz : Nat} {x : V} {lo hi mx : Option V} : evCut sz (V.sh b k x) (lo.map (V.sh b k)) (hi.map (V.sh b k)) (mx.map (V.sh b k)) = (evCut sz x lo hi mx).map (V.sh b k) := by
  cases x with
  | nils =>
    simp only [V.sh, evCut, bounds_sh, Option.bind_eq_bind]
    cases bounds 0 lo hi mx <;> rfl
  | sl xs c =>
    simp only [V.sh, evCut, shs_map, List.length_map, bounds_sh, allc_sh, Option.bind_eq_bind]
    cases bounds xs.length lo hi mx with
    | none => rfl
    | some p =>
      obtain ⟨l, h, m⟩ := p
      simp only [Option.bind_some]
      split
      · simp only [Option.map_some, V.sh, shs_map, List.map_take, List.map_drop]
      · rfl
  | hs o off len s ag =>
    simp only [V.sh, evCut, bounds_sh, Option.bind_eq_bind]
    cases bounds len lo hi mx with
    | none => rfl
    | some p =>
      obtain ⟨l, h, m⟩ := p
      simp only [Option.bind_some]
      split
      · split <;> rfl
      · rfl
  | _ => rfl
theorem evCutA_sh {n sz : Nat} {ag : Bool} {x : V} {lo hi : Option V} : evCutA n sz ag (V.sh b k x) (lo.map (V.sh b k)) (hi.map (V.sh b k)) = (evCutA n sz ag x lo hi).map (V.sh b k) := by
  have := @bounds_sh b k n lo hi none
  simp only [Option.map_none] at this
  unfold evCutA
  rw [this]
  cases bounds n lo hi none with
  | none => rfl
  | some p =>
    obtain ⟨l, h, m⟩ := p
    simp only [Option.bind_eq_bind, Option.bind_some]
    cases x with
    | ptr o off => simp only [V.sh]; split <;> rfl
    | eptr cs off =>
      simp only [V.sh, shs_map, chunks_sh]
      cases chunks ag sz cs (h - l) (off + l * sz) with
      | none => rfl
      | some xs =>
        simp only [Option.map_some, Option.bind_some, okc_sh]
        split
        · simp only [Option.map_some, V.sh, shs_map]
        · rfl
    | _ => rfl
theorem index_sh {x : V} {n : Nat} : index (V.sh b k x) n = index x n := by cases x <;> rfl
theorem evField_sh {ag : Bool} {off sz : Nat} {x : V} : evField ag off sz (V.sh b k x) = (evField ag off sz x).map (V.sh b k) := by
  cases x <;> first | rfl | (simp only [V.sh, evField, shs_map, part_sh]; done)
theorem evFaddr_sh {off : Nat} {x : V} : eF off (V.sh b k x) = (eF off x).map (V.sh b k) := by cases x <;> rfl
theorem evIaddr_sh {sz : Nat} {i x : V} : eI sz (V.sh b k i) (V.sh b k x) = (eI sz i x).map (V.sh b k) := by
  cases x with
  | sl xs c =>
    simp only [V.sh, eI, index_sh, shs_map, List.length_map, List.getElem?_map, Option.bind_eq_bind]
    cases index i xs.length with
    | none => rfl
    | some j =>
      simp only [Option.bind_some]
      cases xs[j]? with
      | none => rfl
      | some e =>
        simp only [Option.map_some, Option.bind_some, cells_sh, List.length_map]
        split
        · simp only [Option.map_some, V.sh, shs_map]
        · rfl
  | hs o off len s ag =>
    simp only [V.sh, eI, index_sh, Option.bind_eq_bind]
    cases index i len with
    | none => rfl
    | some j =>
      simp only [Option.bind_some]
      split <;> rfl
  | _ => rfl
theorem evIaddrA_sh {n sz : Nat} {i x : V} : evIaddrA n sz (V.sh b k i) (V.sh b k x) = (evIaddrA n sz i x).map (V.sh b k) := by
  simp only [evIaddrA, index_sh, Option.bind_eq_bind]
  cases index i n with
  | none => rfl
  | some j => cases x <;> rfl
theorem evIdx_sh {i x : V} : evIdx (V.sh b k i) (V.sh b k x) = (evIdx i x).map (V.sh b k) := by
  cases x with
  | str s =>
    simp only [V.sh, evIdx, index_sh, Option.bind_eq_bind]
    cases index i s.length with
    | none => rfl
    | some j =>
      simp only [Option.bind_some]
      cases s[j]? <;> rfl
  | _ => rfl
theorem evIdxA_sh {n : Nat} {ag : Bool} {sz : Nat} {i x : V} : evIdxA n ag sz (V.sh b k i) (V.sh b k x) = (evIdxA n ag sz i x).map (V.sh b k) := by
  simp only [evIdxA, index_sh, Option.bind_eq_bind]
  cases index i n with
  | none => rfl
  | some j => cases x <;> first | rfl | (simp only [V.sh, shs_map, part_sh, Option.bind_some]; done)
theorem evExtr_sh {i : Nat} {x : V} : eX i (V.sh b k x) = (eX i x).map (V.sh b k) := by
  cases x <;> first | rfl | (simp only [V.sh, eX, shs_map, List.getElem?_map]; done)
theorem evLenS_sh {x : V} : evLenS (V.sh b k x) = (evLenS x).map (V.sh b k) := by cases x <;> rfl
theorem evLen_sh {x : V} : evLen (V.sh b k x) = (evLen x).map (V.sh b k) := by
  cases x <;> first | rfl | (simp only [V.sh, evLen, shs_map, List.length_map, Option.map_some]; done)
theorem evNilc_sh {x : V} : evNilc (V.sh b k x) = (evNilc x).map (V.sh b k) := by cases x <;> rfl
theorem intOf_sh {x : V} : intOf (V.sh b k x) = intOf x := by cases x <;> rfl
theorem mmInt_sh {mx : Bool} : ∀ {xs : List V} {x : V}, mmInt mx (V.sh b k x) (xs.map (V.sh b k)) = (mmInt mx x xs).map (V.sh b k)
  | [], x => rfl
  | y :: ys, x => by
    cases x with
    | int j a =>
      cases y with
      | int i c =>
        have := mmInt_sh (mx := mx) (xs := ys) (x := .int j (if mx then (if c > a then c else a) else (if c < a then c else a)))
        simp only [V.sh] at this
        simp only [List.map_cons, V.sh, mmInt]
        split
        · exact this
        · rfl
      | _ => simp only [List.map_cons, V.sh, mmInt, Option.map_none]
    | _ => simp only [List.map_cons, V.sh, mmInt, Option.map_none]
theorem mfind_sh {x : V} : ∀ {es : List (V × V)}, mfind (V.sh b k x) (es.map fun p => (V.sh b k p.1, V.sh b k p.2)) = (mfind x es).map (Option.map (V.sh b k))
  | [] => rfl
  | (y, z) :: r => by
    simp only [List.map_cons, mfind, eqCell_sh, Option.bind_eq_bind]
    cases eqCell x y with
    | none => rfl
    | some t =>
      simp only [Option.bind_some]
      split
      · rfl
      · exact mfind_sh
theorem mput_sh {x z : V} : ∀ {es : List (V × V)}, mput (V.sh b k x) (V.sh b k z) (es.map fun p => (V.sh b k p.1, V.sh b k p.2)) = (mput x z es).map (List.map fun p => (V.sh b k p.1, V.sh b k p.2))
  | [] => rfl
  | (y, u) :: r => by
    simp only [List.map_cons, mput, eqCell_sh, Option.bind_eq_bind]
    cases eqCell x y with
    | none => rfl
    | some t =>
      simp only [Option.bind_some]
      split
      · rfl
      · rw [mput_sh]
        cases mput x z r <;> rfl
theorem evApp_sh {ag : Bool} {sz bytes : Nat} {x : V} {ys : List V} : evApp ag sz bytes (V.sh b k x) (ys.map (V.sh b k)) = (evApp ag sz bytes x ys).map (V.sh b k) := by
  unfold evApp
  rw [okRow_sh]
  split
  · cases x with
    | nils =>
      simp only [V.sh, List.map_eq_nil_iff, List.length_map]
      split
      · rfl
      · split
        · simp only [Option.map_some, V.sh, shs_map]
        · rfl
    | sl xs c =>
      cases ys with
      | nil => simp only [V.sh, List.map_nil, Option.map_some]
      | cons y ys =>
        simp only [V.sh, List.map_cons, shs_map, allc_sh, List.length_map, List.length_cons]
        split
        · simp only [Option.map_some, V.sh, shs_map, List.map_append, List.map_cons]
        · rfl
    | _ => rfl
  · rfl
end
section
variable {b : Nat} {φ σ : Objs}
theorem evLoad_sh (hb : b ≤ σ.length) {ag : Bool} {sz : Nat} {x : V} : eL (ins b φ σ) ag sz (V.sh b φ.length x) = (eL σ ag sz x).map (V.sh b φ.length) := by
  cases x with
  | ptr o off =>
    simp only [V.sh, eL, oget_sh hb, Option.bind_eq_bind]
    cases Objs.get σ o with
    | none => rfl
    | some cs => simp only [Option.map_some, Option.bind_some, part_sh]
  | eptr cs off => simp only [V.sh, eL, shs_map, part_sh]
  | _ => rfl
theorem rowOf_sh (hb : b ≤ σ.length) {x : V} : rowOf (ins b φ σ) (V.sh b φ.length x) = (rowOf σ x).map (List.map (V.sh b φ.length)) := by
  cases x with
  | sl xs c => simp only [V.sh, rowOf, shs_map, Option.map_some]
  | hs o off len sz ag =>
    simp only [V.sh, rowOf, oget_sh hb, Option.bind_eq_bind]
    cases Objs.get σ o with
    | none => rfl
    | some cs => simp only [Option.map_some, Option.bind_some, chunks_sh]
  | _ => rfl
theorem ofBytes_sh {c k : Nat} {s : List UInt8} : (ofBytes s).map (V.sh c k) = ofBytes s := by
  unfold ofBytes
  rw [List.map_map]
  congr 1
theorem srcOf_sh (hb : b ≤ σ.length) {str : Bool} {x : V} : srcOf str (ins b φ σ) (V.sh b φ.length x) = (srcOf str σ x).map (List.map (V.sh b φ.length)) := by
  cases str with
  | true =>
    cases x with
    | str s => simp only [V.sh, srcOf, if_true, Option.map_some, ofBytes_sh]
    | _ => rfl
  | false => exact rowOf_sh hb
theorem evConv_sh (hb : b ≤ σ.length) {c : Conv} {x : V} : eC (ins b φ σ) c (V.sh b φ.length x) = (eC σ c x).map (V.sh b φ.length) := by
  have hbs : ∀ y : Option (List UInt8), y.map V.str = (y.map V.str).map (V.sh b φ.length) := fun y => by cases y <;> rfl
  cases c with
  | toInt j => cases x <;> rfl
  | same => cases x <;> rfl
  | intStr => cases x <;> rfl
  | strBytes =>
    cases x with
    | str s => simp only [V.sh, eC, Option.map_some, shs_map, ofBytes_sh]
    | _ => rfl
  | bytesStr =>
    cases x with
    | sl xs c => simp only [V.sh, eC, shs_map, bytesOf_sh]; exact hbs _
    | hs o off len sz ag =>
      have := rowOf_sh hb (φ := φ) (x := .hs o off len sz ag)
      simp only [V.sh] at this
      simp only [V.sh, eC, this, Option.bind_eq_bind]
      cases rowOf σ (.hs o off len sz ag) with
      | none => rfl
      | some xs => simp only [Option.map_some, Option.bind_some, bytesOf_sh]; exact hbs _
    | _ => rfl
  | bytesStrN =>
    cases x with
    | sl xs c => simp only [V.sh, eC, shs_map, bytesOf_sh]; exact hbs _
    | _ => rfl
end
def Arg.cl : Arg → Bool
  | .c x => V.rb 0 x
  | _ => true
def oCl : Option Arg → Bool
  | none => true
  | some a => a.cl
def Ins.cl : Ins → Bool
  | .mv x _ | .box x | .loadT x | .nilc x | .un _ x | .conv _ x | .faddr _ x | .field _ _ _ x | .lenS x | .len x | .mkif _ x | .extr x _ | .bytesH x | .mark x | .load _ _ x => x.cl
  | .pick c a b => c.cl && a.cl && b.cl
  | .alloc z => V.rbs 0 z
  | .build z ps => V.rbs 0 z && ps.all fun p => p.2.2.cl
  | .buildSl _ _ _ z ps _ => V.rb 0 z && ps.all fun p => p.2.cl
  | .buildG _ _ _ z ps => V.rb 0 z && ps.all fun p => p.2.cl
  | .store _ p x _ => p.cl && x.cl
  | .bin _ _ x y => x.cl && y.cl
  | .cutS x lo hi => x.cl && oCl lo && oCl hi
  | .cut _ x lo hi mx => x.cl && oCl lo && oCl hi && oCl mx
  | .cutA _ _ _ x lo hi => x.cl && oCl lo && oCl hi
  | .iaddr _ x i | .iaddrA _ _ x i | .idx x i | .idxA _ _ _ x i => x.cl && i.cl
  | .app _ _ _ _ x y _ | .appH _ _ _ _ x y => x.cl && y.cl
  | .call _ az => az.all Arg.cl
  | .callv x az => x.cl && az.all Arg.cl
  | .mkfn _ a c => a.all Arg.cl && c.all Arg.cl
  | .mkSl _ _ _ z l c _ => V.rb 0 z && l.cl && c.cl
  | .mm _ az => az.all Arg.cl
  | .mkmp => true
  | .mset m k x => m.cl && k.cl && x.cl
  | .mget z m k _ => V.rb 0 z && m.cl && k.cl
section
variable {b : Nat} {φ σ : Objs} {A A' : Arg → V}
theorem args_sh {k : Nat} (hA : ∀ a, a.cl = true → A' a = V.sh b k (A a)) : ∀ {az : List Arg}, az.all Arg.cl = true → az.map A' = (az.map A).map (V.sh b k)
  | [], _ => rfl
  | a :: az, h => by
    simp only [List.all_cons, Bool.and_eq_true] at h
    simp only [List.map_cons, hA a h.1, args_sh hA h.2]
theorem oarg_sh {k : Nat} (hA : ∀ a, a.cl = true → A' a = V.sh b k (A a)) {x : Option Arg} (h : oCl x = true) : x.map A' = (x.map A).map (V.sh b k) := by
  cases x with
  | none => rfl
  | some a => simp only [Option.map_some, hA a h]
theorem parts_sh {k : Nat} (hA : ∀ a, a.cl = true → A' a = V.sh b k (A a)) : ∀ {ps : List (Nat × Arg)}, ps.all (fun p => p.2.cl) = true → (ps.map fun p => (p.1, A' p.2)) = (ps.map fun p => (p.1, A p.2)).map fun p => (p.1, V.sh b k p.2)
  | [], _ => rfl
  | p :: ps, h => by
    simp only [List.all_cons, Bool.and_eq_true] at h
    simp only [List.map_cons, hA p.2 h.1, parts_sh hA h.2]
theorem parts3_sh {k : Nat} (hA : ∀ a, a.cl = true → A' a = V.sh b k (A a)) : ∀ {ps : List (Nat × Nat × Arg)}, ps.all (fun p => p.2.2.cl) = true → (ps.map fun p => (p.1, p.2.1, A' p.2.2)) = (ps.map fun p => (p.1, p.2.1, A p.2.2)).map fun p => (p.1, p.2.1, V.sh b k p.2.2)
  | [], _ => rfl
  | p :: ps, h => by
    simp only [List.all_cons, Bool.and_eq_true] at h
    simp only [List.map_cons, hA p.2.2 h.1, parts3_sh hA h.2]
theorem zs_sh {c k : Nat} {z : List V} (h : V.rbs 0 z = true) : z.map (V.sh c k) = z := by rw [← shs_map, shs_closed h]
theorem evPure_sh (hb : b ≤ σ.length) (hA : ∀ a, a.cl = true → A' a = V.sh b φ.length (A a)) {i : Ins} (hi : i.cl = true) : evPure A' (ins b φ σ) i = (evPure A σ i).map (V.sh b φ.length) := by
  cases i with
  | pick c x y =>
    simp only [Ins.cl, Bool.and_eq_true] at hi
    simp only [evPure, hA c hi.1.1, hA x hi.1.2, hA y hi.2]
    cases A c with
    | bool t => cases t <;> rfl
    | _ => rfl
  | build z ps =>
    simp only [Ins.cl, Bool.and_eq_true] at hi
    have h1 := @lay_sh b φ.length (ps.map fun p => (p.1, p.2.1, A p.2.2)) z
    rw [← parts3_sh hA hi.2, zs_sh hi.1] at h1
    simp only [evPure]
    rw [h1]
    cases lay z (ps.map fun p => (p.1, p.2.1, A p.2.2)) with
    | none => rfl
    | some cs => simp only [Option.map_some, V.sh, shs_map]
  | nilc x => simp only [evPure, hA x hi, evNilc_sh]
  | bin op e x y =>
    simp only [Ins.cl, Bool.and_eq_true] at hi
    simp only [evPure, hA x hi.1, hA y hi.2, evBin_sh]
  | un op x => simp only [evPure, hA x hi, evUn_sh]
  | conv c x => simp only [evPure, hA x hi, evConv_sh hb]
  | cutS x lo hi' =>
    simp only [Ins.cl, Bool.and_eq_true] at hi
    simp only [evPure, hA x hi.1.1, oarg_sh hA hi.1.2, oarg_sh hA hi.2, evCutS_sh]
  | cut sz x lo hi' mx =>
    simp only [Ins.cl, Bool.and_eq_true] at hi
    simp only [evPure, hA x hi.1.1.1, oarg_sh hA hi.1.1.2, oarg_sh hA hi.1.2, oarg_sh hA hi.2, evCut_sh]
  | cutA n sz ag x lo hi' =>
    simp only [Ins.cl, Bool.and_eq_true] at hi
    simp only [evPure, hA x hi.1.1, oarg_sh hA hi.1.2, oarg_sh hA hi.2, evCutA_sh]
  | load ag sz x => simp only [evPure, hA x hi, evLoad_sh hb]
  | faddr off x => simp only [evPure, hA x hi, evFaddr_sh]
  | field ag off sz x => simp only [evPure, hA x hi, evField_sh]
  | iaddr sz x i =>
    simp only [Ins.cl, Bool.and_eq_true] at hi
    simp only [evPure, hA x hi.1, hA i hi.2, evIaddr_sh]
  | iaddrA n sz x i =>
    simp only [Ins.cl, Bool.and_eq_true] at hi
    simp only [evPure, hA x hi.1, hA i hi.2, evIaddrA_sh]
  | idx x i =>
    simp only [Ins.cl, Bool.and_eq_true] at hi
    simp only [evPure, hA x hi.1, hA i hi.2, evIdx_sh]
  | idxA n ag sz x i =>
    simp only [Ins.cl, Bool.and_eq_true] at hi
    simp only [evPure, hA x hi.1, hA i hi.2, evIdxA_sh]
  | lenS x => simp only [evPure, hA x hi, evLenS_sh]
  | len x => simp only [evPure, hA x hi, evLen_sh]
  | mkfn f xs ys =>
    simp only [Ins.cl, Bool.and_eq_true] at hi
    simp only [evPure, args_sh hA hi.1, args_sh hA hi.2, Option.map_some, V.sh, shs_map]
  | mkif t x => simp only [evPure, hA x hi, Option.map_some, V.sh]
  | extr x i => simp only [evPure, hA x hi, evExtr_sh]
  | mm mx az =>
    simp only [evPure, args_sh hA hi]
    cases az.map A with
    | nil => rfl
    | cons x r =>
      simp only [List.map_cons, intOf_sh, mmInt_sh]
      split <;> rfl
  | mget z m kk ok =>
    simp only [Ins.cl, Bool.and_eq_true] at hi
    have fin : ∀ r : Option (Option V), (r.map (Option.map (V.sh b φ.length))).bind (fun r => (some (if ok = true then V.tup [r.getD z, .bool r.isSome] else r.getD z) : Option V)) = (r.bind fun r => (some (if ok = true then V.tup [r.getD z, .bool r.isSome] else r.getD z) : Option V)).map (V.sh b φ.length) := by
      intro r
      cases r with
      | none => rfl
      | some r =>
        cases r with
        | none =>
          have hz := sh_closed (b := b) (k := φ.length) hi.1.1
          cases ok
          · simp [hz]
          · simp [hz, V.sh, V.shs]
        | some v => cases ok <;> simp [V.sh, V.shs]
    simp only [evPure, hA m hi.1.2, hA kk hi.2]
    cases A m with
    | nilm => exact fin (some none)
    | mp o =>
      simp only [V.sh, ins_get hb]
      cases σ[o]? with
      | none => rfl
      | some O =>
        cases O with
        | cells cs => rfl
        | mp es =>
          simp only [Option.map_some, O.sh, mfind_sh]
          exact fin _
    | _ => rfl
  | _ => rfl
end
end Go.Ev
set_option linter.unusedSimpArgs false
set_option linter.unusedVariables false
set_option linter.unusedSectionVars false
namespace Go.Ev
open Go
section
variable {b : Nat} {φ : Objs}
def FrR (b : Nat) (φ : Objs) (x' x : Ro) : Prop := x' = x.map (fun p => (V.sh b φ.length p.1, ins b φ p.2)) ∧ ∀ p, x = some p → b ≤ p.2.length
theorem FrR.none : FrR b φ none none := ⟨rfl, fun _ h => by cases h⟩
theorem FrR.some {v : V} {σ : Objs} (h : b ≤ σ.length) : FrR b φ (some (V.sh b φ.length v, ins b φ σ)) (some (v, σ)) := ⟨rfl, fun _ h' => by cases h'; exact h⟩
def FrC (b : Nat) (φ : Objs) (call' call : FuncId → List V → Objs → Ro) : Prop := ∀ f args σ, b ≤ σ.length → FrR b φ (call' f (args.map (V.sh b φ.length)) (ins b φ σ)) (call f args σ)
theorem frR_val {x' x : Option V} {σ : Objs} (hb : b ≤ σ.length) (h : x' = x.map (V.sh b φ.length)) : FrR b φ (x'.bind fun v => Option.some (v, ins b φ σ)) (x.bind fun v => Option.some (v, σ)) := by
  subst h
  cases x with
  | none => exact .none
  | some v => exact .some hb
theorem frR_valn {x' x : Option V} {σ : Objs} (hb : b ≤ σ.length) (h : x' = x.map (V.sh b φ.length)) : FrR b φ (x'.bind fun v => Option.some (v.ng, ins b φ σ)) (x.bind fun v => Option.some (v.ng, σ)) := by
  subst h
  cases x with
  | none => exact .none
  | some v =>
    show FrR b φ (Option.some ((V.sh b φ.length v).ng, ins b φ σ)) (Option.some (v.ng, σ))
    rw [nogr_sh]
    exact .some hb
theorem ins_sh {σ : Objs} (hb : b ≤ σ.length) {call call' : FuncId → List V → Objs → Ro} (hc : FrC b φ call' call) {A A' T T' : Arg → V} (hA : ∀ a, a.cl = true → A' a = V.sh b φ.length (A a)) (hT : ∀ a, a.cl = true → T' a = V.sh b φ.length (T a)) {i : Ins} (hi : i.cl = true) :
    FrR b φ (evIns call' A' T' (ins b φ σ) i) (evIns call A T σ i) := by
  have happ : ∀ x : O, b ≤ (σ ++ [x]).length := fun x => by simp; omega
  have hset : ∀ o (x : O), b ≤ (σ.set o x).length := fun o x => by simpa using hb
  have hp : evPure A' (ins b φ σ) i = (evPure A σ i).map (V.sh b φ.length) := evPure_sh hb hA hi
  have ptr0 : V.ptr (ins b φ σ).length 0 = V.sh b φ.length (.ptr σ.length 0) := by rw [len_ptr hb]; rfl
  cases i with
  | mv x tk =>
    simp only [evIns, hA x hi, hT x hi]
    cases tk <;> exact .some hb
  | alloc z =>
    simp only [evIns]
    split
    · have h1 := ins_app (b := b) (φ := φ) hb (.cells z)
      rw [show (O.cells z).sh b φ.length = .cells z by rw [O.sh, zs_sh hi]] at h1
      rw [h1, ptr0]
      exact .some (happ _)
    · exact .none
  | box x =>
    simp only [evIns, hA x hi, cells_sh, okc_sh, map_nogr_sh]
    split
    · rw [ptr0]
      have h1 := ins_app (b := b) (φ := φ) hb (.cells ((A x).cells.map V.ng))
      rw [show (O.cells ((A x).cells.map V.ng)).sh b φ.length = .cells (((A x).cells.map V.ng).map (V.sh b φ.length)) from rfl] at h1
      rw [h1]
      exact .some (happ _)
    · exact .none
  | buildSl ag sz len z ps h =>
    simp only [Ins.cl, Bool.and_eq_true] at hi
    have h1 := @laySl_sh b φ.length sz (ps.map fun p => (p.1, A p.2)) (List.replicate len z)
    rw [← parts_sh hA hi.2, List.map_replicate, sh_closed hi.1] at h1
    simp only [evIns]
    rw [h1]
    cases laySl sz (List.replicate len z) (ps.map fun p => (p.1, A p.2)) with
    | none => exact .none
    | some xs =>
      simp only [Option.map_some, Option.bind_eq_bind, Option.bind_some, okRow_sh]
      split
      · cases h with
        | true =>
          simp only [if_true, flat_sh, map_nogr_sh]
          have h2 := ins_app (b := b) (φ := φ) hb (.cells ((xs.flatMap V.cells).map V.ng))
          rw [show (O.cells ((xs.flatMap V.cells).map V.ng)).sh b φ.length = .cells (((xs.flatMap V.cells).map V.ng).map (V.sh b φ.length)) from rfl] at h2
          rw [h2, len_ptr hb]
          exact .some (v := .hs σ.length 0 len sz ag) (happ _)
        | false =>
          simp only [Bool.false_eq_true, if_false]
          rw [← shs_map]
          exact .some (v := .sl xs .fx) hb
      · exact .none
  | buildG ag sz len z ps =>
    simp only [Ins.cl, Bool.and_eq_true] at hi
    have h1 := @laySl_sh b φ.length sz (ps.map fun p => (p.1, A p.2)) (List.replicate len z)
    rw [← parts_sh hA hi.2, List.map_replicate, sh_closed hi.1] at h1
    simp only [evIns]
    rw [h1]
    cases laySl sz (List.replicate len z) (ps.map fun p => (p.1, A p.2)) with
    | none => exact .none
    | some xs =>
      simp only [Option.map_some, Option.bind_eq_bind, Option.bind_some, okRow_sh]
      split
      · rw [← shs_map]
        exact .some (v := .sl xs (.gr sz)) hb
      · exact .none
  | mark x =>
    simp only [evIns, hT x hi]
    cases T x with
    | sl xs c =>
      cases c with
      | gr s => exact .some (v := .sl xs .no) hb
      | _ => exact .none
    | _ => exact .none
  | store sz p x tk =>
    simp only [Ins.cl, Bool.and_eq_true] at hi
    have hv : (if tk = true then T' x else A' x) = V.sh b φ.length (if tk = true then T x else A x) := by
      cases tk
      · exact hA x hi.2
      · exact hT x hi.2
    simp only [evIns]
    simp only [hv]
    generalize (if tk = true then T x else A x) = tv
    simp only [hA p hi.1, hA x hi.2]
    cases A p with
    | ptr o off =>
      simp only [V.sh, oget_sh hb, Option.bind_eq_bind]
      cases Objs.get σ o with
      | none => exact .none
      | some cs =>
        simp only [Option.map_some, Option.bind_some, cells_sh, List.length_map, okc_sh]
        split
        · have plain : ∀ w, w = A x → (∀ cs, w ≠ .agg cs) → FrR b φ
              (if (V.sh b φ.length tv).isLk = true then Option.none else Option.some (V.undef, (ins b φ σ).set (rn b φ.length o) (.cells ((cs.map (V.sh b φ.length)).set off (V.sh b φ.length tv)))))
              (if tv.isLk = true then Option.none else Option.some (V.undef, List.set σ o (.cells (cs.set off tv)))) := by
            intro w _ _
            rw [isLk_sh]
            split
            · exact .none
            · rw [← List.map_set]
              have h2 := ins_set (b := b) (φ := φ) hb o (.cells (cs.set off tv))
              rw [show (O.cells (cs.set off tv)).sh b φ.length = .cells ((cs.set off tv).map (V.sh b φ.length)) from rfl] at h2
              rw [h2]
              exact .some (v := .undef) (hset _ _)
          cases hx : A x with
          | agg ds =>
            simp only [V.sh, V.cells, map_nogr_sh, putAt_sh]
            have h2 := ins_set (b := b) (φ := φ) hb o (.cells (putAt cs off (ds.map V.ng)))
            rw [show (O.cells (putAt cs off (ds.map V.ng))).sh b φ.length = .cells ((putAt cs off (ds.map V.ng)).map (V.sh b φ.length)) from rfl] at h2
            rw [h2]
            exact .some (v := .undef) (hset _ _)
          | _ => exact plain _ hx.symm (fun _ h => by cases h)
        · exact .none
    | _ => exact .none
  | loadT x =>
    simp only [evIns, hA x hi]
    cases A x with
    | ptr o off =>
      simp only [V.sh, oget_sh hb, Option.bind_eq_bind]
      cases Objs.get σ o with
      | none => exact .none
      | some cs =>
        simp only [Option.map_some, Option.bind_some, List.getElem?_map]
        cases cs[off]? with
        | none => exact .none
        | some v =>
          simp only [Option.map_some, Option.bind_some]
          cases v with
          | sl xs c =>
            cases c with
            | gr s =>
              simp only [V.sh]
              have h2 := ins_set (b := b) (φ := φ) hb o (.cells (cs.set off (.sl xs .no)))
              rw [show (O.cells (cs.set off (.sl xs .no))).sh b φ.length = .cells ((cs.map (V.sh b φ.length)).set off (.sl (V.shs b φ.length xs) .no)) by rw [O.sh, List.map_set]; rfl] at h2
              rw [h2]
              exact .some (v := .sl xs (.gr s)) (hset _ _)
            | lk => exact .none
            | no => exact .some (v := .sl xs .no) hb
            | fx => exact .some (v := .sl xs .fx) hb
          | ptr o' i => exact .some (v := .ptr o' i) hb
          | eptr cs' i => exact .some (v := .eptr cs' i) hb
          | hs a1 a2 a3 a4 a5 => exact .some (v := .hs a1 a2 a3 a4 a5) hb
          | agg cs' => exact .some (v := .agg cs') hb
          | tup cs' => exact .some (v := .tup cs') hb
          | ifc t x' => exact .some (v := .ifc t x') hb
          | fn f a1 a2 => exact .some (v := .fn f a1 a2) hb
          | mp o' => exact .some (v := .mp o') hb
          | any => exact .some (v := .any) hb
          | undef => exact .some (v := .undef) hb
          | bool x' => exact .some (v := .bool x') hb
          | int j n => exact .some (v := .int j n) hb
          | str s => exact .some (v := .str s) hb
          | nilp => exact .some (v := .nilp) hb
          | nils => exact .some (v := .nils) hb
          | nili => exact .some (v := .nili) hb
          | nilf => exact .some (v := .nilf) hb
          | nilm => exact .some (v := .nilm) hb
    | eptr cs off =>
      simp only [V.sh, shs_map, List.getElem?_map, Option.bind_eq_bind]
      cases cs[off]? with
      | none => exact .none
      | some v =>
        simp only [Option.map_some, Option.bind_some, nogr_sh]
        exact .some hb
    | _ => exact .none
  | app str ag sz bytes x y tk =>
    simp only [Ins.cl, Bool.and_eq_true] at hi
    have hv : (if tk = true then T' x else A' x) = V.sh b φ.length (if tk = true then T x else A x) := by
      cases tk
      · exact hA x hi.1
      · exact hT x hi.1
    simp only [evIns, hv, hA y hi.2, srcOf_sh hb, Option.bind_eq_bind]
    cases srcOf str σ (A y) with
    | none => exact .none
    | some ys =>
      simp only [Option.map_some, Option.bind_some]
      exact frR_val hb evApp_sh
  | appH str ag sz bytes x y =>
    simp only [Ins.cl, Bool.and_eq_true] at hi
    simp only [evIns, hA x hi.1, hA y hi.2, srcOf_sh hb, Option.bind_eq_bind]
    cases srcOf str σ (A y) with
    | none => exact .none
    | some ys =>
      simp only [Option.map_some, Option.bind_some]
      cases ys with
      | nil => exact frR_valn hb (evApp_sh (ys := []))
      | cons y0 ys =>
        have h1 := @evApp_sh b φ.length ag sz bytes (A x) (y0 :: ys)
        simp only [List.map_cons] at h1 ⊢
        rw [h1]
        cases evApp ag sz bytes (A x) (y0 :: ys) with
        | none => exact .none
        | some v =>
          simp only [Option.map_some, Option.bind_some]
          cases v with
          | sl xs c =>
            simp only [V.sh, shs_map, flat_sh, map_nogr_sh, List.length_map]
            have h2 := ins_app (b := b) (φ := φ) hb (.cells ((xs.flatMap V.cells).map V.ng))
            rw [show (O.cells ((xs.flatMap V.cells).map V.ng)).sh b φ.length = .cells (((xs.flatMap V.cells).map V.ng).map (V.sh b φ.length)) from rfl] at h2
            rw [h2, len_ptr hb]
            exact .some (v := .hs σ.length 0 xs.length sz ag) (happ _)
          | _ => exact .none
  | bytesH x =>
    simp only [evIns, hA x hi]
    cases A x with
    | str s =>
      simp only [V.sh]
      have h2 := ins_app (b := b) (φ := φ) hb (.cells (ofBytes s))
      rw [show (O.cells (ofBytes s)).sh b φ.length = .cells (ofBytes s) by rw [O.sh, ofBytes_sh]] at h2
      rw [h2, len_ptr hb]
      exact .some (v := .hs σ.length 0 s.length 1 false) (happ _)
    | _ => exact .none
  | mkSl ag sz bytes z l c h =>
    simp only [Ins.cl, Bool.and_eq_true] at hi
    simp only [evIns, hA l hi.1.2, hA c hi.2, intOf_sh, Option.bind_eq_bind]
    cases intOf (A l) with
    | none => exact .none
    | some l =>
      cases intOf (A c) with
      | none => exact .none
      | some c =>
        simp only [Option.bind_some]
        split
        · cases h with
          | true =>
            simp only [if_true]
            have hz : ((List.replicate c.toNat z).flatMap V.cells).map (V.sh b φ.length) = (List.replicate c.toNat z).flatMap V.cells := by
              rw [← flat_sh, List.map_replicate, sh_closed hi.1.1]
            have h2 := ins_app (b := b) (φ := φ) hb (.cells ((List.replicate c.toNat z).flatMap V.cells))
            rw [show (O.cells ((List.replicate c.toNat z).flatMap V.cells)).sh b φ.length = .cells ((List.replicate c.toNat z).flatMap V.cells) by rw [O.sh, hz]] at h2
            rw [h2, len_ptr hb]
            exact .some (v := .hs σ.length 0 l.toNat sz ag) (happ _)
          | false =>
            simp only [Bool.false_eq_true, if_false]
            have hz : V.sl (List.replicate l.toNat z) (if l = c then .fx else .gr sz) = V.sh b φ.length (.sl (List.replicate l.toNat z) (if l = c then .fx else .gr sz)) := by
              rw [V.sh, shs_map, List.map_replicate, sh_closed hi.1.1]
            refine ⟨?_, fun p hp => by cases hp; exact hb⟩
            show some (V.sl (List.replicate l.toNat z) (if l = c then .fx else .gr sz), ins b φ σ) = some (V.sh b φ.length (V.sl (List.replicate l.toNat z) (if l = c then .fx else .gr sz)), ins b φ σ)
            rw [← hz]
        · exact .none
  | mkmp =>
    simp only [evIns]
    have h2 := ins_app (b := b) (φ := φ) hb (.mp [])
    rw [show (O.mp []).sh b φ.length = .mp [] from rfl] at h2
    rw [h2, len_ptr hb]
    exact .some (v := .mp σ.length) (happ _)
  | mset m kk x =>
    simp only [Ins.cl, Bool.and_eq_true] at hi
    simp only [evIns, hA m hi.1.1, hA kk hi.1.2, hA x hi.2]
    cases A m with
    | mp o =>
      simp only [V.sh, ins_get hb]
      cases σ[o]? with
      | none => exact .none
      | some O =>
        cases O with
        | cells cs => exact .none
        | mp es =>
          simp only [Option.map_some, O.sh, mput_sh, Option.bind_eq_bind]
          cases mput (A kk) (A x) es with
          | none => exact .none
          | some es' =>
            simp only [Option.map_some, Option.bind_some]
            have h2 := ins_set (b := b) (φ := φ) hb o (.mp es')
            rw [show (O.mp es').sh b φ.length = .mp (es'.map fun p => (V.sh b φ.length p.1, V.sh b φ.length p.2)) from rfl] at h2
            rw [h2]
            exact .some (v := .undef) (hset _ _)
    | _ => exact .none
  | call f az =>
    simp only [evIns, args_sh hA hi]
    exact hc f _ σ hb
  | callv x az =>
    simp only [Ins.cl, Bool.and_eq_true] at hi
    simp only [evIns, hA x hi.1, args_sh hA hi.2]
    cases A x with
    | fn f first caps =>
      simp only [V.sh, shs_map, ← List.map_append, map_nogr_sh]
      exact hc f _ σ hb
    | _ => exact .none
  | conv c x =>
    cases c with
    | strBytes =>
      simp only [evIns, hA x hi, Option.bind_eq_bind]
      exact frR_val hb (evConv_sh hb)
    | _ => exact frR_valn hb hp
  | _ => exact frR_valn hb hp
end
section
variable {b : Nat} {φ : Objs} {G : GV} {call call' : FuncId → List V → Objs → Ro}
def GCl (G : GV) : Prop := ∀ n, V.rb 0 (G n) = true
theorem argT_sh (hG : GCl G) {ρ : List V} {k : Nat} {a : Arg} (h : a.cl = true) : argT G (ρ.map (V.sh b k)) a = V.sh b k (argT G ρ a) := by
  cases a with
  | t n =>
    simp only [argT, List.getD_eq_getElem?_getD, List.getElem?_map]
    cases ρ[n]? <;> rfl
  | c x => exact (sh_closed h).symm
  | g n => exact (sh_closed (hG n)).symm
  | f id => rfl
theorem arg_sh (hG : GCl G) {ρ : List V} {k : Nat} {a : Arg} (h : a.cl = true) : arg G (ρ.map (V.sh b k)) a = V.sh b k (arg G ρ a) := by
  unfold arg
  rw [argT_sh hG h, nogr_sh]
theorem getD_sh {ρ : List V} {k n : Nat} : (ρ.map (V.sh b k)).getD n .undef = V.sh b k (ρ.getD n .undef) := by
  simp only [List.getD_eq_getElem?_getD, List.getElem?_map]
  cases ρ[n]? <;> rfl
theorem put_sh {ρ : List V} {k : Nat} {d : Option Nat} {x : V} : put (ρ.map (V.sh b k)) d (V.sh b k x) = (put ρ d x).map (V.sh b k) := by
  cases d <;> simp [put, List.map_set]
theorem unslot_sh {ρ : List V} {k : Nat} {x : Arg} {tk : Bool} : unslot (ρ.map (V.sh b k)) x tk = (unslot ρ x tk).map (V.sh b k) := by
  cases x <;> cases tk <;> simp only [unslot, List.map_set, getD_sh, nogr_sh]
def FrS (b : Nat) (φ : Objs) (x' x : Option (List V × Objs)) : Prop := x' = x.map (fun p => (p.1.map (V.sh b φ.length), ins b φ p.2)) ∧ ∀ p, x = some p → b ≤ p.2.length
theorem FrS.none : FrS b φ none none := ⟨rfl, fun _ h => by cases h⟩
theorem FrS.some {ρ : List V} {σ : Objs} (h : b ≤ σ.length) : FrS b φ (some (ρ.map (V.sh b φ.length), ins b φ σ)) (some (ρ, σ)) := ⟨rfl, fun _ h' => by cases h'; exact h⟩
theorem FrS.bind {x' x : Option (List V × Objs)} {f' f : List V × Objs → Option (List V × Objs)} (h : FrS b φ x' x) (hf : ∀ ρ σ, b ≤ σ.length → FrS b φ (f' (ρ.map (V.sh b φ.length), ins b φ σ)) (f (ρ, σ))) : FrS b φ (x'.bind f') (x.bind f) := by
  obtain ⟨rfl, h2⟩ := h
  cases x with
  | none => exact .none
  | some p => exact hf p.1 p.2 (h2 p rfl)
theorem ev1_sh (hG : GCl G) (hc : FrC b φ call' call) {s : Step} (hs : s.ins.cl = true) {ρ : List V} {σ : Objs} (hb : b ≤ σ.length) : FrS b φ (ev1 G call' s (ρ.map (V.sh b φ.length)) (ins b φ σ)) (ev1 G call s ρ σ) := by
  unfold ev1
  have h := ins_sh hb hc (A := arg G ρ) (A' := arg G (ρ.map (V.sh b φ.length))) (T := argT G ρ) (T' := argT G (ρ.map (V.sh b φ.length))) (fun a ha => arg_sh hG ha) (fun a ha => argT_sh hG ha) hs
  obtain ⟨h1, h2⟩ := h
  rw [h1]
  cases he : evIns call (arg G ρ) (argT G ρ) σ s.ins with
  | none => exact .none
  | some p =>
    simp only [Option.map_some, Option.bind_eq_bind, Option.bind_some, unslot_sh, put_sh]
    exact .some (h2 p he)
theorem wanted_sh {ρ : List V} {k : Nat} {g : Option (Nat × Bool)} : wanted (ρ.map (V.sh b k)) g = wanted ρ g := by
  cases g with
  | none => rfl
  | some p =>
    obtain ⟨g, t⟩ := p
    simp only [wanted, getD_sh]
    cases ρ.getD g .undef <;> rfl
theorem step_sh (hG : GCl G) (hc : FrC b φ call' call) {s : Step} (hs : s.ins.cl = true) {ρ : List V} {σ : Objs} (hb : b ≤ σ.length) : FrS b φ (evStep G call' s (ρ.map (V.sh b φ.length)) (ins b φ σ)) (evStep G call s ρ σ) := by
  unfold evStep
  rw [wanted_sh]
  cases wanted ρ s.gd with
  | none => exact .none
  | some t =>
    simp only [Option.bind_eq_bind, Option.bind_some]
    split
    · exact ev1_sh hG hc hs hb
    · have : put (ρ.map (V.sh b φ.length)) s.dst .undef = (put ρ s.dst .undef).map (V.sh b φ.length) := put_sh (x := .undef)
      rw [this]
      exact .some hb
theorem steps_sh (hG : GCl G) (hc : FrC b φ call' call) : ∀ {l : List Step}, l.all (fun s => s.ins.cl) = true → ∀ {ρ : List V} {σ : Objs}, b ≤ σ.length → FrS b φ (evSteps G call' l (ρ.map (V.sh b φ.length)) (ins b φ σ)) (evSteps G call l ρ σ)
  | [], _, ρ, σ, hb => .some hb
  | s :: r, h, ρ, σ, hb => by
    simp only [List.all_cons, Bool.and_eq_true] at h
    exact FrS.bind (step_sh hG hc h.1 hb) fun ρ' σ' hb' => steps_sh hG hc h.2 hb'
def Rd.sh (b k : Nat) : Rd → Rd
  | .none => .none
  | .same ex o off n => .same ex (rn b k o) off n
  | .made o => .made (rn b k o)
  | .took o off => .took (rn b k o) off
theorem reads_sh {A A' : Arg → V} {σ : Objs} (hb : b ≤ σ.length) (hA : ∀ a, a.cl = true → A' a = V.sh b φ.length (A a)) {i : Ins} (hi : i.cl = true) : reads A' (ins b φ σ) i = (reads A σ i).sh b φ.length := by
  cases i with
  | load ag sz x =>
    simp only [reads, hA x hi]
    cases A x <;> rfl
  | loadT x =>
    simp only [reads, hA x hi]
    cases A x with
    | ptr o off =>
      simp only [V.sh, oget_sh hb]
      cases Objs.get σ o with
      | none => rfl
      | some cs =>
        simp only [Option.map_some, Option.bind_some, List.getElem?_map]
        cases cs[off]? with
        | none => rfl
        | some v =>
          cases v with
          | sl xs c => cases c <;> rfl
          | _ => rfl
    | _ => rfl
  | alloc z => simp only [reads, len_ptr hb]; rfl
  | box x => simp only [reads, len_ptr hb]; rfl
  | _ => rfl
theorem beqs_map {k : Nat} {l m : List V} : V.beqs (l.map (V.sh b k)) (m.map (V.sh b k)) = V.beqs l m := by rw [← shs_map, ← shs_map, beqs_sh]
theorem stable_sh {σ σ' : Objs} (hb : b ≤ σ.length) (hb' : b ≤ σ'.length) {r : Rd} : stable (ins b φ σ) (ins b φ σ') (r.sh b φ.length) = stable σ σ' r := by
  cases r with
  | none => rfl
  | took o off => rfl
  | same ex o off n =>
    simp only [Rd.sh, stable, oget_sh hb, oget_sh hb']
    cases Objs.get σ o with
    | none => rfl
    | some cs =>
      cases Objs.get σ' o with
      | none => rfl
      | some ds =>
        simp only [Option.map_some, List.length_map, ← List.map_drop, ← List.map_take, map_nogr_sh, beqs_map]
  | made o =>
    simp only [Rd.sh, stable, oget_sh hb, oget_sh hb']
    cases Objs.get σ o with
    | none => rfl
    | some cs =>
      cases Objs.get σ' o with
      | none => rfl
      | some ds => simp only [Option.map_some, beqs_map]
def FrO (b : Nat) (φ : Objs) (x' x : Option Objs) : Prop := x' = x.map (ins b φ) ∧ ∀ σ, x = some σ → b ≤ σ.length
theorem lockC_sh : ∀ {l : List (Nat × Nat)} {σ : Objs}, b ≤ σ.length → FrO b φ (lockC (ins b φ σ) (l.map fun p => (rn b φ.length p.1, p.2))) (lockC σ l)
  | [], σ, hb => ⟨rfl, fun _ h => by cases h; exact hb⟩
  | (o, off) :: r, σ, hb => by
    simp only [List.map_cons, lockC, oget_sh hb]
    cases Objs.get σ o with
    | none => exact ⟨rfl, fun _ h => by cases h⟩
    | some cs =>
      simp only [Option.map_some, List.getElem?_map]
      cases cs[off]? with
      | none => exact ⟨rfl, fun _ h => by cases h⟩
      | some v =>
        cases v with
        | sl xs c =>
          simp only [Option.map_some, V.sh]
          have h2 := ins_set (b := b) (φ := φ) hb o (.cells (cs.set off (.sl xs .lk)))
          rw [show (O.cells (cs.set off (.sl xs .lk))).sh b φ.length = .cells ((cs.map (V.sh b φ.length)).set off (.sl (V.shs b φ.length xs) .lk)) by rw [O.sh, List.map_set]; rfl] at h2
          rw [h2]
          exact lockC_sh (by simpa using hb)
        | _ => exact ⟨rfl, fun _ h => by cases h⟩
theorem openC_sh : ∀ {l : List (Nat × Nat)} {σ : Objs}, b ≤ σ.length → FrO b φ (openC (ins b φ σ) (l.map fun p => (rn b φ.length p.1, p.2))) (openC σ l)
  | [], σ, hb => ⟨rfl, fun _ h => by cases h; exact hb⟩
  | (o, off) :: r, σ, hb => by
    simp only [List.map_cons, openC, oget_sh hb]
    cases Objs.get σ o with
    | none => exact ⟨rfl, fun _ h => by cases h⟩
    | some cs =>
      simp only [Option.map_some, List.getElem?_map]
      cases cs[off]? with
      | none => exact ⟨rfl, fun _ h => by cases h⟩
      | some v =>
        cases v with
        | sl xs c =>
          cases c with
          | lk =>
            simp only [Option.map_some, V.sh]
            have h2 := ins_set (b := b) (φ := φ) hb o (.cells (cs.set off (.sl xs .no)))
            rw [show (O.cells (cs.set off (.sl xs .no))).sh b φ.length = .cells ((cs.map (V.sh b φ.length)).set off (.sl (V.shs b φ.length xs) .no)) by rw [O.sh, List.map_set]; rfl] at h2
            rw [h2]
            exact openC_sh (by simpa using hb)
          | _ => exact ⟨rfl, fun _ h => by cases h⟩
        | _ => exact ⟨rfl, fun _ h => by cases h⟩
theorem cell_sh {l : List Rd} {k : Nat} : (l.map (Rd.sh b k)).filterMap Rd.cell = (l.filterMap Rd.cell).map fun p => (rn b k p.1, p.2) := by
  induction l with
  | nil => rfl
  | cons r l ih => cases r <;> simp [Rd.sh, List.filterMap_cons, Rd.cell, ih]
theorem pastD_sh {past : List Rd} {k n : Nat} : (past.map (Rd.sh b k)).getD n .none = (past.getD n .none).sh b k := by
  simp only [List.getD_eq_getElem?_getD, List.getElem?_map]
  cases past[n]? <;> rfl
theorem drw_sh (hG : GCl G) (hc : FrC b φ call' call) : ∀ {l : List DS}, l.all (fun d => d.s.ins.cl) = true → ∀ {past : List Rd} {ρ : List V} {σ : Objs}, b ≤ σ.length → FrS b φ (evDrw G call' (past.map (Rd.sh b φ.length)) l (ρ.map (V.sh b φ.length)) (ins b φ σ)) (evDrw G call past l ρ σ)
  | [], _, past, ρ, σ, hb => .some hb
  | d :: r, h, past, ρ, σ, hb => by
    simp only [List.all_cons, Bool.and_eq_true] at h
    have hseen : (d.un.map fun k => (past.map (Rd.sh b φ.length)).getD k .none) = (d.un.map fun k => past.getD k .none).map (Rd.sh b φ.length) := by
      rw [List.map_map]
      congr 1
      funext k
      exact pastD_sh
    simp only [evDrw, hseen, cell_sh, wanted_sh, Option.bind_eq_bind]
    obtain ⟨e0, l0⟩ := lockC_sh (φ := φ) (l := (d.un.map fun k => past.getD k .none).filterMap Rd.cell) hb
    rw [e0]
    cases h0 : lockC σ ((d.un.map fun k => past.getD k .none).filterMap Rd.cell) with
    | none => exact .none
    | some σ0 =>
      simp only [Option.map_some, Option.bind_some]
      obtain ⟨e1, l1⟩ := step_sh hG hc h.1 (ρ := ρ) (l0 σ0 h0)
      rw [e1]
      cases h1 : evStep G call d.s ρ σ0 with
      | none => exact .none
      | some p =>
        obtain ⟨ρ', σ1⟩ := p
        simp only [Option.map_some, Option.bind_some]
        obtain ⟨e2, l2⟩ := openC_sh (φ := φ) (l := (d.un.map fun k => past.getD k .none).filterMap Rd.cell) (l1 _ h1)
        rw [e2]
        cases h2 : openC σ1 ((d.un.map fun k => past.getD k .none).filterMap Rd.cell) with
        | none => exact .none
        | some σ' =>
          simp only [Option.map_some, Option.bind_some]
          have hst : ((d.un.map fun k => past.getD k .none).map (Rd.sh b φ.length)).all (stable (ins b φ σ) (ins b φ σ')) = (d.un.map fun k => past.getD k .none).all (stable σ σ') := by
            rw [List.all_map]
            congr 1
            funext r
            exact stable_sh hb (l2 _ h2)
          rw [hst]
          split
          · have hp : (past.map (Rd.sh b φ.length)) ++ [if (wanted ρ d.s.gd).getD false = true then reads (arg G (ρ.map (V.sh b φ.length))) (ins b φ σ) d.s.ins else .none] = (past ++ [if (wanted ρ d.s.gd).getD false = true then reads (arg G ρ) σ d.s.ins else .none]).map (Rd.sh b φ.length) := by
              rw [List.map_append, List.map_singleton, reads_sh hb (fun a ha => arg_sh hG ha) h.1]
              congr 2
              split <;> rfl
            rw [hp]
            exact drw_sh hG hc h.2 (l2 _ h2)
          · exact .none
def FrW (b : Nat) (φ : Objs) : Prop := φ.all (O.rb (b + φ.length)) = true
mutual
theorem rb_le {n m : Nat} (h : n ≤ m) : ∀ {x : V}, V.rb n x = true → V.rb m x = true
  | .ptr o off, hx => by simp [V.rb] at hx ⊢; omega
  | .hs o off len sz ag, hx => by simp [V.rb] at hx ⊢; omega
  | .mp o, hx => by simp [V.rb] at hx ⊢; omega
  | .eptr cs off, hx => rbs_le h (l := cs) hx
  | .sl xs c, hx => rbs_le h (l := xs) hx
  | .agg cs, hx => rbs_le h (l := cs) hx
  | .tup cs, hx => rbs_le h (l := cs) hx
  | .ifc t x, hx => rb_le h (x := x) hx
  | .fn f xs ys, hx => by
    have h' : V.rbs n xs = true ∧ V.rbs n ys = true := by simpa [V.rb] using hx
    simp [V.rb, rbs_le h h'.1, rbs_le h h'.2]
  | .any, _ => rfl | .undef, _ => rfl | .bool x, _ => rfl | .int j n, _ => rfl | .str s, _ => rfl
  | .nilp, _ => rfl | .nils, _ => rfl | .nili, _ => rfl | .nilf, _ => rfl | .nilm, _ => rfl
theorem rbs_le {n m : Nat} (h : n ≤ m) : ∀ {l : List V}, V.rbs n l = true → V.rbs m l = true
  | [], _ => rfl
  | x :: xs, hx => by
    rw [rbs_cons, Bool.and_eq_true] at hx
    rw [rbs_cons, rb_le h hx.1, rbs_le h hx.2]; rfl
end
theorem O.rb_mono {n m : Nat} (h : n ≤ m) {o : O} (ho : o.rb n = true) : o.rb m = true := by
  have hv : ∀ x : V, V.rb n x = true → V.rb m x = true := fun x hx => rb_le h hx
  have hl : ∀ l : List V, V.rbs n l = true → V.rbs m l = true := fun l hx => rbs_le h hx
  cases o with
  | cells cs => exact hl _ ho
  | mp es =>
    simp only [O.rb, Bool.and_eq_true] at ho ⊢
    exact ⟨hl _ ho.1, hl _ ho.2⟩
end
end Go.Ev
set_option linter.unusedSimpArgs false
set_option linter.unusedVariables false
set_option linter.unusedSectionVars false
namespace Go.Ev
open Go
section
variable {b : Nat} {φ : Objs}
theorem take_ins {σ : Objs} {n : Nat} (hb : b ≤ σ.length) (hn : b ≤ n) : (ins b φ σ).take (n + φ.length) = ins b φ (σ.take n) := by
  unfold ins
  rw [List.take_append, List.take_append]
  simp only [List.length_append, List.length_take, List.length_map, List.map_take]
  rw [List.take_take, List.take_take, List.take_of_length_le (l := φ) (by omega), List.drop_take]
  congr 2
  · congr 1; omega
  · omega
theorem fzO_sh {σ : Objs} {n : Nat} (hb : b ≤ σ.length) (hn : b ≤ n) {o : O} : fzO (n + φ.length) (ins b φ σ) (o.sh b φ.length) = (fzO n σ o).map (O.sh b φ.length) := by
  cases o with
  | cells cs =>
    simp only [O.sh, fzO]
    rw [← shs_map, rbs_sh hn]
    split
    · simp only [Option.map_some, O.sh, shs_map]
    · rw [shs_map, mapM_sh fun x => fz_sh hb hn]
      cases cs.mapM (fz n σ fzD) <;> rfl
  | mp es =>
    have h1 : (es.map fun p => (V.sh b φ.length p.1, V.sh b φ.length p.2)).map Prod.fst = V.shs b φ.length (es.map Prod.fst) := by rw [shs_map, List.map_map, List.map_map]; rfl
    have h2 : (es.map fun p => (V.sh b φ.length p.1, V.sh b φ.length p.2)).map Prod.snd = V.shs b φ.length (es.map Prod.snd) := by rw [shs_map, List.map_map, List.map_map]; rfl
    simp only [O.sh, fzO, h1, h2, rbs_sh hn]
    split <;> rfl
theorem mapMO_sh {f g : O → Option O} {k : Nat} (h : ∀ x, g (O.sh b k x) = (f x).map (O.sh b k)) : ∀ {l : List O}, (l.map (O.sh b k)).mapM g = (l.mapM f).map (List.map (O.sh b k))
  | [] => rfl
  | x :: xs => by
    simp only [List.map_cons, List.mapM_cons, h, mapMO_sh h, Option.bind_eq_bind]
    cases f x with
    | none => rfl
    | some y =>
      simp only [Option.map_some, Option.bind_some]
      cases xs.mapM f <;> rfl
theorem mapMO_id {g : O → Option O} : ∀ {l : List O}, (∀ x ∈ l, g x = some x) → l.mapM g = some l
  | [], _ => rfl
  | x :: xs, h => by
    rw [List.mapM_cons, h x (by simp), mapMO_id fun y hy => h y (by simp [hy])]
    rfl
theorem mapM_app {g : O → Option O} {A B : List O} : (A ++ B).mapM g = (A.mapM g).bind fun a => (B.mapM g).bind fun c => some (a ++ c) := by
  rw [List.mapM_append]; rfl
theorem mapM_len {g : O → Option O} : ∀ {A a : List O}, A.mapM g = some a → a.length = A.length
  | [], a, h => by cases h; rfl
  | x :: xs, a, h => by
    simp only [List.mapM_cons, Option.bind_eq_bind, Option.bind_eq_some_iff] at h
    obtain ⟨y, _, ys, hys, he⟩ := h
    cases he
    simp [mapM_len hys]
theorem cutO_sh (hφ : FrW b φ) {σ : Objs} {n : Nat} (hb : b ≤ σ.length) (hn : b ≤ n) : FrO b φ (cuO (n + φ.length) (ins b φ σ)) (cuO n σ) := by
  have hlen : ∀ τ, cuO n σ = some τ → b ≤ τ.length := by
    intro τ h
    have := mapM_len (g := fzO n σ) h
    rw [this, List.length_take]; omega
  refine ⟨?_, hlen⟩
  have hid : φ.mapM (fzO (n + φ.length) (ins b φ σ)) = some φ := by
    refine mapMO_id fun x hx => fzO_rb ?_
    have := List.all_eq_true.1 hφ x hx
    exact O.rb_mono (by omega) this
  unfold cuO
  rw [take_ins hb hn]
  have hτ : b ≤ (σ.take n).length := by rw [List.length_take]; omega
  generalize hgen : σ.take n = τ at hτ
  have h1 := @mapMO_sh b (fzO n σ) (fzO (n + φ.length) (ins b φ σ)) φ.length (fun x => fzO_sh hb hn) τ
  rw [show τ.map (O.sh b φ.length) = (τ.map (O.sh b φ.length)).take b ++ (τ.map (O.sh b φ.length)).drop b from (List.take_append_drop _ _).symm, mapM_app] at h1
  generalize fzO (n + φ.length) (ins b φ σ) = g at h1 hid ⊢
  unfold ins
  rw [mapM_app, mapM_app, hid]
  have hA : ((τ.map (O.sh b φ.length)).take b).length = b := by rw [List.length_take, List.length_map]; omega
  cases ha : ((τ.map (O.sh b φ.length)).take b).mapM g with
  | none =>
    rw [ha] at h1
    simp only [Option.bind_none] at h1 ⊢
    cases ht : τ.mapM (fzO n σ) with
    | none => rfl
    | some t => rw [ht] at h1; cases h1
  | some a =>
    rw [ha] at h1
    simp only [Option.bind_some] at h1 ⊢
    cases hc : ((τ.map (O.sh b φ.length)).drop b).mapM g with
    | none =>
      rw [hc] at h1
      simp only [Option.bind_none] at h1 ⊢
      cases ht : τ.mapM (fzO n σ) with
      | none => rfl
      | some t => rw [ht] at h1; cases h1
    | some c =>
      rw [hc] at h1
      simp only [Option.bind_some] at h1 ⊢
      cases ht : τ.mapM (fzO n σ) with
      | none => rw [ht] at h1; cases h1
      | some t =>
        rw [ht] at h1
        simp only [Option.map_some, Option.some.injEq] at h1
        have hal : a.length = b := (mapM_len ha).trans hA
        rw [Option.map_some, ← h1, ← hal, List.take_left, List.drop_left]
theorem cutSlots_sh {σ : Objs} (hb : b ≤ σ.length) {n : Nat} (hn : b ≤ n) {live : List Nat} : ∀ {ρ : List V} {i : Nat}, cutSlots (n + φ.length) (ins b φ σ) live i (ρ.map (V.sh b φ.length)) = (cutSlots n σ live i ρ).map (List.map (V.sh b φ.length))
  | [], i => rfl
  | x :: xs, i => by
    rw [List.map_cons, s_cons, s_cons, fz_sh hb hn, cutSlots_sh hb hn]
    split
    · cases fz n σ fzD x with
      | none => rfl
      | some y =>
        simp only [Option.map_some, Option.bind_some]
        cases cutSlots n σ live (i + 1) xs <;> rfl
    · simp only [Option.bind_some]
      cases cutSlots n σ live (i + 1) xs <;> rfl
def FrD (b : Nat) (φ : Objs) (x' x : Ran) : Prop := x' = x.map (fun p => (p.1, p.2.1.map (V.sh b φ.length), ins b φ p.2.2)) ∧ ∀ p, x = some p → b ≤ p.2.2.length
theorem FrD.none : FrD b φ none none := ⟨rfl, fun _ h => by cases h⟩
theorem FrD.some {e : Out} {ρ : List V} {σ : Objs} (h : b ≤ σ.length) : FrD b φ (some (e, ρ.map (V.sh b φ.length), ins b φ σ)) (some (e, ρ, σ)) := ⟨rfl, fun _ h' => by cases h'; exact h⟩
def Cd.cl : Cd → Bool
  | .ops _ l => l.all fun s => s.ins.cl
  | .drw _ l => l.all fun d => d.s.ins.cl
  | .seq a c => a.cl && c.cl
  | .cond x a c => x.cl && a.cl && c.cl
  | .block _ c => c.cl
  | .loop _ _ c => c.cl
  | _ => true
theorem loop_sh (hφ : FrW b φ) {lin lout : List Nat} {n : Nat} (hn : b ≤ n) {rd' rd : List V → Objs → Ran} (hrd : ∀ ρ σ, b ≤ σ.length → FrD b φ (rd' (ρ.map (V.sh b φ.length)) (ins b φ σ)) (rd ρ σ)) :
    ∀ {k : Nat} {ρ : List V} {σ : Objs}, b ≤ σ.length → FrD b φ (loopN lin lout (n + φ.length) rd' k (ρ.map (V.sh b φ.length)) (ins b φ σ)) (loopN lin lout n rd k ρ σ)
  | 0, ρ, σ, hb => .none
  | k + 1, ρ, σ, hb => by
    obtain ⟨e1, l1⟩ := hrd ρ σ hb
    unfold loopN
    rw [e1]
    cases hr : rd ρ σ with
    | none => exact .none
    | some p =>
      obtain ⟨e, ρ', σ'⟩ := p
      have hb' : b ≤ σ'.length := l1 _ hr
      have out : ∀ (e : Out), FrD b φ ((cutSlots (n + φ.length) (ins b φ σ') lout 0 (ρ'.map (V.sh b φ.length))).bind fun ρ'' => (cuO (n + φ.length) (ins b φ σ')).bind fun σ'' => Option.some (e, ρ'', σ''))
          ((cutSlots n σ' lout 0 ρ').bind fun ρ'' => (cuO n σ').bind fun σ'' => Option.some (e, ρ'', σ'')) := by
        intro e
        rw [cutSlots_sh hb' hn]
        obtain ⟨e2, l2⟩ := cutO_sh hφ hb' hn
        rw [e2]
        cases cutSlots n σ' lout 0 ρ' with
        | none => exact .none
        | some ρ'' =>
          simp only [Option.map_some, Option.bind_some]
          cases hc : cuO n σ' with
          | none => exact .none
          | some σ'' => exact .some (l2 _ hc)
      cases e with
      | norm =>
        simp only [Option.map_some, Option.bind_eq_bind, cutSlots_sh hb' hn]
        obtain ⟨e2, l2⟩ := cutO_sh hφ hb' hn
        rw [e2]
        cases cutSlots n σ' lin 0 ρ' with
        | none => exact .none
        | some ρ'' =>
          simp only [Option.map_some, Option.bind_some]
          cases hc : cuO n σ' with
          | none => exact .none
          | some σ'' => exact loop_sh hφ hn hrd (l2 _ hc)
      | ex i => exact out (.ex i)
      | ret => exact out .ret
section
variable {G : GV} {call call' : FuncId → List V → Objs → Ro}
theorem cd_sh (hφ : FrW b φ) (hG : GCl G) (hc : FrC b φ call' call) {fuel : Nat} : ∀ {c : Cd}, c.cl = true → ∀ {ρ : List V} {σ : Objs}, b ≤ σ.length → FrD b φ (evCd G call' fuel c (ρ.map (V.sh b φ.length)) (ins b φ σ)) (evCd G call fuel c ρ σ)
  | .skip, _, ρ, σ, hb => .some hb
  | .ret, _, ρ, σ, hb => .some hb
  | .exit id, _, ρ, σ, hb => .some hb
  | .ops _ l, h, ρ, σ, hb => by
    simp only [evCd]
    obtain ⟨e1, l1⟩ := steps_sh hG hc h hb (ρ := ρ)
    rw [e1]
    cases hr : evSteps G call l ρ σ with
    | none => exact .none
    | some p => exact .some (l1 _ hr)
  | .drw _ l, h, ρ, σ, hb => by
    simp only [evCd]
    obtain ⟨e1, l1⟩ := drw_sh hG hc h hb (ρ := ρ) (past := [])
    rw [List.map_nil] at e1
    rw [e1]
    cases hr : evDrw G call [] l ρ σ with
    | none => exact .none
    | some p => exact .some (l1 _ hr)
  | .seq a c, h, ρ, σ, hb => by
    simp only [Cd.cl, Bool.and_eq_true] at h
    simp only [evCd]
    obtain ⟨e1, l1⟩ := cd_sh hφ hG hc (fuel := fuel) h.1 hb (ρ := ρ)
    rw [e1]
    cases hr : evCd G call fuel a ρ σ with
    | none => exact .none
    | some p =>
      obtain ⟨e, ρ', σ'⟩ := p
      have hb' : b ≤ σ'.length := l1 _ hr
      cases e with
      | norm => exact cd_sh hφ hG hc h.2 hb'
      | ex i => exact .some hb'
      | ret => exact .some hb'
  | .cond x a c, h, ρ, σ, hb => by
    simp only [Cd.cl, Bool.and_eq_true] at h
    simp only [evCd, arg_sh hG h.1.1]
    cases arg G ρ x with
    | bool t =>
      cases t with
      | true => exact cd_sh hφ hG hc h.1.2 hb
      | false => exact cd_sh hφ hG hc h.2 hb
    | _ => exact .none
  | .block id c, h, ρ, σ, hb => by
    simp only [evCd]
    obtain ⟨e1, l1⟩ := cd_sh hφ hG hc (fuel := fuel) (c := c) h hb (ρ := ρ)
    rw [e1]
    cases hr : evCd G call fuel c ρ σ with
    | none => exact .none
    | some p =>
      obtain ⟨e, ρ', σ'⟩ := p
      have hb' : b ≤ σ'.length := l1 _ hr
      cases e with
      | norm => exact .some hb'
      | ex i =>
        simp only [Option.map_some]
        split <;> exact .some hb'
      | ret => exact .some hb'
  | .loop lin lout c, h, ρ, σ, hb => by
    simp only [evCd, Option.bind_eq_bind]
    rw [ins_len hb, cutSlots_sh hb hb]
    cases cutSlots σ.length σ lin 0 ρ with
    | none => exact .none
    | some ρ' =>
      simp only [Option.map_some, Option.bind_some]
      exact loop_sh hφ hb (fun ρ1 σ1 hb1 => cd_sh hφ hG hc (c := c) h hb1) hb
theorem resV_sh {ρ : List V} {σ : Objs} (hb : b ≤ σ.length) {r : Res} : resV (ρ.map (V.sh b φ.length)) (ins b φ σ) r = (resV ρ σ r).map (V.sh b φ.length) := by
  cases r with
  | tmp t => simp only [resV, getD_sh, Option.map_some]
  | cell t ag sz =>
    simp only [resV, getD_sh]
    cases ρ.getD t .undef with
    | ptr o off =>
      simp only [V.sh, oget_sh hb, Option.bind_eq_bind]
      cases Objs.get σ o with
      | none => rfl
      | some cs => simp only [Option.map_some, Option.bind_some, part_sh]
    | _ => rfl
theorem resM_sh {ρ : List V} {σ : Objs} (hb : b ≤ σ.length) : ∀ {rs : List Res}, rs.mapM (resV (ρ.map (V.sh b φ.length)) (ins b φ σ)) = (rs.mapM (resV ρ σ)).map (List.map (V.sh b φ.length))
  | [] => rfl
  | r :: rs => by
    simp only [List.mapM_cons, resV_sh hb, resM_sh hb (rs := rs), Option.bind_eq_bind]
    cases resV ρ σ r with
    | none => rfl
    | some x =>
      simp only [Option.map_some, Option.bind_some]
      cases rs.mapM (resV ρ σ) <;> rfl
theorem keep_sh {k : Nat} {keep : Bool} {x : V} : keepIf keep (V.sh b k x) = V.sh b k (keepIf keep x) := by
  cases keep
  · exact nogr_sh
  · rfl
theorem results_sh {ρ : List V} {σ : Objs} (hb : b ≤ σ.length) {keep : Bool} {rs : List Res} : Ev.results keep (ρ.map (V.sh b φ.length)) (ins b φ σ) rs = (Ev.results keep ρ σ rs).map (V.sh b φ.length) := by
  match rs with
  | [] => rfl
  | [r] =>
    simp only [Ev.results, resV_sh hb, Option.bind_eq_bind]
    cases resV ρ σ r with
    | none => rfl
    | some x =>
      simp only [Option.map_some, Option.bind_some, one_sh, agOk_sh, keep_sh]
      split <;> rfl
  | r1 :: r2 :: rs =>
    simp only [Ev.results, resM_sh hb, Option.bind_eq_bind]
    cases (r1 :: r2 :: rs).mapM (resV ρ σ) with
    | none => rfl
    | some xs => simp only [Option.map_some, Option.bind_some, V.sh, shs_map, map_nogr_sh]
theorem fn_sh (hφ : FrW b φ) (hG : GCl G) (hc : FrC b φ call' call) {F : Fn} (hF : F.body.cl = true) (he : F.esc = false) {fuel : Nat} {args : List V} {σ : Objs} (hb : b ≤ σ.length) :
    FrR b φ (evFn G call' F fuel (args.map (V.sh b φ.length)) (ins b φ σ)) (evFn G call F fuel args σ) := by
  have hfin : ∀ (ρ : List V) (σ' : Objs), b ≤ σ'.length → FrR b φ
      ((Ev.results F.keep (ρ.map (V.sh b φ.length)) (ins b φ σ') F.res).bind fun r => (cuO (ins b φ σ).length (ins b φ σ')).bind fun σ'' => (fz (ins b φ σ).length (ins b φ σ') fzD r).bind fun r' => Option.some (r', σ''))
      ((Ev.results F.keep ρ σ' F.res).bind fun r => (cuO σ.length σ').bind fun σ'' => (fz σ.length σ' fzD r).bind fun r' => Option.some (r', σ'')) := by
    intro ρ σ' hb'
    rw [results_sh hb', ins_len hb]
    obtain ⟨e2, l2⟩ := cutO_sh hφ hb' hb
    rw [e2]
    cases Ev.results F.keep ρ σ' F.res with
    | none => exact .none
    | some r =>
      simp only [Option.map_some, Option.bind_some, fz_sh hb' hb]
      cases hcut : cuO σ.length σ' with
      | none => exact .none
      | some σ'' =>
        simp only [Option.map_some, Option.bind_some]
        cases fz σ.length σ' fzD r with
        | none => exact .none
        | some r' => exact .some (l2 _ hcut)
  have hargs : (args.map (V.sh b φ.length)) ++ List.replicate (F.nt - (args.map (V.sh b φ.length)).length) V.undef = (args ++ List.replicate (F.nt - args.length) V.undef).map (V.sh b φ.length) := by
    rw [List.map_append, List.map_replicate, List.length_map]; rfl
  unfold evFn
  simp only [he, Option.bind_eq_bind]
  rw [hargs]
  obtain ⟨e1, l1⟩ := cd_sh hφ hG hc (fuel := fuel) hF hb (ρ := args ++ List.replicate (F.nt - args.length) .undef)
  rw [e1]
  cases hr : evCd G call fuel F.body (args ++ List.replicate (F.nt - args.length) .undef) σ with
  | none => exact .none
  | some p =>
    obtain ⟨e, ρ', σ'⟩ := p
    have hb' : b ≤ σ'.length := l1 _ hr
    simp only [Option.map_some, Option.bind_some]
    cases e with
    | norm => exact hfin ρ' σ' hb'
    | ret => exact hfin ρ' σ' hb'
    | ex i => exact .none
end
structure CtxCl (C : Ctx) : Prop where
  g : GCl C.G
  code : ∀ f F, C.code f = some F → F.body.cl = true ∧ F.esc = false
  prim : ∀ f h, C.prim f = some h → ∀ (b : Nat) (φ : Objs) args σ, b ≤ σ.length → FrR b φ (h (args.map (V.sh b φ.length)) (ins b φ σ)) (h args σ)
theorem ev_sh {C : Ctx} (hC : CtxCl C) (hφ : FrW b φ) : ∀ n, FrC b φ (ev C n) (ev C n)
  | 0 => fun f args σ hb => .none
  | n + 1 => fun f args σ hb => by
    simp only [ev]
    cases hp : C.prim f with
    | some h => exact hC.prim f h hp b φ args σ hb
    | none =>
      simp only
      cases hF : C.code f with
      | none => exact .none
      | some F => exact fn_sh hφ hC.g (ev_sh hC hφ n) (hC.code f F hF).1 (hC.code f F hF).2 hb
theorem E_frame {C : Ctx} (hC : CtxCl C) (hφ : FrW b φ) {f : FuncId} {args : List V} {σ : Objs} (hb : b ≤ σ.length) {r : V} {σ' : Objs} (h : E C f args σ = some (r, σ')) :
    E C f (args.map (V.sh b φ.length)) (ins b φ σ) = some (V.sh b φ.length r, ins b φ σ') := by
  have hesc : ∀ f F, C.code f = some F → F.esc = false := fun f F hF => (hC.code f F hF).2
  obtain ⟨n, hn⟩ := ev_of_E hesc h
  refine E_of_ev hesc (n := n) ?_
  rw [(ev_sh hC hφ n f args σ hb).1, hn]
  rfl
theorem E_any {C : Ctx} (hC : CtxCl C) {f : FuncId} {args : List V} {r : V} (h : E C f args [] = some (r, [])) (ha : V.rbs 0 args = true) (hr : V.rb 0 r = true) (σ : Objs) (hσ : Wf σ) : E C f args σ = some (r, σ) := by
  have h1 := E_frame hC (b := 0) (φ := σ) (by unfold FrW; rw [Nat.zero_add]; exact hσ) (Nat.zero_le _) h
  rw [← shs_map, shs_closed ha, sh_closed hr] at h1
  simpa [ins] using h1
end
end Go.Ev
set_option linter.unusedSimpArgs false
set_option linter.unusedVariables false
namespace Go.Proofs.YtkgkmlhljeidhaaGreatDoor
open Go.Ev
theorem fr_of {h : List V → Objs → Option (V × Objs)} {g : List V → Option V} (hg : ∀ xs σ, h xs σ = (g xs).map fun v => (v, σ)) (hs : ∀ b k xs, g (xs.map (V.sh b k)) = g xs) (hc : ∀ xs v, g xs = some v → V.rb 0 v = true) :
    ∀ (b : Nat) (φ : Objs) (xs : List V) (σ : Objs), b ≤ σ.length → FrR b φ (h (xs.map (V.sh b φ.length)) (ins b φ σ)) (h xs σ) := by
  intro b φ xs σ hb
  rw [hg, hg, hs]
  cases he : g xs with
  | none => exact FrR.none
  | some v =>
    have := FrR.some (φ := φ) (v := v) hb
    rw [sh_closed (hc _ _ he)] at this
    exact this
theorem kinds_sh {b k : Nat} : ∀ (n : Nat) (x : V), kinds n (V.sh b k x) = kinds n x
  | 0, x => by cases x <;> rfl
  | n + 1, x => by
    cases x with
    | ifc t y =>
      cases y with
      | eptr cs o =>
        match cs with
        | [] => rfl
        | [c] => cases c with
          | int j m => cases j <;> rfl
          | _ => rfl
        | [c, d] => cases c with
          | int j m => cases j <;> rfl
          | _ => rfl
        | c :: d :: e :: cs =>
          cases c with
          | int j m =>
            cases j with
            | i64 =>
              cases o with
              | zero =>
                have := kinds_sh (b := b) (k := k) n e
                simp only [V.sh, V.shs, kinds, this]
              | succ o => rfl
            | _ => rfl
          | _ => rfl
      | _ => rfl
    | _ => rfl
def isG : List V → Option V
  | [x, .ifc t (.int .i64 j)] => if t = 38 then (kinds 20 x).map fun l => .bool (decide (j ∈ l)) else none
  | _ => none
theorem isP_fr : ∀ (b : Nat) (φ : Objs) (xs : List V) (σ : Objs), b ≤ σ.length → FrR b φ (isP (xs.map (V.sh b φ.length)) (ins b φ σ)) (isP xs σ) := by
  refine fr_of (g := isG) (fun xs σ => ?_) (fun b k xs => ?_) (fun xs v h => ?_)
  · match xs with
    | [] => rfl
    | [x] => rfl
    | [x, y] =>
      cases y with
      | ifc t z =>
        cases z with
        | int j n =>
          cases j with
          | i64 =>
            simp only [isP, isG]
            split
            · rw [Option.map_map]; rfl
            · rfl
          | _ => rfl
        | _ => rfl
      | _ => rfl
    | _ :: _ :: _ :: _ => simp [isP, isG]
  · match xs with
    | [] => rfl
    | [x] => rfl
    | [x, y] =>
      cases y with
      | ifc t z =>
        cases z with
        | int j n =>
          cases j with
          | i64 => simp only [List.map_cons, List.map_nil, V.sh, isG, kinds_sh]
          | _ => rfl
        | _ => rfl
      | _ => rfl
    | _ :: _ :: _ :: _ => simp [isG]
  · unfold isG at h
    split at h
    · split at h
      · rw [Option.map_eq_some_iff] at h; obtain ⟨l, _, rfl⟩ := h; rfl
      · cases h
    · cases h
end Go.Proofs.YtkgkmlhljeidhaaGreatDoor
set_option linter.unusedSimpArgs false
set_option linter.unusedVariables false
set_option maxRecDepth 100000
namespace Go.Proofs.YtkgkmlhljeidhaaGreatDoor
open Go.Ev
def primAnC (f : FuncId) : Option (List V → Objs → Option (V × Objs)) :=
  if f = 35 then some isP else none
def cx : Ctx := ⟨⟨fun _ => .any, []⟩, codeAnC, primAnC⟩
theorem cx_prim : ∀ f h, cx.prim f = some h → Sound Tryz.prog cx.G f h := by
  intro f h hh
  unfold cx primAnC at hh
  simp only at hh
  split at hh
  · rename_i e; subst e; cases hh; exact isP_sound _
  · cases hh
theorem esc_of {l : List (Nat × Ev.Fn)} (h : l.all (fun p => !p.2.esc) = true) : ∀ f F, lookF l f = some F → F.esc = false := by
  induction l with
  | nil => intro f F hF; cases hF
  | cons p r ih =>
    intro f F hF
    simp only [List.all_cons, Bool.and_eq_true, Bool.not_eq_true'] at h
    unfold lookF at hF
    split at hF
    · cases hF; exact h.1
    · exact ih h.2 f F hF
theorem cx_esc : ∀ f F, cx.code f = some F → F.esc = false := esc_of (l := listAnC) (by kernel_rfl)
theorem cl_of {l : List (Nat × Ev.Fn)} (h : l.all (fun p => p.2.body.cl && !p.2.esc) = true) : ∀ f F, lookF l f = some F → F.body.cl = true ∧ F.esc = false := by
  induction l with
  | nil => intro f F hF; cases hF
  | cons p r ih =>
    intro f F hF
    simp only [List.all_cons, Bool.and_eq_true, Bool.not_eq_true'] at h
    unfold lookF at hF
    split at hF
    · cases hF; exact h.1
    · exact ih (by simpa using h.2) f F hF
theorem cx_cl : CtxCl cx := by
  refine ⟨fun n => rfl, cl_of (l := listAnC) (by kernel_rfl), ?_⟩
  intro f h hh
  unfold cx primAnC at hh
  simp only at hh
  split at hh
  · cases hh; exact isP_fr
  · cases hh
end Go.Proofs.YtkgkmlhljeidhaaGreatDoor
set_option linter.unusedSimpArgs false
set_option linter.unusedVariables false
set_option maxRecDepth 100000
namespace Go.Proofs.YtkgkmlhljeidhaaGreatDoor
open Go.Ev
theorem e_Zw (a0 a1 a2 a3 : V) (σ : Objs) : E cx 4 [a0, a1, a2, a3] σ = s_Zw (Mi cx) a0 a1 a2 a3 σ := (E_fn (F := c_Zw) (by kernel_rfl) (by kernel_rfl) _ _).trans (k_Zw ..)
theorem e_Zx (a0 : V) (σ : Objs) : E cx 12 [a0] σ = s_Zx (Mi cx) a0 σ := (E_fn (F := c_Zx) (by kernel_rfl) (by kernel_rfl) _ _).trans (k_Zx ..)
theorem u_Zx_0 (n0 : Nat) (n1 : Nat) (z0 z3 : V) (σ : Objs) : l_Zx_0 (Mi cx) n0 n1 [z0, z3] σ = b_Zx_0 (Mi cx) n0 n1 (l_Zx_0 (Mi cx) n0 n1) z0 z3 σ :=
  loop_at cx (seek (Mi cx) 17 [] [true, true] c_Zx.body (topK c_Zx n0)) n1 (B := fun rec vs σ => b_Zx_0 (Mi cx) n0 n1 rec (vs.getD 0 .undef) (vs.getD 1 .undef) σ) (by kernel_rfl) (by kernel_rfl) _ _
theorem e_Z1k (a0 : V) (σ : Objs) : E cx 14 [a0] σ = s_Z1k (Mi cx) a0 σ := (E_fn (F := c_Z1k) (by kernel_rfl) (by kernel_rfl) _ _).trans (k_Z1k ..)
theorem e_Za (a0 : V) (σ : Objs) : E cx 13 [a0] σ = s_Za (Mi cx) a0 σ := (E_fn (F := c_Za) (by kernel_rfl) (by kernel_rfl) _ _).trans (k_Za ..)
theorem e_Zb (a0 : V) (σ : Objs) : E cx 15 [a0] σ = s_Zb (Mi cx) a0 σ := (E_fn (F := c_Zb) (by kernel_rfl) (by kernel_rfl) _ _).trans (k_Zb ..)
theorem u_Zb_0 (n0 : Nat) (n1 : Nat) (z0 z5 z6 z23 z24 z25 : V) (σ : Objs) : l_Zb_0 (Mi cx) n0 n1 [z0, z5, z6, z23, z24, z25] σ = b_Zb_0 (Mi cx) n0 n1 (l_Zb_0 (Mi cx) n0 n1) z0 z5 z6 z23 z24 z25 σ :=
  loop_at cx (seek (Mi cx) 53 [] [true, true, true, true, false, true] c_Zb.body (topK c_Zb n0)) n1 (B := fun rec vs σ => b_Zb_0 (Mi cx) n0 n1 rec (vs.getD 0 .undef) (vs.getD 1 .undef) (vs.getD 2 .undef) (vs.getD 3 .undef) (vs.getD 4 .undef) (vs.getD 5 .undef) σ) (by kernel_rfl) (by kernel_rfl) _ _
theorem e_Zz (a0 : V) (σ : Objs) : E cx 32 [a0] σ = s_Zz (Mi cx) a0 σ := (E_fn (F := c_Zz) (by kernel_rfl) (by kernel_rfl) _ _).trans (k_Zz ..)
theorem u_Zz_0 (n0 : Nat) (n1 : Nat) (z0 z3 z4 : V) (σ : Objs) : l_Zz_0 (Mi cx) n0 n1 [z0, z3, z4] σ = b_Zz_0 (Mi cx) n0 n1 (l_Zz_0 (Mi cx) n0 n1) z0 z3 z4 σ :=
  loop_at cx (seek (Mi cx) 32 [] [true, true, false] c_Zz.body (topK c_Zz n0)) n1 (B := fun rec vs σ => b_Zz_0 (Mi cx) n0 n1 rec (vs.getD 0 .undef) (vs.getD 1 .undef) (vs.getD 2 .undef) σ) (by kernel_rfl) (by kernel_rfl) _ _
theorem e_Z11 (a0 : V) (σ : Objs) : E cx 31 [a0] σ = s_Z11 (Mi cx) a0 σ := (E_fn (F := c_Z11) (by kernel_rfl) (by kernel_rfl) _ _).trans (k_Z11 ..)
theorem u_Z11_0 (n0 : Nat) (n1 : Nat) (z0 z3 z4 : V) (σ : Objs) : l_Z11_0 (Mi cx) n0 n1 [z0, z3, z4] σ = b_Z11_0 (Mi cx) n0 n1 (l_Z11_0 (Mi cx) n0 n1) z0 z3 z4 σ :=
  loop_at cx (seek (Mi cx) 52 [] [true, true, false, true] c_Z11.body (topK c_Z11 n0)) n1 (B := fun rec vs σ => b_Z11_0 (Mi cx) n0 n1 rec (vs.getD 0 .undef) (vs.getD 1 .undef) (vs.getD 2 .undef) σ) (by kernel_rfl) (by kernel_rfl) _ _
theorem e_Z1g (a0 : V) (σ : Objs) : E cx 30 [a0] σ = s_Z1g (Mi cx) a0 σ := (E_fn (F := c_Z1g) (by kernel_rfl) (by kernel_rfl) _ _).trans (k_Z1g ..)
theorem u_Z1g_0 (n0 : Nat) (n1 : Nat) (z0 z3 z4 : V) (σ : Objs) : l_Z1g_0 (Mi cx) n0 n1 [z0, z3, z4] σ = b_Z1g_0 (Mi cx) n0 n1 (l_Z1g_0 (Mi cx) n0 n1) z0 z3 z4 σ :=
  loop_at cx (seek (Mi cx) 20 [] [true, true] c_Z1g.body (topK c_Z1g n0)) n1 (B := fun rec vs σ => b_Z1g_0 (Mi cx) n0 n1 rec (vs.getD 0 .undef) (vs.getD 1 .undef) (vs.getD 2 .undef) σ) (by kernel_rfl) (by kernel_rfl) _ _
theorem e_Z5 (a0 a1 : V) (σ : Objs) : E cx 25 [a0, a1] σ = s_Z5 (Mi cx) a0 a1 σ := (E_fn (F := c_Z5) (by kernel_rfl) (by kernel_rfl) _ _).trans (k_Z5 ..)
theorem u_Z5_0 (n0 : Nat) (n1 : Nat) (z0 z1 : V) (σ : Objs) : l_Z5_0 (Mi cx) n0 n1 [z0, z1] σ = b_Z5_0 (Mi cx) n0 n1 (l_Z5_0 (Mi cx) n0 n1) z0 z1 σ :=
  loop_at cx (seek (Mi cx) 13 [] [true, false] c_Z5.body (topK c_Z5 n0)) n1 (B := fun rec vs σ => b_Z5_0 (Mi cx) n0 n1 rec (vs.getD 0 .undef) (vs.getD 1 .undef) σ) (by kernel_rfl) (by kernel_rfl) _ _
theorem e_Z1 (a0 : V) (σ : Objs) : E cx 26 [a0] σ = s_Z1 (Mi cx) a0 σ := (E_fn (F := c_Z1) (by kernel_rfl) (by kernel_rfl) _ _).trans (k_Z1 ..)
theorem e_Z2 (a0 : V) (σ : Objs) : E cx 27 [a0] σ = s_Z2 (Mi cx) a0 σ := (E_fn (F := c_Z2) (by kernel_rfl) (by kernel_rfl) _ _).trans (k_Z2 ..)
theorem e_Z0 (a0 a1 : V) (σ : Objs) : E cx 28 [a0, a1] σ = s_Z0 (Mi cx) a0 a1 σ := (E_fn (F := c_Z0) (by kernel_rfl) (by kernel_rfl) _ _).trans (k_Z0 ..)
theorem e_Zf (a0 a1 : V) (σ : Objs) : E cx 29 [a0, a1] σ = s_Zf (Mi cx) a0 a1 σ := (E_fn (F := c_Zf) (by kernel_rfl) (by kernel_rfl) _ _).trans (k_Zf ..)
theorem e_Zp (a0 a1 : V) (σ : Objs) : E cx 33 [a0, a1] σ = s_Zp (Mi cx) a0 a1 σ := (E_fn (F := c_Zp) (by kernel_rfl) (by kernel_rfl) _ _).trans (k_Zp ..)
theorem e_Zg (a0 : V) (σ : Objs) : E cx 34 [a0] σ = s_Zg (Mi cx) a0 σ := (E_fn (F := c_Zg) (by kernel_rfl) (by kernel_rfl) _ _).trans (k_Zg ..)
theorem e_Z19 (a0 : V) (σ : Objs) : E cx 38 [a0] σ = s_Z19 (Mi cx) a0 σ := (E_fn (F := c_Z19) (by kernel_rfl) (by kernel_rfl) _ _).trans (k_Z19 ..)
theorem e_Z10 (a0 a1 : V) (σ : Objs) : E cx 52 [a0, a1] σ = s_Z10 (Mi cx) a0 a1 σ := (E_fn (F := c_Z10) (by kernel_rfl) (by kernel_rfl) _ _).trans (k_Z10 ..)
theorem u_Z10_1 (n0 : Nat) (n1 : Nat) (z0 z1 z7 : V) (σ : Objs) : l_Z10_1 (Mi cx) n0 n1 [z0, z1, z7] σ = b_Z10_1 (Mi cx) n0 n1 (l_Z10_1 (Mi cx) n0 n1) z0 z1 z7 σ :=
  loop_at cx (seek (Mi cx) 55 [] [true, true, false, true] c_Z10.body (topK c_Z10 n0)) n1 (B := fun rec vs σ => b_Z10_1 (Mi cx) n0 n1 rec (vs.getD 0 .undef) (vs.getD 1 .undef) (vs.getD 2 .undef) σ) (by kernel_rfl) (by kernel_rfl) _ _
theorem u_Z10_0 (n0 : Nat) (n1 : Nat) (z0 z1 z6 : V) (σ : Objs) : l_Z10_0 (Mi cx) n0 n1 [z0, z1, z6] σ = b_Z10_0 (Mi cx) n0 n1 (l_Z10_0 (Mi cx) n0 n1) z0 z1 z6 σ :=
  loop_at cx (seek (Mi cx) 55 [] [true, false, true] c_Z10.body (topK c_Z10 n0)) n1 (B := fun rec vs σ => b_Z10_0 (Mi cx) n0 n1 rec (vs.getD 0 .undef) (vs.getD 1 .undef) (vs.getD 2 .undef) σ) (by kernel_rfl) (by kernel_rfl) _ _
theorem e_Z13 (a0 : V) (σ : Objs) : E cx 51 [a0] σ = s_Z13 (Mi cx) a0 σ := (E_fn (F := c_Z13) (by kernel_rfl) (by kernel_rfl) _ _).trans (k_Z13 ..)
theorem e_Z1j (a0 a1 : V) (σ : Objs) : E cx 50 [a0, a1] σ = s_Z1j (Mi cx) a0 a1 σ := (E_fn (F := c_Z1j) (by kernel_rfl) (by kernel_rfl) _ _).trans (k_Z1j ..)
theorem u_Z1j_0 (n0 : Nat) (n1 : Nat) (z0 z4 z5 z7 : V) (σ : Objs) : l_Z1j_0 (Mi cx) n0 n1 [z0, z4, z5, z7] σ = b_Z1j_0 (Mi cx) n0 n1 (l_Z1j_0 (Mi cx) n0 n1) z0 z4 z5 z7 σ :=
  loop_at cx (seek (Mi cx) 192 [] [true, true, true, true, true, true, false, true, false, true, false] c_Z1j.body (topK c_Z1j n0)) n1 (B := fun rec vs σ => b_Z1j_0 (Mi cx) n0 n1 rec (vs.getD 0 .undef) (vs.getD 1 .undef) (vs.getD 2 .undef) (vs.getD 3 .undef) σ) (by kernel_rfl) (by kernel_rfl) _ _
theorem u_Z1j_1 (n0 : Nat) (n1 : Nat) (z0 z4 z5 z6 z12 z13 z14 : V) (σ : Objs) : l_Z1j_1 (Mi cx) n0 n1 [z0, z4, z5, z6, z12, z13, z14] σ = b_Z1j_1 (Mi cx) n0 n1 (l_Z1j_1 (Mi cx) n0 n1) z0 z4 z5 z6 z12 z13 z14 σ :=
  loop_at cx (seek (Mi cx) 192 [] [true, true, true, true, true, true, true, true, true, true, true, true, true, true, true, false, true] c_Z1j.body (topK c_Z1j n0)) n1 (B := fun rec vs σ => b_Z1j_1 (Mi cx) n0 n1 rec (vs.getD 0 .undef) (vs.getD 1 .undef) (vs.getD 2 .undef) (vs.getD 3 .undef) (vs.getD 4 .undef) (vs.getD 5 .undef) (vs.getD 6 .undef) σ) (by kernel_rfl) (by kernel_rfl) _ _
theorem e_Z3 (a0 a1 : V) (σ : Objs) : E cx 41 [a0, a1] σ = s_Z3 (Mi cx) a0 a1 σ := (E_fn (F := c_Z3) (by kernel_rfl) (by kernel_rfl) _ _).trans (k_Z3 ..)
theorem e_Zi (a0 a1 : V) (σ : Objs) : E cx 42 [a0, a1] σ = s_Zi (Mi cx) a0 a1 σ := (E_fn (F := c_Zi) (by kernel_rfl) (by kernel_rfl) _ _).trans (k_Zi ..)
theorem e_Z7 (a0 a1 : V) (σ : Objs) : E cx 43 [a0, a1] σ = s_Z7 (Mi cx) a0 a1 σ := (E_fn (F := c_Z7) (by kernel_rfl) (by kernel_rfl) _ _).trans (k_Z7 ..)
theorem e_Zh (a0 : V) (σ : Objs) : E cx 44 [a0] σ = s_Zh (Mi cx) a0 σ := (E_fn (F := c_Zh) (by kernel_rfl) (by kernel_rfl) _ _).trans (k_Zh ..)
theorem u_Zh_0 (n0 : Nat) (n1 : Nat) (z3 z8 z9 z10 : V) (σ : Objs) : l_Zh_0 (Mi cx) n0 n1 [z3, z8, z9, z10] σ = b_Zh_0 (Mi cx) n0 n1 (l_Zh_0 (Mi cx) n0 n1) z3 z8 z9 z10 σ :=
  loop_at cx (seek (Mi cx) 25 [] [true, true, false, true] c_Zh.body (topK c_Zh n0)) n1 (B := fun rec vs σ => b_Zh_0 (Mi cx) n0 n1 rec (vs.getD 0 .undef) (vs.getD 1 .undef) (vs.getD 2 .undef) (vs.getD 3 .undef) σ) (by kernel_rfl) (by kernel_rfl) _ _
theorem e_Zn (a0 a1 : V) (σ : Objs) : E cx 45 [a0, a1] σ = s_Zn (Mi cx) a0 a1 σ := (E_fn (F := c_Zn) (by kernel_rfl) (by kernel_rfl) _ _).trans (k_Zn ..)
theorem e_Zo (a0 a1 : V) (σ : Objs) : E cx 46 [a0, a1] σ = s_Zo (Mi cx) a0 a1 σ := (E_fn (F := c_Zo) (by kernel_rfl) (by kernel_rfl) _ _).trans (k_Zo ..)
theorem e_Z6 (a0 : V) (σ : Objs) : E cx 47 [a0] σ = s_Z6 (Mi cx) a0 σ := (E_fn (F := c_Z6) (by kernel_rfl) (by kernel_rfl) _ _).trans (k_Z6 ..)
theorem e_Z4 (a0 a1 a2 : V) (σ : Objs) : E cx 48 [a0, a1, a2] σ = s_Z4 (Mi cx) a0 a1 a2 σ := (E_fn (F := c_Z4) (by kernel_rfl) (by kernel_rfl) _ _).trans (k_Z4 ..)
theorem e_Ze (a0 : V) (σ : Objs) : E cx 49 [a0] σ = s_Ze (Mi cx) a0 σ := (E_fn (F := c_Ze) (by kernel_rfl) (by kernel_rfl) _ _).trans (k_Ze ..)
theorem e_Zr (a0 a1 : V) (σ : Objs) : E cx 55 [a0, a1] σ = s_Zr (Mi cx) a0 a1 σ := (E_fn (F := c_Zr) (by kernel_rfl) (by kernel_rfl) _ _).trans (k_Zr ..)
theorem u_Zr_0 (n0 : Nat) (n1 : Nat) (z0 z1 : V) (σ : Objs) : l_Zr_0 (Mi cx) n0 n1 [z0, z1] σ = b_Zr_0 (Mi cx) n0 n1 (l_Zr_0 (Mi cx) n0 n1) z0 z1 σ :=
  loop_at cx (seek (Mi cx) 16 [] [true, false] c_Zr.body (topK c_Zr n0)) n1 (B := fun rec vs σ => b_Zr_0 (Mi cx) n0 n1 rec (vs.getD 0 .undef) (vs.getD 1 .undef) σ) (by kernel_rfl) (by kernel_rfl) _ _
theorem e_Z1b (a0 : V) (σ : Objs) : E cx 60 [a0] σ = s_Z1b (Mi cx) a0 σ := (E_fn (F := c_Z1b) (by kernel_rfl) (by kernel_rfl) _ _).trans (k_Z1b ..)
theorem u_Z1b_0 (n0 : Nat) (n1 : Nat) (z0 z3 z4 : V) (σ : Objs) : l_Z1b_0 (Mi cx) n0 n1 [z0, z3, z4] σ = b_Z1b_0 (Mi cx) n0 n1 (l_Z1b_0 (Mi cx) n0 n1) z0 z3 z4 σ :=
  loop_at cx (seek (Mi cx) 23 [] [true, true, false, true] c_Z1b.body (topK c_Z1b n0)) n1 (B := fun rec vs σ => b_Z1b_0 (Mi cx) n0 n1 rec (vs.getD 0 .undef) (vs.getD 1 .undef) (vs.getD 2 .undef) σ) (by kernel_rfl) (by kernel_rfl) _ _
theorem e_Z18 (a0 : V) (σ : Objs) : E cx 86 [a0] σ = s_Z18 (Mi cx) a0 σ := (E_fn (F := c_Z18) (by kernel_rfl) (by kernel_rfl) _ _).trans (k_Z18 ..)
theorem e_Z17 (a0 : V) (σ : Objs) : E cx 87 [a0] σ = s_Z17 (Mi cx) a0 σ := (E_fn (F := c_Z17) (by kernel_rfl) (by kernel_rfl) _ _).trans (k_Z17 ..)
theorem u_Z17_0 (n0 : Nat) (n1 : Nat) (z0 z4 z5 : V) (σ : Objs) : l_Z17_0 (Mi cx) n0 n1 [z0, z4, z5] σ = b_Z17_0 (Mi cx) n0 n1 (l_Z17_0 (Mi cx) n0 n1) z0 z4 z5 σ :=
  loop_at cx (seek (Mi cx) 33 [] [true, true, true, false, true] c_Z17.body (topK c_Z17 n0)) n1 (B := fun rec vs σ => b_Z17_0 (Mi cx) n0 n1 rec (vs.getD 0 .undef) (vs.getD 1 .undef) (vs.getD 2 .undef) σ) (by kernel_rfl) (by kernel_rfl) _ _
theorem e_Z15 (a0 : V) (σ : Objs) : E cx 88 [a0] σ = s_Z15 (Mi cx) a0 σ := (E_fn (F := c_Z15) (by kernel_rfl) (by kernel_rfl) _ _).trans (k_Z15 ..)
theorem u_Z15_0 (n0 : Nat) (n1 : Nat) (z0 z3 : V) (σ : Objs) : l_Z15_0 (Mi cx) n0 n1 [z0, z3] σ = b_Z15_0 (Mi cx) n0 n1 (l_Z15_0 (Mi cx) n0 n1) z0 z3 σ :=
  loop_at cx (seek (Mi cx) 21 [] [true, false, true] c_Z15.body (topK c_Z15 n0)) n1 (B := fun rec vs σ => b_Z15_0 (Mi cx) n0 n1 rec (vs.getD 0 .undef) (vs.getD 1 .undef) σ) (by kernel_rfl) (by kernel_rfl) _ _
theorem e_Z1m (a0 a1 : V) (σ : Objs) : E cx 73 [a0, a1] σ = s_Z1m (Mi cx) a0 a1 σ := (E_fn (F := c_Z1m) (by kernel_rfl) (by kernel_rfl) _ _).trans (k_Z1m ..)
theorem u_Z1m_1 (n0 : Nat) (n1 : Nat) (r1 : Rk) (n2 : Nat) (z0 z1 : V) (σ : Objs) : l_Z1m_1 (Mi cx) n0 n1 r1 n2 [z0, z1] σ = b_Z1m_1 (Mi cx) n0 n1 r1 n2 (l_Z1m_1 (Mi cx) n0 n1 r1 n2) z0 z1 σ :=
  loop_at cx (seek (Mi cx) 43 [(n1, r1)] [true, false, true, true, false] c_Z1m.body (topK c_Z1m n0)) n2 (B := fun rec vs σ => b_Z1m_1 (Mi cx) n0 n1 r1 n2 rec (vs.getD 0 .undef) (vs.getD 1 .undef) σ) (by kernel_rfl) (by kernel_rfl) _ _
theorem u_Z1m_0 (n0 : Nat) (n1 : Nat) (z0 z1 : V) (σ : Objs) : l_Z1m_0 (Mi cx) n0 n1 [z0, z1] σ = b_Z1m_0 (Mi cx) n0 n1 (l_Z1m_0 (Mi cx) n0 n1) z0 z1 σ :=
  loop_at cx (seek (Mi cx) 43 [] [true, false] c_Z1m.body (topK c_Z1m n0)) n1 (B := fun rec vs σ => b_Z1m_0 (Mi cx) n0 n1 rec (vs.getD 0 .undef) (vs.getD 1 .undef) σ) (by kernel_rfl) (by kernel_rfl) _ _
theorem e_Z1e (a0 : V) (σ : Objs) : E cx 74 [a0] σ = s_Z1e (Mi cx) a0 σ := (E_fn (F := c_Z1e) (by kernel_rfl) (by kernel_rfl) _ _).trans (k_Z1e ..)
theorem e_Z1y (a0 a1 : V) (σ : Objs) : E cx 75 [a0, a1] σ = s_Z1y (Mi cx) a0 a1 σ := (E_fn (F := c_Z1y) (by kernel_rfl) (by kernel_rfl) _ _).trans (k_Z1y ..)
theorem e_Z1w (a0 a1 : V) (σ : Objs) : E cx 76 [a0, a1] σ = s_Z1w (Mi cx) a0 a1 σ := (E_fn (F := c_Z1w) (by kernel_rfl) (by kernel_rfl) _ _).trans (k_Z1w ..)
theorem u_Z1w_0 (n0 : Nat) (n1 : Nat) (z0 z1 z4 z5 z6 z7 z8 : V) (σ : Objs) : l_Z1w_0 (Mi cx) n0 n1 [z0, z1, z4, z5, z6, z7, z8] σ = b_Z1w_0 (Mi cx) n0 n1 (l_Z1w_0 (Mi cx) n0 n1) z0 z1 z4 z5 z6 z7 z8 σ :=
  loop_at cx (seek (Mi cx) 93 [] [true, true, false] c_Z1w.body (topK c_Z1w n0)) n1 (B := fun rec vs σ => b_Z1w_0 (Mi cx) n0 n1 rec (vs.getD 0 .undef) (vs.getD 1 .undef) (vs.getD 2 .undef) (vs.getD 3 .undef) (vs.getD 4 .undef) (vs.getD 5 .undef) (vs.getD 6 .undef) σ) (by kernel_rfl) (by kernel_rfl) _ _
theorem e_Z1u (a0 a1 : V) (σ : Objs) : E cx 77 [a0, a1] σ = s_Z1u (Mi cx) a0 a1 σ := (E_fn (F := c_Z1u) (by kernel_rfl) (by kernel_rfl) _ _).trans (k_Z1u ..)
theorem e_Z1v (a0 a1 : V) (σ : Objs) : E cx 78 [a0, a1] σ = s_Z1v (Mi cx) a0 a1 σ := (E_fn (F := c_Z1v) (by kernel_rfl) (by kernel_rfl) _ _).trans (k_Z1v ..)
theorem e_Z1s (a0 a1 a2 : V) (σ : Objs) : E cx 79 [a0, a1, a2] σ = s_Z1s (Mi cx) a0 a1 a2 σ := (E_fn (F := c_Z1s) (by kernel_rfl) (by kernel_rfl) _ _).trans (k_Z1s ..)
theorem e_Z1i (a0 a1 : V) (σ : Objs) : E cx 80 [a0, a1] σ = s_Z1i (Mi cx) a0 a1 σ := (E_fn (F := c_Z1i) (by kernel_rfl) (by kernel_rfl) _ _).trans (k_Z1i ..)
theorem e_Z1n (a0 a1 : V) (σ : Objs) : E cx 81 [a0, a1] σ = s_Z1n (Mi cx) a0 a1 σ := (E_fn (F := c_Z1n) (by kernel_rfl) (by kernel_rfl) _ _).trans (k_Z1n ..)
theorem u_Z1n_0 (n0 : Nat) (n1 : Nat) (z0 z1 z4 z5 z6 z7 : V) (σ : Objs) : l_Z1n_0 (Mi cx) n0 n1 [z0, z1, z4, z5, z6, z7] σ = b_Z1n_0 (Mi cx) n0 n1 (l_Z1n_0 (Mi cx) n0 n1) z0 z1 z4 z5 z6 z7 σ :=
  loop_at cx (seek (Mi cx) 53 [] [true, true, true, true, false] c_Z1n.body (topK c_Z1n n0)) n1 (B := fun rec vs σ => b_Z1n_0 (Mi cx) n0 n1 rec (vs.getD 0 .undef) (vs.getD 1 .undef) (vs.getD 2 .undef) (vs.getD 3 .undef) (vs.getD 4 .undef) (vs.getD 5 .undef) σ) (by kernel_rfl) (by kernel_rfl) _ _
theorem e_Z1t (a0 a1 : V) (σ : Objs) : E cx 82 [a0, a1] σ = s_Z1t (Mi cx) a0 a1 σ := (E_fn (F := c_Z1t) (by kernel_rfl) (by kernel_rfl) _ _).trans (k_Z1t ..)
theorem u_Z1t_0 (n0 : Nat) (n1 : Nat) (z0 z1 z6 : V) (σ : Objs) : l_Z1t_0 (Mi cx) n0 n1 [z0, z1, z6] σ = b_Z1t_0 (Mi cx) n0 n1 (l_Z1t_0 (Mi cx) n0 n1) z0 z1 z6 σ :=
  loop_at cx (seek (Mi cx) 39 [] [true, true] c_Z1t.body (topK c_Z1t n0)) n1 (B := fun rec vs σ => b_Z1t_0 (Mi cx) n0 n1 rec (vs.getD 0 .undef) (vs.getD 1 .undef) (vs.getD 2 .undef) σ) (by kernel_rfl) (by kernel_rfl) _ _
theorem e_Z1r (a0 a1 : V) (σ : Objs) : E cx 83 [a0, a1] σ = s_Z1r (Mi cx) a0 a1 σ := (E_fn (F := c_Z1r) (by kernel_rfl) (by kernel_rfl) _ _).trans (k_Z1r ..)
theorem e_Z1h (a0 a1 : V) (σ : Objs) : E cx 84 [a0, a1] σ = s_Z1h (Mi cx) a0 a1 σ := (E_fn (F := c_Z1h) (by kernel_rfl) (by kernel_rfl) _ _).trans (k_Z1h ..)
theorem e_Z20 (a0 : V) (σ : Objs) : E cx 85 [a0] σ = s_Z20 (Mi cx) a0 σ := (E_fn (F := c_Z20) (by kernel_rfl) (by kernel_rfl) _ _).trans (k_Z20 ..)
theorem u_Z20_0 (n0 : Nat) (n1 : Nat) (z0 z3 z4 : V) (σ : Objs) : l_Z20_0 (Mi cx) n0 n1 [z0, z3, z4] σ = b_Z20_0 (Mi cx) n0 n1 (l_Z20_0 (Mi cx) n0 n1) z0 z3 z4 σ :=
  loop_at cx (seek (Mi cx) 30 [] [true, true, false, true] c_Z20.body (topK c_Z20 n0)) n1 (B := fun rec vs σ => b_Z20_0 (Mi cx) n0 n1 rec (vs.getD 0 .undef) (vs.getD 1 .undef) (vs.getD 2 .undef) σ) (by kernel_rfl) (by kernel_rfl) _ _
theorem e_Zj (a0 : V) (σ : Objs) : E cx 70 [a0] σ = s_Zj (Mi cx) a0 σ := (E_fn (F := c_Zj) (by kernel_rfl) (by kernel_rfl) _ _).trans (k_Zj ..)
theorem e_Zk (a0 a1 : V) (σ : Objs) : E cx 71 [a0, a1] σ = s_Zk (Mi cx) a0 a1 σ := (E_fn (F := c_Zk) (by kernel_rfl) (by kernel_rfl) _ _).trans (k_Zk ..)
theorem e_Zl (a0 a1 : V) (σ : Objs) : E cx 72 [a0, a1] σ = s_Zl (Mi cx) a0 a1 σ := (E_fn (F := c_Zl) (by kernel_rfl) (by kernel_rfl) _ _).trans (k_Zl ..)
theorem e_Z8 (a0 a1 : V) (σ : Objs) : E cx 89 [a0, a1] σ = s_Z8 (Mi cx) a0 a1 σ := (E_fn (F := c_Z8) (by kernel_rfl) (by kernel_rfl) _ _).trans (k_Z8 ..)
theorem e_Z1d (a0 : V) (σ : Objs) : E cx 92 [a0] σ = s_Z1d (Mi cx) a0 σ := (E_fn (F := c_Z1d) (by kernel_rfl) (by kernel_rfl) _ _).trans (k_Z1d ..)
theorem e_Z12 (a0 : V) (σ : Objs) : E cx 103 [a0] σ = s_Z12 (Mi cx) a0 σ := (E_fn (F := c_Z12) (by kernel_rfl) (by kernel_rfl) _ _).trans (k_Z12 ..)
theorem e_Z16 (a0 a1 a2 : V) (σ : Objs) : E cx 104 [a0, a1, a2] σ = s_Z16 (Mi cx) a0 a1 a2 σ := (E_fn (F := c_Z16) (by kernel_rfl) (by kernel_rfl) _ _).trans (k_Z16 ..)
theorem u_Z16_0 (n0 : Nat) (n1 : Nat) (z1 z2 z7 : V) (σ : Objs) : l_Z16_0 (Mi cx) n0 n1 [z1, z2, z7] σ = b_Z16_0 (Mi cx) n0 n1 (l_Z16_0 (Mi cx) n0 n1) z1 z2 z7 σ :=
  loop_at cx (seek (Mi cx) 20 [] [true, true, false] c_Z16.body (topK c_Z16 n0)) n1 (B := fun rec vs σ => b_Z16_0 (Mi cx) n0 n1 rec (vs.getD 0 .undef) (vs.getD 1 .undef) (vs.getD 2 .undef) σ) (by kernel_rfl) (by kernel_rfl) _ _
theorem e_Z1l (a0 a1 : V) (σ : Objs) : E cx 96 [a0, a1] σ = s_Z1l (Mi cx) a0 a1 σ := (E_fn (F := c_Z1l) (by kernel_rfl) (by kernel_rfl) _ _).trans (k_Z1l ..)
theorem u_Z1l_0 (n0 : Nat) (n1 : Nat) (z0 z1 z6 z7 : V) (σ : Objs) : l_Z1l_0 (Mi cx) n0 n1 [z0, z1, z6, z7] σ = b_Z1l_0 (Mi cx) n0 n1 (l_Z1l_0 (Mi cx) n0 n1) z0 z1 z6 z7 σ :=
  loop_at cx (seek (Mi cx) 67 [] [true, true, true, false] c_Z1l.body (topK c_Z1l n0)) n1 (B := fun rec vs σ => b_Z1l_0 (Mi cx) n0 n1 rec (vs.getD 0 .undef) (vs.getD 1 .undef) (vs.getD 2 .undef) (vs.getD 3 .undef) σ) (by kernel_rfl) (by kernel_rfl) _ _
theorem e_Z1o (a0 a1 : V) (σ : Objs) : E cx 97 [a0, a1] σ = s_Z1o (Mi cx) a0 a1 σ := (E_fn (F := c_Z1o) (by kernel_rfl) (by kernel_rfl) _ _).trans (k_Z1o ..)
theorem e_Z1p (a0 a1 : V) (σ : Objs) : E cx 98 [a0, a1] σ = s_Z1p (Mi cx) a0 a1 σ := (E_fn (F := c_Z1p) (by kernel_rfl) (by kernel_rfl) _ _).trans (k_Z1p ..)
theorem u_Z1p_1 (n0 : Nat) (n1 : Nat) (z0 z1 z6 : V) (σ : Objs) : l_Z1p_1 (Mi cx) n0 n1 [z0, z1, z6] σ = b_Z1p_1 (Mi cx) n0 n1 (l_Z1p_1 (Mi cx) n0 n1) z0 z1 z6 σ :=
  loop_at cx (seek (Mi cx) 70 [] [true, true, true, true, true, false, true, false, true, true, true, false, true, true] c_Z1p.body (topK c_Z1p n0)) n1 (B := fun rec vs σ => b_Z1p_1 (Mi cx) n0 n1 rec (vs.getD 0 .undef) (vs.getD 1 .undef) (vs.getD 2 .undef) σ) (by kernel_rfl) (by kernel_rfl) _ _
theorem u_Z1p_2 (n0 : Nat) (n1 : Nat) (z0 z1 z6 : V) (σ : Objs) : l_Z1p_2 (Mi cx) n0 n1 [z0, z1, z6] σ = b_Z1p_2 (Mi cx) n0 n1 (l_Z1p_2 (Mi cx) n0 n1) z0 z1 z6 σ :=
  loop_at cx (seek (Mi cx) 70 [] [true, true, true, true, false, true, false, true, true] c_Z1p.body (topK c_Z1p n0)) n1 (B := fun rec vs σ => b_Z1p_2 (Mi cx) n0 n1 rec (vs.getD 0 .undef) (vs.getD 1 .undef) (vs.getD 2 .undef) σ) (by kernel_rfl) (by kernel_rfl) _ _
theorem u_Z1p_0 (n0 : Nat) (n1 : Nat) (z0 z1 z6 : V) (σ : Objs) : l_Z1p_0 (Mi cx) n0 n1 [z0, z1, z6] σ = b_Z1p_0 (Mi cx) n0 n1 (l_Z1p_0 (Mi cx) n0 n1) z0 z1 z6 σ :=
  loop_at cx (seek (Mi cx) 70 [] [true, true, true, false] c_Z1p.body (topK c_Z1p n0)) n1 (B := fun rec vs σ => b_Z1p_0 (Mi cx) n0 n1 rec (vs.getD 0 .undef) (vs.getD 1 .undef) (vs.getD 2 .undef) σ) (by kernel_rfl) (by kernel_rfl) _ _
theorem e_Z1z (a0 a1 : V) (σ : Objs) : E cx 99 [a0, a1] σ = s_Z1z (Mi cx) a0 a1 σ := (E_fn (F := c_Z1z) (by kernel_rfl) (by kernel_rfl) _ _).trans (k_Z1z ..)
theorem e_Z21 (a0 a1 a2 : V) (σ : Objs) : E cx 100 [a0, a1, a2] σ = s_Z21 (Mi cx) a0 a1 a2 σ := (E_fn (F := c_Z21) (by kernel_rfl) (by kernel_rfl) _ _).trans (k_Z21 ..)
theorem u_Z21_1 (n0 : Nat) (n1 : Nat) (r1 : Rk) (n2 : Nat) (z0 z1 z6 z7 z8 z9 : V) (σ : Objs) : l_Z21_1 (Mi cx) n0 n1 r1 n2 [z0, z1, z6, z7, z8, z9] σ = b_Z21_1 (Mi cx) n0 n1 r1 n2 (l_Z21_1 (Mi cx) n0 n1 r1 n2) z0 z1 z6 z7 z8 z9 σ :=
  loop_at cx (seek (Mi cx) 98 [(n1, r1)] [true, true, true, false] c_Z21.body (topK c_Z21 n0)) n2 (B := fun rec vs σ => b_Z21_1 (Mi cx) n0 n1 r1 n2 rec (vs.getD 0 .undef) (vs.getD 1 .undef) (vs.getD 2 .undef) (vs.getD 3 .undef) (vs.getD 4 .undef) (vs.getD 5 .undef) σ) (by kernel_rfl) (by kernel_rfl) _ _
theorem u_Z21_0 (n0 : Nat) (n1 : Nat) (z0 z1 z6 z7 z8 : V) (σ : Objs) : l_Z21_0 (Mi cx) n0 n1 [z0, z1, z6, z7, z8] σ = b_Z21_0 (Mi cx) n0 n1 (l_Z21_0 (Mi cx) n0 n1) z0 z1 z6 z7 z8 σ :=
  loop_at cx (seek (Mi cx) 98 [] [true, true] c_Z21.body (topK c_Z21 n0)) n1 (B := fun rec vs σ => b_Z21_0 (Mi cx) n0 n1 rec (vs.getD 0 .undef) (vs.getD 1 .undef) (vs.getD 2 .undef) (vs.getD 3 .undef) (vs.getD 4 .undef) σ) (by kernel_rfl) (by kernel_rfl) _ _
theorem e_Z1c (a0 : V) (σ : Objs) : E cx 101 [a0] σ = s_Z1c (Mi cx) a0 σ := (E_fn (F := c_Z1c) (by kernel_rfl) (by kernel_rfl) _ _).trans (k_Z1c ..)
theorem e_Z14 (a0 : V) (σ : Objs) : E cx 102 [a0] σ = s_Z14 (Mi cx) a0 σ := (E_fn (F := c_Z14) (by kernel_rfl) (by kernel_rfl) _ _).trans (k_Z14 ..)
theorem u_Z14_0 (n0 : Nat) (n1 : Nat) (z0 z3 z4 : V) (σ : Objs) : l_Z14_0 (Mi cx) n0 n1 [z0, z3, z4] σ = b_Z14_0 (Mi cx) n0 n1 (l_Z14_0 (Mi cx) n0 n1) z0 z3 z4 σ :=
  loop_at cx (seek (Mi cx) 28 [] [true, true, false, true] c_Z14.body (topK c_Z14 n0)) n1 (B := fun rec vs σ => b_Z14_0 (Mi cx) n0 n1 rec (vs.getD 0 .undef) (vs.getD 1 .undef) (vs.getD 2 .undef) σ) (by kernel_rfl) (by kernel_rfl) _ _
theorem e_Z1a (a0 : V) (σ : Objs) : E cx 111 [a0] σ = s_Z1a (Mi cx) a0 σ := (E_fn (F := c_Z1a) (by kernel_rfl) (by kernel_rfl) _ _).trans (k_Z1a ..)
theorem u_Z1a_0 (n0 : Nat) (n1 : Nat) (z0 z3 z4 : V) (σ : Objs) : l_Z1a_0 (Mi cx) n0 n1 [z0, z3, z4] σ = b_Z1a_0 (Mi cx) n0 n1 (l_Z1a_0 (Mi cx) n0 n1) z0 z3 z4 σ :=
  loop_at cx (seek (Mi cx) 17 [] [true, true, false, true] c_Z1a.body (topK c_Z1a n0)) n1 (B := fun rec vs σ => b_Z1a_0 (Mi cx) n0 n1 rec (vs.getD 0 .undef) (vs.getD 1 .undef) (vs.getD 2 .undef) σ) (by kernel_rfl) (by kernel_rfl) _ _
theorem e_Z1f (a0 : V) (σ : Objs) : E cx 112 [a0] σ = s_Z1f (Mi cx) a0 σ := (E_fn (F := c_Z1f) (by kernel_rfl) (by kernel_rfl) _ _).trans (k_Z1f ..)
theorem e_Z1q (a0 : V) (σ : Objs) : E cx 113 [a0] σ = s_Z1q (Mi cx) a0 σ := (E_fn (F := c_Z1q) (by kernel_rfl) (by kernel_rfl) _ _).trans (k_Z1q ..)
theorem e_Z1x (a0 a1 a2 : V) (σ : Objs) : E cx 114 [a0, a1, a2] σ = s_Z1x (Mi cx) a0 a1 a2 σ := (E_fn (F := c_Z1x) (by kernel_rfl) (by kernel_rfl) _ _).trans (k_Z1x ..)
theorem u_Z1x_0 (n0 : Nat) (n1 : Nat) (z0 z1 z2 z6 : V) (σ : Objs) : l_Z1x_0 (Mi cx) n0 n1 [z0, z1, z2, z6] σ = b_Z1x_0 (Mi cx) n0 n1 (l_Z1x_0 (Mi cx) n0 n1) z0 z1 z2 z6 σ :=
  loop_at cx (seek (Mi cx) 44 [] [true, false] c_Z1x.body (topK c_Z1x n0)) n1 (B := fun rec vs σ => b_Z1x_0 (Mi cx) n0 n1 rec (vs.getD 0 .undef) (vs.getD 1 .undef) (vs.getD 2 .undef) (vs.getD 3 .undef) σ) (by kernel_rfl) (by kernel_rfl) _ _
end Go.Proofs.YtkgkmlhljeidhaaGreatDoor
set_option linter.unusedSimpArgs false
set_option linter.unusedVariables false
namespace Go.Ev
open Go
abbrev Road := Mach → List V → Objs → Ro
def ap0 (s : Mach → Objs → Ro) : Road := fun M xs σ => match xs with | [] => s M σ | _ => none
def ap1 (s : Mach → V → Objs → Ro) : Road := fun M xs σ => match xs with | [a] => s M a σ | _ => none
def ap2 (s : Mach → V → V → Objs → Ro) : Road := fun M xs σ => match xs with | [a, b] => s M a b σ | _ => none
def ap3 (s : Mach → V → V → V → Objs → Ro) : Road := fun M xs σ => match xs with | [a, b, c] => s M a b c σ | _ => none
def ap4 (s : Mach → V → V → V → V → Objs → Ro) : Road := fun M xs σ => match xs with | [a, b, c, d] => s M a b c d σ | _ => none
def RoadOf (F : Fn) (h : Road) : Prop := ∀ M xs σ, Le (h M xs σ) (fnK M F xs σ)
theorem ap0_of {F : Fn} {s} (h : ∀ M σ, fnK M F [] σ = s M σ) : RoadOf F (ap0 s) := fun M xs σ r hr => by
  unfold ap0 at hr
  split at hr
  · rw [h]; exact hr
  · cases hr
theorem ap1_of {F : Fn} {s} (h : ∀ M a σ, fnK M F [a] σ = s M a σ) : RoadOf F (ap1 s) := fun M xs σ r hr => by
  unfold ap1 at hr
  split at hr
  · rw [h]; exact hr
  · cases hr
theorem ap2_of {F : Fn} {s} (h : ∀ M a b σ, fnK M F [a, b] σ = s M a b σ) : RoadOf F (ap2 s) := fun M xs σ r hr => by
  unfold ap2 at hr
  split at hr
  · rw [h]; exact hr
  · cases hr
theorem ap3_of {F : Fn} {s} (h : ∀ M a b c σ, fnK M F [a, b, c] σ = s M a b c σ) : RoadOf F (ap3 s) := fun M xs σ r hr => by
  unfold ap3 at hr
  split at hr
  · rw [h]; exact hr
  · cases hr
theorem ap4_of {F : Fn} {s} (h : ∀ M a b c d σ, fnK M F [a, b, c, d] σ = s M a b c d σ) : RoadOf F (ap4 s) := fun M xs σ r hr => by
  unfold ap4 at hr
  split at hr
  · rw [h]; exact hr
  · cases hr
inductive Tr where
  | nil | node (f : Nat) (h : Road) (l r : Tr)
noncomputable def Tr.get (t : Tr) (g : Nat) : Option Road :=
  Tr.rec none (fun f h _ _ il ir => cond (Nat.beq g f) (some h) (cond (Nat.ble g f) il ir)) t
def TrOk (C : Ctx) : Tr → Prop
  | .nil => True
  | .node f h l r => (∃ F, C.prim f = none ∧ C.code f = some F ∧ RoadOf F h) ∧ TrOk C l ∧ TrOk C r
theorem get_ok {C : Ctx} : ∀ {t : Tr}, TrOk C t → ∀ {g : Nat} {h : Road}, t.get g = some h → ∃ F, C.prim g = none ∧ C.code g = some F ∧ RoadOf F h
  | .nil, _, g, h, hg => by cases hg
  | .node f h0 l r, ht, g, h, hg => by
    have e : (Tr.node f h0 l r).get g = cond (Nat.beq g f) (some h0) (cond (Nat.ble g f) (l.get g) (r.get g)) := rfl
    rw [e] at hg
    cases hb : Nat.beq g f with
    | true =>
      rw [hb] at hg
      cases hg
      rw [Nat.eq_of_beq_eq_true hb]
      exact ht.1
    | false =>
      rw [hb] at hg
      cases hl : Nat.ble g f with
      | true => rw [hl] at hg; exact get_ok ht.2.1 hg
      | false => rw [hl] at hg; exact get_ok ht.2.2 hg
noncomputable def run (G : GV) (prim : FuncId → Option (List V → Objs → Ro)) (t : Tr) (k : Nat) (n : Nat) : FuncId → List V → Objs → Ro :=
  Nat.rec (fun _ _ _ => none) (fun _ ih f xs σ => match t.get f with | some h => h ⟨G, ih, fun F => iter F k⟩ xs σ | none => match prim f with | some h => h xs σ | none => none) n
theorem fix_mono {F F' : Rk → Rk} (hF : ∀ f g, LeF f g → LeF (F f) (F g)) (hF' : ∀ f g, LeF f g → LeF (F' f) (F' g)) (h : ∀ f g, LeF f g → LeF (F f) (F' g)) : LeF (fixL F) (fixL F') := by
  intro vs σ r hr
  obtain ⟨j, hj⟩ := ((lim_is (iter_grow hF vs σ)).iff r).1 hr
  exact ((lim_is (iter_grow hF' vs σ)).iff r).2 ⟨j, iter_le h (Nat.le_refl j) vs σ r hj⟩
theorem iter_fix {F F' : Rk → Rk} (hF' : ∀ f g, LeF f g → LeF (F' f) (F' g)) (h : ∀ f g, LeF f g → LeF (F f) (F' g)) (k : Nat) : LeF (iter F k) (fixL F') := by
  intro vs σ r hr
  exact ((lim_is (iter_grow hF' vs σ)).iff r).2 ⟨k, iter_le h (Nat.le_refl k) vs σ r hr⟩
theorem run_E {C : Ctx} {t : Tr} (ht : TrOk C t) (k : Nat) : ∀ (n : Nat) (f : FuncId) (xs : List V) (σ : Objs), Le (run C.G C.prim t k n f xs σ) (E C f xs σ)
  | 0, f, xs, σ => fun r h => by cases h
  | n + 1, f, xs, σ => by
    intro r h
    have e : run C.G C.prim t k (n + 1) f xs σ = match t.get f with | some h => h ⟨C.G, run C.G C.prim t k n, fun F => iter F k⟩ xs σ | none => match C.prim f with | some h => h xs σ | none => none := rfl
    rw [e] at h
    cases hg : t.get f with
    | none =>
      rw [hg] at h
      simp only at h
      cases hp : C.prim f with
      | none => rw [hp] at h; cases h
      | some p => rw [hp] at h; rw [E_prim hp]; exact h
    | some hh =>
      rw [hg] at h
      obtain ⟨F, hp, hc, hr⟩ := get_ok ht hg
      have h1 := hr _ _ _ r h
      rw [E_fn hp hc]
      refine cd_le (M := ⟨C.G, run C.G C.prim t k n, fun F => iter F k⟩) (N := Mi C) F.body ⟨rfl, fun f xs σ => run_E ht k n f xs σ⟩ (fun F F' _ h2 h3 => iter_fix h2 h3 k) ⟨rfl, fun _ _ _ => Le.refl _⟩ (fun F F' _ _ h3 => iter_le h3 (Nat.le_refl k)) ⟨rfl, fun _ _ _ => Le.refl _⟩ (fun F F' h2 h3 h4 => fix_mono h2 h3 h4) (leK_refl _) _ _ r h1
theorem E_run {C : Ctx} {t : Tr} (ht : TrOk C t) {k n : Nat} {f : FuncId} {xs : List V} {σ : Objs} {r : V × Objs} (h : run C.G C.prim t k n f xs σ = some r) : E C f xs σ = some r := run_E ht k n f xs σ r h
end Go.Ev
set_option linter.unusedSimpArgs false
set_option linter.unusedVariables false
set_option maxRecDepth 100000
namespace Go.Proofs.YtkgkmlhljeidhaaGreatDoor
open Go.Ev
def treeAnC : Tr := (.node 70 (ap1 s_Zj) (.node 34 (ap1 s_Zg) (.node 25 (ap2 s_Z5) (.node 13 (ap1 s_Za) (.node 10 (ap3 s_Z9) (.node 9 (ap0 s_Zy) (.node 4 (ap4 s_Zw) .nil .nil) .nil) (.node 12 (ap1 s_Zx) .nil .nil)) (.node 23 (ap1 s_Zc) (.node 15 (ap1 s_Zb) (.node 14 (ap1 s_Z1k) .nil .nil) .nil) (.node 24 (ap1 s_Zd) .nil .nil))) (.node 30 (ap1 s_Z1g) (.node 28 (ap2 s_Z0) (.node 27 (ap1 s_Z2) (.node 26 (ap1 s_Z1) .nil .nil) .nil) (.node 29 (ap2 s_Zf) .nil .nil)) (.node 32 (ap1 s_Zz) (.node 31 (ap1 s_Z11) .nil .nil) (.node 33 (ap2 s_Zp) .nil .nil)))) (.node 49 (ap1 s_Ze) (.node 44 (ap1 s_Zh) (.node 42 (ap2 s_Zi) (.node 41 (ap2 s_Z3) (.node 38 (ap1 s_Z19) .nil .nil) .nil) (.node 43 (ap2 s_Z7) .nil .nil)) (.node 47 (ap1 s_Z6) (.node 46 (ap2 s_Zo) (.node 45 (ap2 s_Zn) .nil .nil) .nil) (.node 48 (ap3 s_Z4) .nil .nil))) (.node 54 (ap1 s_Zq) (.node 52 (ap2 s_Z10) (.node 51 (ap1 s_Z13) (.node 50 (ap2 s_Z1j) .nil .nil) .nil) (.node 53 (ap2 s_Zs) .nil .nil)) (.node 56 (ap2 s_Zt) (.node 55 (ap2 s_Zr) .nil .nil) (.node 60 (ap1 s_Z1b) .nil .nil))))) (.node 89 (ap2 s_Z8) (.node 80 (ap2 s_Z1i) (.node 75 (ap2 s_Z1y) (.node 73 (ap2 s_Z1m) (.node 72 (ap2 s_Zl) (.node 71 (ap2 s_Zk) .nil .nil) .nil) (.node 74 (ap1 s_Z1e) .nil .nil)) (.node 78 (ap2 s_Z1v) (.node 77 (ap2 s_Z1u) (.node 76 (ap2 s_Z1w) .nil .nil) .nil) (.node 79 (ap3 s_Z1s) .nil .nil))) (.node 85 (ap1 s_Z20) (.node 83 (ap2 s_Z1r) (.node 82 (ap2 s_Z1t) (.node 81 (ap2 s_Z1n) .nil .nil) .nil) (.node 84 (ap2 s_Z1h) .nil .nil)) (.node 87 (ap1 s_Z17) (.node 86 (ap1 s_Z18) .nil .nil) (.node 88 (ap1 s_Z15) .nil .nil)))) (.node 101 (ap1 s_Z1c) (.node 97 (ap2 s_Z1o) (.node 92 (ap1 s_Z1d) (.node 91 (ap2 s_Zm) (.node 90 (ap1 s_Zu) .nil .nil) .nil) (.node 96 (ap2 s_Z1l) .nil .nil)) (.node 99 (ap2 s_Z1z) (.node 98 (ap2 s_Z1p) .nil .nil) (.node 100 (ap3 s_Z21) .nil .nil))) (.node 111 (ap1 s_Z1a) (.node 104 (ap3 s_Z16) (.node 103 (ap1 s_Z12) (.node 102 (ap1 s_Z14) .nil .nil) .nil) (.node 105 (ap1 s_Zv) .nil .nil)) (.node 113 (ap1 s_Z1q) (.node 112 (ap1 s_Z1f) .nil .nil) (.node 114 (ap3 s_Z1x) .nil .nil))))))
theorem treeAnC_ok : TrOk cx treeAnC := ⟨⟨c_Zj, by kernel_rfl, by kernel_rfl, ap1_of k_Zj⟩, ⟨⟨c_Zg, by kernel_rfl, by kernel_rfl, ap1_of k_Zg⟩, ⟨⟨c_Z5, by kernel_rfl, by kernel_rfl, ap2_of k_Z5⟩, ⟨⟨c_Za, by kernel_rfl, by kernel_rfl, ap1_of k_Za⟩, ⟨⟨c_Z9, by kernel_rfl, by kernel_rfl, ap3_of k_Z9⟩, ⟨⟨c_Zy, by kernel_rfl, by kernel_rfl, ap0_of k_Zy⟩, ⟨⟨c_Zw, by kernel_rfl, by kernel_rfl, ap4_of k_Zw⟩, trivial, trivial⟩, trivial⟩, ⟨⟨c_Zx, by kernel_rfl, by kernel_rfl, ap1_of k_Zx⟩, trivial, trivial⟩⟩, ⟨⟨c_Zc, by kernel_rfl, by kernel_rfl, ap1_of k_Zc⟩, ⟨⟨c_Zb, by kernel_rfl, by kernel_rfl, ap1_of k_Zb⟩, ⟨⟨c_Z1k, by kernel_rfl, by kernel_rfl, ap1_of k_Z1k⟩, trivial, trivial⟩, trivial⟩, ⟨⟨c_Zd, by kernel_rfl, by kernel_rfl, ap1_of k_Zd⟩, trivial, trivial⟩⟩⟩, ⟨⟨c_Z1g, by kernel_rfl, by kernel_rfl, ap1_of k_Z1g⟩, ⟨⟨c_Z0, by kernel_rfl, by kernel_rfl, ap2_of k_Z0⟩, ⟨⟨c_Z2, by kernel_rfl, by kernel_rfl, ap1_of k_Z2⟩, ⟨⟨c_Z1, by kernel_rfl, by kernel_rfl, ap1_of k_Z1⟩, trivial, trivial⟩, trivial⟩, ⟨⟨c_Zf, by kernel_rfl, by kernel_rfl, ap2_of k_Zf⟩, trivial, trivial⟩⟩, ⟨⟨c_Zz, by kernel_rfl, by kernel_rfl, ap1_of k_Zz⟩, ⟨⟨c_Z11, by kernel_rfl, by kernel_rfl, ap1_of k_Z11⟩, trivial, trivial⟩, ⟨⟨c_Zp, by kernel_rfl, by kernel_rfl, ap2_of k_Zp⟩, trivial, trivial⟩⟩⟩⟩, ⟨⟨c_Ze, by kernel_rfl, by kernel_rfl, ap1_of k_Ze⟩, ⟨⟨c_Zh, by kernel_rfl, by kernel_rfl, ap1_of k_Zh⟩, ⟨⟨c_Zi, by kernel_rfl, by kernel_rfl, ap2_of k_Zi⟩, ⟨⟨c_Z3, by kernel_rfl, by kernel_rfl, ap2_of k_Z3⟩, ⟨⟨c_Z19, by kernel_rfl, by kernel_rfl, ap1_of k_Z19⟩, trivial, trivial⟩, trivial⟩, ⟨⟨c_Z7, by kernel_rfl, by kernel_rfl, ap2_of k_Z7⟩, trivial, trivial⟩⟩, ⟨⟨c_Z6, by kernel_rfl, by kernel_rfl, ap1_of k_Z6⟩, ⟨⟨c_Zo, by kernel_rfl, by kernel_rfl, ap2_of k_Zo⟩, ⟨⟨c_Zn, by kernel_rfl, by kernel_rfl, ap2_of k_Zn⟩, trivial, trivial⟩, trivial⟩, ⟨⟨c_Z4, by kernel_rfl, by kernel_rfl, ap3_of k_Z4⟩, trivial, trivial⟩⟩⟩, ⟨⟨c_Zq, by kernel_rfl, by kernel_rfl, ap1_of k_Zq⟩, ⟨⟨c_Z10, by kernel_rfl, by kernel_rfl, ap2_of k_Z10⟩, ⟨⟨c_Z13, by kernel_rfl, by kernel_rfl, ap1_of k_Z13⟩, ⟨⟨c_Z1j, by kernel_rfl, by kernel_rfl, ap2_of k_Z1j⟩, trivial, trivial⟩, trivial⟩, ⟨⟨c_Zs, by kernel_rfl, by kernel_rfl, ap2_of k_Zs⟩, trivial, trivial⟩⟩, ⟨⟨c_Zt, by kernel_rfl, by kernel_rfl, ap2_of k_Zt⟩, ⟨⟨c_Zr, by kernel_rfl, by kernel_rfl, ap2_of k_Zr⟩, trivial, trivial⟩, ⟨⟨c_Z1b, by kernel_rfl, by kernel_rfl, ap1_of k_Z1b⟩, trivial, trivial⟩⟩⟩⟩⟩, ⟨⟨c_Z8, by kernel_rfl, by kernel_rfl, ap2_of k_Z8⟩, ⟨⟨c_Z1i, by kernel_rfl, by kernel_rfl, ap2_of k_Z1i⟩, ⟨⟨c_Z1y, by kernel_rfl, by kernel_rfl, ap2_of k_Z1y⟩, ⟨⟨c_Z1m, by kernel_rfl, by kernel_rfl, ap2_of k_Z1m⟩, ⟨⟨c_Zl, by kernel_rfl, by kernel_rfl, ap2_of k_Zl⟩, ⟨⟨c_Zk, by kernel_rfl, by kernel_rfl, ap2_of k_Zk⟩, trivial, trivial⟩, trivial⟩, ⟨⟨c_Z1e, by kernel_rfl, by kernel_rfl, ap1_of k_Z1e⟩, trivial, trivial⟩⟩, ⟨⟨c_Z1v, by kernel_rfl, by kernel_rfl, ap2_of k_Z1v⟩, ⟨⟨c_Z1u, by kernel_rfl, by kernel_rfl, ap2_of k_Z1u⟩, ⟨⟨c_Z1w, by kernel_rfl, by kernel_rfl, ap2_of k_Z1w⟩, trivial, trivial⟩, trivial⟩, ⟨⟨c_Z1s, by kernel_rfl, by kernel_rfl, ap3_of k_Z1s⟩, trivial, trivial⟩⟩⟩, ⟨⟨c_Z20, by kernel_rfl, by kernel_rfl, ap1_of k_Z20⟩, ⟨⟨c_Z1r, by kernel_rfl, by kernel_rfl, ap2_of k_Z1r⟩, ⟨⟨c_Z1t, by kernel_rfl, by kernel_rfl, ap2_of k_Z1t⟩, ⟨⟨c_Z1n, by kernel_rfl, by kernel_rfl, ap2_of k_Z1n⟩, trivial, trivial⟩, trivial⟩, ⟨⟨c_Z1h, by kernel_rfl, by kernel_rfl, ap2_of k_Z1h⟩, trivial, trivial⟩⟩, ⟨⟨c_Z17, by kernel_rfl, by kernel_rfl, ap1_of k_Z17⟩, ⟨⟨c_Z18, by kernel_rfl, by kernel_rfl, ap1_of k_Z18⟩, trivial, trivial⟩, ⟨⟨c_Z15, by kernel_rfl, by kernel_rfl, ap1_of k_Z15⟩, trivial, trivial⟩⟩⟩⟩, ⟨⟨c_Z1c, by kernel_rfl, by kernel_rfl, ap1_of k_Z1c⟩, ⟨⟨c_Z1o, by kernel_rfl, by kernel_rfl, ap2_of k_Z1o⟩, ⟨⟨c_Z1d, by kernel_rfl, by kernel_rfl, ap1_of k_Z1d⟩, ⟨⟨c_Zm, by kernel_rfl, by kernel_rfl, ap2_of k_Zm⟩, ⟨⟨c_Zu, by kernel_rfl, by kernel_rfl, ap1_of k_Zu⟩, trivial, trivial⟩, trivial⟩, ⟨⟨c_Z1l, by kernel_rfl, by kernel_rfl, ap2_of k_Z1l⟩, trivial, trivial⟩⟩, ⟨⟨c_Z1z, by kernel_rfl, by kernel_rfl, ap2_of k_Z1z⟩, ⟨⟨c_Z1p, by kernel_rfl, by kernel_rfl, ap2_of k_Z1p⟩, trivial, trivial⟩, ⟨⟨c_Z21, by kernel_rfl, by kernel_rfl, ap3_of k_Z21⟩, trivial, trivial⟩⟩⟩, ⟨⟨c_Z1a, by kernel_rfl, by kernel_rfl, ap1_of k_Z1a⟩, ⟨⟨c_Z16, by kernel_rfl, by kernel_rfl, ap3_of k_Z16⟩, ⟨⟨c_Z12, by kernel_rfl, by kernel_rfl, ap1_of k_Z12⟩, ⟨⟨c_Z14, by kernel_rfl, by kernel_rfl, ap1_of k_Z14⟩, trivial, trivial⟩, trivial⟩, ⟨⟨c_Zv, by kernel_rfl, by kernel_rfl, ap1_of k_Zv⟩, trivial, trivial⟩⟩, ⟨⟨c_Z1q, by kernel_rfl, by kernel_rfl, ap1_of k_Z1q⟩, ⟨⟨c_Z1f, by kernel_rfl, by kernel_rfl, ap1_of k_Z1f⟩, trivial, trivial⟩, ⟨⟨c_Z1x, by kernel_rfl, by kernel_rfl, ap3_of k_Z1x⟩, trivial, trivial⟩⟩⟩⟩⟩⟩
end Go.Proofs.YtkgkmlhljeidhaaGreatDoor
set_option linter.unusedSimpArgs false
set_option linter.unusedVariables false
namespace Go.Proofs.YtkgkmlhljeidhaaGreatDoor
open Go.Ev
set_option maxRecDepth 100000
theorem d_Digit (a : Int) (σ : Objs) (hσ : Wf σ) : E cx 38 [.int .i64 a] σ = some (.bool (decide (48 ≤ a) && decide (a ≤ 57)), σ) := by
  rw [e_Z19]
  simp +contextual -implicitDefEqProofs (disch := first | assumption | omega | (simp -implicitDefEqProofs only [go_sem]; try omega)) only [↓reduceIte, go_sem, iP, iN, w64, w8, w32, s_Z19]
theorem d_cDigit (a : Int) (σ : Objs) (hσ : Wf σ) : E cx 34 [.int .i64 a] σ = some (.bool (decide (48 ≤ a) && decide (a ≤ 57)), σ) := by
  rw [e_Zg]
  simp +contextual -implicitDefEqProofs (disch := first | assumption | omega | (simp -implicitDefEqProofs only [go_sem]; try omega)) only [↓reduceIte, go_sem, iP, iN, w64, w8, w32, s_Zg]
def failV (k a : Int) : V := .ifc 73 (.eptr [.int .i64 k, .int .i64 a, .nili] 0)
theorem d_Fail (k a : Int) (σ : Objs) (hσ : Wf σ) : E cx 29 [.int .i64 k, .int .i64 a] σ = some (failV k a, σ) := by
  rw [e_Zf]
  simp +contextual -implicitDefEqProofs (disch := first | assumption | omega | (simp -implicitDefEqProofs only [go_sem]; try omega)) only [↓reduceIte, go_sem, iP, iN, w64, w8, w32, s_Zf]
  rfl
theorem failV_nogr {k a : Int} : (failV k a).ng = failV k a := rfl
theorem failV_rb {n : Nat} {k a : Int} : V.rb n (failV k a) = true := rfl
theorem neq_fail {k a : Int} : eB .neq .ifc (failV k a) .nili = some (.bool true) := rfl
attribute [go_sem] failV_nogr failV_rb neq_fail
def isPM (b : UInt8) : Bool := b == 43 || b == 45
def asciiPM : List V := (List.range 256).map fun i => .bool (i == 43 || i == 45)
def falses : List V := List.replicate 256 (.bool false)
theorem d_mkset : E cx 54 [.str [43, 45]] [] = some (.tup [.agg asciiPM, .bool true], []) := E_run treeAnC_ok (k := 100) (n := 20) (by kernel_rfl)
theorem asc_get (b : UInt8) : asciiPM[b.toNat]? = some (.bool (isPM b)) := by
  have h : b.toNat < 256 := b.toNat_lt
  unfold asciiPM isPM
  rw [List.getElem?_map, List.getElem?_range h]
  simp only [Option.map_some, Option.some.injEq, V.bool.injEq]
  rw [Bool.eq_iff_iff]
  simp only [Bool.or_eq_true, beq_iff_eq, ← UInt8.toNat_inj]
  rfl
theorem asc_rb : V.rbs 1 asciiPM = true := by kernel_rfl
theorem d_contains (b : UInt8) : E cx 89 [.ptr 0 0, .int .u8 b.toNat] [.cells asciiPM] = some (.bool (isPM b), [.cells asciiPM]) := by
  have e1 : evIaddrA 256 1 (.int .u8 b.toNat) (.ptr 0 0) = some (.ptr 0 b.toNat) := by
    have h : b.toNat < 256 := b.toNat_lt
    have : (0 : Int) ≤ b.toNat ∧ (b.toNat : Int) < (256 : Nat) := by omega
    simp only [evIaddrA, index, if_pos this, Option.bind_eq_bind, Option.bind_some, Int.toNat_natCast, Nat.mul_one, Nat.zero_add]
  have e2 : Ev.part false 1 asciiPM b.toNat = some (.bool (isPM b)) := by
    simp only [Ev.part, Bool.false_eq_true, if_false, if_true, asc_get, Option.map_some, n_bool]
  have hr := asc_rb
  rw [e_Z8]
  simp +contextual -implicitDefEqProofs (disch := first | assumption | omega | (simp -implicitDefEqProofs only [go_sem]; try omega)) only [↓reduceIte, go_sem, iP, iN, w64, w8, w32, s_Z8, e1, e2]
def trimPM (s : List UInt8) : List UInt8 := s.dropWhile isPM
theorem d_trimA : ∀ (s : List UInt8), E cx 55 [.str s, .ptr 0 0] [.cells asciiPM] = some (.str (trimPM s), [.cells asciiPM]) := by
  have hr := asc_rb
  have loop : ∀ s : List UInt8, l_Zr_0 (Mi cx) 1 1 [.str s, .ptr 0 0] [.cells asciiPM] = some (.str (trimPM s), [.cells asciiPM]) := by
    intro s
    induction s with
    | nil =>
      rw [u_Zr_0]
      simp +contextual -implicitDefEqProofs (disch := first | assumption | omega | (simp -implicitDefEqProofs only [go_sem]; try omega)) only [↓reduceIte, go_sem, iP, iN, w64, w8, w32, b_Zr_0, j_Zr_0, j_Zr_1]
      rfl
    | cons b r ih =>
      have hd := d_contains b
      rw [u_Zr_0]
      cases hb : isPM b
      · rw [hb] at hd
        simp +contextual -implicitDefEqProofs (disch := first | assumption | omega | (simp -implicitDefEqProofs only [go_sem]; try omega)) only [↓reduceIte, go_sem, iP, iN, w64, w8, w32, b_Zr_0, j_Zr_0, j_Zr_1, hd]
        rw [show trimPM (b :: r) = b :: r by unfold trimPM; rw [List.dropWhile_cons, hb]; rfl]
      · rw [hb] at hd
        simp +contextual -implicitDefEqProofs (disch := first | assumption | omega | (simp -implicitDefEqProofs only [go_sem]; try omega)) only [↓reduceIte, go_sem, iP, iN, w64, w8, w32, b_Zr_0, j_Zr_0, j_Zr_1, hd]
        rw [show trimPM (b :: r) = trimPM r by unfold trimPM; rw [List.dropWhile_cons, hb]; rfl]
        exact ih
  intro s
  rw [e_Zr]
  simp +contextual -implicitDefEqProofs (disch := first | assumption | omega | (simp -implicitDefEqProofs only [go_sem]; try omega)) only [↓reduceIte, go_sem, iP, iN, w64, w8, w32, s_Zr, loop]
def tlF (M : Mach) (a0 a1 : V) (σ : Objs) : Ro :=
  bd (pu (eB .eql .no a0.ng.ng (.str []))) fun x0 =>
  bd (gdv x0.ng false (some a1.ng)) fun x1 =>
  bd (gdv x0.ng false (pu (eB .eql .no x1.ng (.str [])))) fun x2 =>
  bd (pu (pV x0.ng.ng (.bool true) x2.ng)) fun x3 =>
  br x3.ng (
  bd (oK false a0.ng.ng) (nK σ.length σ)) (
  bd (pu (evLenS a1.ng.ng)) fun x4 =>
  bd (pu (eB .eql .no x4.ng (.int .i64 1))) fun x5 =>
  bd (gdv x5.ng true (some a1.ng)) fun x6 =>
  bd (gdv x5.ng true (pu (evIdx (.int .i64 0) x6.ng))) fun x7 =>
  bd (gdv x5.ng true (pu (eB .lss .no x7.ng (.int .u8 128)))) fun x8 =>
  bd (pu (pV x5.ng.ng x8.ng (.bool false))) fun x9 =>
  br x9.ng (
  bd (pu (evIdx (.int .i64 0) a1.ng.ng)) fun x10 =>
  bd (M.call 53 [a0.ng.ng, x10.ng] σ) fun p11 =>
  bd (oK false p11.1.ng) (nK σ.length p11.2)) (
  bd (M.call 54 [a1.ng.ng] σ) fun p12 =>
  bd (pu (eX 0 p12.1.ng.ng)) fun x13 =>
  bd (pu (eX 1 p12.1.ng.ng)) fun x14 =>
  let s15 : Objs := p12.2 ++ [.cells falses]
  bd (stV s15 256 (.ptr p12.2.length 0) x13.ng x13.ng) fun p16 =>
  br x14.ng.ng.ng (
  bd (M.call 55 [a0.ng.ng, (.ptr p12.2.length 0)] p16.2) fun p17 =>
  bd (oK false p17.1.ng) (nK σ.length p17.2)) (
  bd (M.call 56 [a0.ng.ng, a1.ng.ng] p16.2) fun p18 =>
  bd (oK false p18.1.ng) (nK σ.length p18.2))))
theorem tl_eq (a b : V) : s_Zp (Mi cx) a b [] = tlF (Mi cx) a b [] := by kernel_rfl
theorem st_pm : stV [.cells falses] 256 (.ptr 0 0) (.agg asciiPM) (.agg asciiPM) = some (.undef, [.cells asciiPM]) := by kernel_rfl
theorem d_trimLeft (s : List UInt8) (σ : Objs) (hσ : Wf σ) : E cx 33 [.str s, .str [43, 45]] σ = some (.str (trimPM s), σ) := by
  refine E_any cx_cl ?_ rfl rfl σ hσ
  have h1 := d_mkset
  have h2 := d_trimA s
  rw [e_Zp, tl_eq]
  by_cases hs : s = []
  · subst hs
    simp +contextual -implicitDefEqProofs (disch := first | assumption | omega | (simp -implicitDefEqProofs only [go_sem]; try omega)) only [↓reduceIte, go_sem, iP, iN, w64, w8, w32, tlF]
    rfl
  · simp +contextual -implicitDefEqProofs (disch := first | assumption | omega | (simp -implicitDefEqProofs only [go_sem]; try omega)) only [↓reduceIte, go_sem, iP, iN, w64, w8, w32, tlF, h1, h2, st_pm, hs]
theorem u8_lt (b : UInt8) : b.toNat < 256 := b.toNat_lt
def isD (b : UInt8) : Prop := 48 ≤ (b.toNat : Int) ∧ (b.toNat : Int) ≤ 57
instance (b : UInt8) : Decidable (isD b) := by unfold isD; infer_instance
def wlp : List UInt8 → Int → Bool → Option (Int × Bool)
  | [], n, o => some (n, o)
  | b :: r, n, o => if isD b then (if 2147483647 < n * 10 + (b.toNat - 48) then wlp r 2147483647 true else wlp r (n * 10 + (b.toNat - 48)) o) else none
def wRes (neg : Bool) : Option (Int × Bool) → V
  | none => .tup [.int .i64 0, failV 10 0]
  | some (_, true) => .tup [.int .i64 0, failV 3 0]
  | some (m, false) => .tup [.int .i64 (if neg then -m else m), .nili]
theorem d_wloop (c : UInt8) (s0 d : List UInt8) (cap : Cap) (hl : d.length < 4611686018427387904) : ∀ (r p : List UInt8) (n : Int) (o : Bool) (i : Int), 0 ≤ n ∧ n ≤ 2147483647 → d = p ++ r → i = p.length →
    l_Zb_0 (Mi cx) 0 0 [.str (c :: s0), .int .i64 n, .bool o, .sl (ofBytes d) cap, .int .i64 d.length, .int .i64 i] [] = some (wRes (decide ((c.toNat : Int) = 45)) (wlp r n o), [])
  | [], p, n, o, i, hn, hd, hi => by
    have h3 := d_Fail 3 0 [] wf_nil
    have hlen : d.length = p.length := by rw [hd]; simp
    rw [u_Zb_0]
    simp +contextual -implicitDefEqProofs (disch := first | assumption | omega | (simp -implicitDefEqProofs only [go_sem]; try omega)) only [↓reduceIte, go_sem, iP, iN, w64, w8, w32, b_Zb_0, j_Zb_0, j_Zb_1, h3]
    cases o with
    | true => simp [wlp, wRes]
    | false => by_cases hc : (c.toNat : Int) = 45 <;> simp [wlp, wRes, hc]
  | b :: r, p, n, o, i, hn, hd, hi => by
    have h3 := d_Fail 10 0 [] wf_nil
    have hb := u8_lt b
    have h4 := d_cDigit b.toNat [] wf_nil
    have hlen : d.length = p.length + r.length + 1 := by rw [hd]; simp; omega
    have hg : d.getD i.toNat 0 = b := by rw [hd, hi]; simp
    have ih1 := d_wloop c s0 d cap hl r (p ++ [b]) 2147483647 true (i + 1) (by omega) (by simp [hd]) (by simp; omega)
    rw [u_Zb_0]
    by_cases hD : isD b
    · have hD' := hD
      unfold isD at hD'
      by_cases hm : 2147483647 < n * 10 + ((b.toNat : Int) - 48)
      · simp +contextual -implicitDefEqProofs (disch := first | assumption | omega | (simp -implicitDefEqProofs only [go_sem]; try omega)) only [↓reduceIte, go_sem, iP, iN, w64, w8, w32, b_Zb_0, j_Zb_0, j_Zb_1, h3, h4, hg, ih1, wlp, hD]
      · have ih2 := d_wloop c s0 d cap hl r (p ++ [b]) (n * 10 + ((b.toNat : Int) - 48)) o (i + 1) (by omega) (by simp [hd]) (by simp; omega)
        simp +contextual -implicitDefEqProofs (disch := first | assumption | omega | (simp -implicitDefEqProofs only [go_sem]; try omega)) only [↓reduceIte, go_sem, iP, iN, w64, w8, w32, b_Zb_0, j_Zb_0, j_Zb_1, h3, h4, hg, ih2, wlp, hD]
    · have hD' := hD
      unfold isD at hD'
      simp +contextual -implicitDefEqProofs (disch := first | assumption | omega | (simp -implicitDefEqProofs only [go_sem]; try omega)) only [↓reduceIte, go_sem, iP, iN, w64, w8, w32, b_Zb_0, j_Zb_0, j_Zb_1, h3, h4, hg, wlp, hD, wRes]
def wholeA (s : List UInt8) : V :=
  if trimPM s = [] ∨ 1 < (s.length : Int) - (trimPM s).length then .tup [.int .i64 0, failV 10 0]
  else wRes (decide (((s.headD 0).toNat : Int) = 45)) (wlp (trimPM s) 0 false)
theorem trim_len (s : List UInt8) : (trimPM s).length ≤ s.length := List.Sublist.length_le (List.dropWhile_sublist _)
theorem d_Whole (s : List UInt8) (hs : s.length < 4611686018427387904) (σ : Objs) (hσ : Wf σ) : E cx 15 [.str s] σ = some (wholeA s, σ) := by
  refine E_any cx_cl ?_ rfl ?_ σ hσ
  · have h1 := d_trimLeft s [] wf_nil
    have h2 := d_Fail 10 0 [] wf_nil
    have hlen := trim_len s
    rw [e_Zb]
    by_cases he : trimPM s = []
    · simp +contextual -implicitDefEqProofs (disch := first | assumption | omega | (simp -implicitDefEqProofs only [go_sem]; try omega)) only [↓reduceIte, go_sem, iP, iN, w64, w8, w32, s_Zb, h1, h2, he, wholeA]
    · by_cases hd : 1 < (s.length : Int) - (trimPM s).length
      · simp +contextual -implicitDefEqProofs (disch := first | assumption | omega | (simp -implicitDefEqProofs only [go_sem]; try omega)) only [↓reduceIte, go_sem, iP, iN, w64, w8, w32, s_Zb, h1, h2, he, wholeA, hd]
      · match s, he with
        | [], he => exact absurd rfl he
        | c :: s0, he =>
          have h3 := d_wloop c s0 (trimPM (c :: s0)) (.gr 1) (by omega) (trimPM (c :: s0)) [] 0 false 0 (by omega) rfl rfl
          simp only [List.length_cons] at hlen hd hs
          simp +contextual -implicitDefEqProofs (disch := first | assumption | omega | (simp -implicitDefEqProofs only [go_sem]; try omega)) only [↓reduceIte, go_sem, iP, iN, w64, w8, w32, s_Zb, h1, h2, he, wholeA, hd, h3, List.headD_cons]
  · unfold wholeA
    split
    · rfl
    · unfold wRes
      split <;> rfl
end Go.Proofs.YtkgkmlhljeidhaaGreatDoor
set_option linter.unusedSimpArgs false
set_option linter.unusedVariables false
namespace Go.Proofs.YtkgkmlhljeidhaaGreatDoor
open Go.Ev
set_option maxRecDepth 100000
def wlr : List UInt8 → Int → Option Int
  | [], n => some n
  | b :: r, n => if isD b then wlr r (if n ≤ 2147483647 then 10 * n + b.toNat - 48 else n) else none
def unsign (s : List UInt8) : List UInt8 :=
  match s with
  | [] => []
  | c :: t => if c.toNat = 43 ∨ c.toNat = 45 then t else s
def wS (s : List UInt8) : Int × Int :=
  if unsign s = [] then (0, 10)
  else match wlr (unsign s) 0 with
    | none => (0, 10)
    | some m => if 2147483647 < m then (0, 3) else (if ((s.headD 0).toNat : Int) = 45 then -m else m, 0)
def errV (k : Int) : V := if k = 0 then .nili else failV k 0
theorem wlp_wlr : ∀ (r : List UInt8) (n m : Int) (o : Bool), 0 ≤ n ∧ n ≤ 2147483647 → (o = false → m = n) → (o = true → 2147483647 < m) →
    (wlp r n o = none ∧ wlr r m = none) ∨ (∃ n' m' o', wlp r n o = some (n', o') ∧ wlr r m = some m' ∧ (o' = false → m' = n' ∧ 0 ≤ n' ∧ n' ≤ 2147483647) ∧ (o' = true → 2147483647 < m'))
  | [], n, m, o, hn, h1, h2 => .inr ⟨n, m, o, rfl, rfl, fun h => ⟨h1 h, hn⟩, h2⟩
  | b :: r, n, m, o, hn, h1, h2 => by
    by_cases hD : isD b
    · have hD' := hD
      unfold isD at hD'
      simp only [wlp, wlr, if_pos hD]
      by_cases hm : 2147483647 < n * 10 + ((b.toNat : Int) - 48)
      · simp only [if_pos hm]
        cases o with
        | false =>
          have := h1 rfl
          subst this
          rw [if_pos hn.2]
          exact wlp_wlr r 2147483647 _ true (by omega) (fun h => by cases h) (fun _ => by omega)
        | true =>
          have := h2 rfl
          rw [if_neg (by omega)]
          exact wlp_wlr r 2147483647 _ true (by omega) (fun h => by cases h) (fun _ => this)
      · simp only [if_neg hm]
        cases o with
        | false =>
          have := h1 rfl
          subst this
          rw [if_pos hn.2]
          exact wlp_wlr r _ _ false (by omega) (fun _ => by omega) (fun h => by cases h)
        | true =>
          have := h2 rfl
          rw [if_neg (by omega)]
          exact wlp_wlr r _ _ true (by omega) (fun h => by cases h) (fun _ => this)
    · left
      simp only [wlp, wlr, if_neg hD, and_self]
theorem pm_iff (c : UInt8) : isPM c = true ↔ (c.toNat = 43 ∨ c.toNat = 45) := by
  unfold isPM
  simp only [Bool.or_eq_true, beq_iff_eq, ← UInt8.toNat_inj]
  rfl
theorem trim_cons (c : UInt8) (t : List UInt8) : trimPM (c :: t) = if isPM c then trimPM t else c :: t := by
  unfold trimPM
  rw [List.dropWhile_cons]
theorem wholeA_eq (s : List UInt8) : wholeA s = .tup [.int .i64 (wS s).1, errV (wS s).2] := by
  have main : ∀ (c : UInt8) (r : List UInt8), wRes (decide ((c.toNat : Int) = 45)) (wlp r 0 false) = .tup [.int .i64 (match wlr r 0 with | none => (0, 10) | some m => if 2147483647 < m then (0, 3) else (if (c.toNat : Int) = 45 then -m else m, 0) : Int × Int).1, errV (match wlr r 0 with | none => (0, 10) | some m => if 2147483647 < m then (0, 3) else (if (c.toNat : Int) = 45 then -m else m, 0) : Int × Int).2] := by
    intro c r
    rcases wlp_wlr r 0 0 false (by omega) (fun _ => rfl) (fun h => by cases h) with ⟨h1, h2⟩ | ⟨n', m', o', h1, h2, h3, h4⟩
    · simp [h1, h2, wRes, errV]
    · rw [h1, h2]
      cases o' with
      | false =>
        obtain ⟨rfl, h5, h6⟩ := h3 rfl
        have : ¬ 2147483647 < m' := by omega
        by_cases hc : (c.toNat : Int) = 45 <;> simp [wRes, errV, this, hc]
      | true =>
        have := h4 rfl
        simp [wRes, errV, this]
  match s with
  | [] => simp [wholeA, wS, unsign, trimPM, errV]
  | c :: t =>
    by_cases hc : isPM c = true
    · have hu : unsign (c :: t) = t := by simp [unsign, (pm_iff c).1 hc]
      have ht : trimPM (c :: t) = trimPM t := by rw [trim_cons, if_pos hc]
      match t with
      | [] =>
        have ht2 : trimPM [c] = [] := by rw [ht]; rfl
        simp [wholeA, wS, hu, ht2, errV]
      | d :: t' =>
        by_cases hd : isPM d = true
        · have ht2 : trimPM (d :: t') = trimPM t' := by rw [trim_cons, if_pos hd]
          have hl := trim_len t'
          have hnd : ¬ isD d := by
            have := (pm_iff d).1 hd
            unfold isD; omega
          have h1 : 1 < ((c :: d :: t').length : Int) - (trimPM (c :: d :: t')).length := by rw [ht, ht2]; simp; omega
          have h2 : wlr (d :: t') 0 = none := by simp [wlr, hnd]
          simp only [wholeA, if_pos (Or.inr h1), wS, hu, h2]
          simp [errV]
        · have ht2 : trimPM (d :: t') = d :: t' := by rw [trim_cons, if_neg hd]
          have h1 : ¬ 1 < ((c :: d :: t').length : Int) - (trimPM (c :: d :: t')).length := by rw [ht, ht2]; simp; omega
          have h0 : ¬ trimPM (c :: d :: t') = [] := by rw [ht, ht2]; simp
          have hh : ¬ (trimPM (c :: d :: t') = [] ∨ 1 < ((c :: d :: t').length : Int) - (trimPM (c :: d :: t')).length) := fun h => h.elim h0 h1
          simp only [wholeA, if_neg hh, wS, hu, List.headD_cons, main]
          rw [ht, ht2]
          simp
          exact main c _
    · have hu : unsign (c :: t) = c :: t := by
        have := fun h => hc ((pm_iff c).2 h)
        simp only [unsign, if_neg this]
      have ht : trimPM (c :: t) = c :: t := by rw [trim_cons, if_neg hc]
      have h1 : ¬ 1 < ((c :: t).length : Int) - (trimPM (c :: t)).length := by rw [ht]; omega
      have h0 : ¬ trimPM (c :: t) = [] := by rw [ht]; simp
      have hh : ¬ (trimPM (c :: t) = [] ∨ 1 < ((c :: t).length : Int) - (trimPM (c :: t)).length) := fun h => h.elim h0 h1
      simp only [wholeA, if_neg hh, wS, hu, List.headD_cons, main]
      rw [ht]
      simp
      exact main c _
theorem d_pWhole (s : List UInt8) (hs : s.length < 4611686018427387904) (σ : Objs) (hσ : Wf σ) : E cx 15 [.str s] σ = some (.tup [.int .i64 (wS s).1, errV (wS s).2], σ) := by
  rw [d_Whole s hs σ hσ, wholeA_eq]
theorem errV_nogr {k : Int} : (errV k).ng = errV k := by unfold errV; split <;> rfl
theorem errV_rb {n : Nat} {k : Int} : V.rb n (errV k) = true := by unfold errV; split <;> rfl
theorem eq_errV {k : Int} : eB .eql .ifc (errV k) .nili = some (.bool (decide (k = 0))) := by
  unfold errV
  by_cases h : k = 0
  · rw [if_pos h, decide_eq_true h]; rfl
  · rw [if_neg h, decide_eq_false h]; rfl
attribute [go_sem] errV_nogr errV_rb eq_errV
theorem d_speaks : E cx 9 [] [] = some (.bool true, []) := E_run treeAnC_ok (k := 1000000) (n := 400) (by kernel_rfl)
end Go.Proofs.YtkgkmlhljeidhaaGreatDoor
set_option linter.unusedSimpArgs false
set_option linter.unusedVariables false
namespace Go.Ev
open Go
section
variable {α : Type} {f : α → V} {sz : Nat} {l m : List α} {c c' : Cap}
theorem iaddr_map (hf : ∀ x, (f x).cells.length = sz) (d : α) {k : IntKind} {i : Int} (h : 0 ≤ i ∧ i < l.length) : eI sz (.int k i) (.sl (l.map f) c) = some (.eptr (f (l.getD i.toNat d)).cells 0) := by
  have h3 : i.toNat < l.length := by omega
  have h4 : (l.map f).length = l.length := by simp
  have h5 : (l.map f)[i.toNat]? = some (f (l.getD i.toNat d)) := by simp [h3]
  simp only [eI, index, h4, if_pos h, Option.bind_eq_bind, Option.bind_some, h5, hf, if_true]
theorem all_map (hf : ∀ x, (f x).cells.length = sz) : (l.map f).all (fun y => decide (y.cells.length = sz)) = true := by
  rw [List.all_map]
  exact List.all_eq_true.2 fun x _ => by simp [hf]
theorem cut_map (hf : ∀ x, (f x).cells.length = sz) {k k' : IntKind} {a b : Int} (h : 0 ≤ a ∧ a ≤ b ∧ b ≤ l.length) : evCut sz (.sl (l.map f) c) (some (.int k a)) (some (.int k' b)) none = some (.sl (((l.drop a.toNat).take (b.toNat - a.toNat)).map f) .no) := by
  have h1 : bound (.int k' b) (l.map f).length = some b.toNat := by simp [bound]; omega
  have h2 : bound (.int k a) b.toNat = some a.toNat := by simp [bound]; omega
  have h3 : bounds (l.map f).length (some (.int k a)) (some (.int k' b)) none = some (a.toNat, b.toNat, none) := by
    simp only [bounds, Option.getD_none, h1, h2, Option.bind_eq_bind, Option.bind_some, Option.pure_def]
  simp only [evCut, h3, Option.bind_eq_bind, Option.bind_some, all_map hf, if_true, reduceCtorEq, if_false, List.map_drop, List.map_take]
theorem okRow_map {ag : Bool} (hf : ∀ x, (f x).cells.length = sz) (ho : ∀ x, okCells (f x).cells = true) (ha : ∀ x, agOk ag (f x) = true) : okRow ag sz (l.map f) = true := by
  unfold okRow
  rw [List.all_map]
  exact List.all_eq_true.2 fun x _ => by simp [hf, ho, ha]
theorem app_map {ag : Bool} {bytes : Nat} {σ : Objs} (hf : ∀ x, (f x).cells.length = sz) (ho : ∀ x, okCells (f x).cells = true) (ha : ∀ x, agOk ag (f x) = true) (hc : c = .fx ∨ c = .gr sz) (hm : m ≠ []) (hl : (l.length + m.length) * bytes ≤ rowMax) :
    appV false ag sz bytes σ (.sl (l.map f) c) (.sl (m.map f) c') = some (.sl ((l ++ m).map f) (.gr sz)) := by
  have h1 := all_map (l := l) hf
  have h2 : ∃ y ys, m.map f = y :: ys := by
    match m, hm with
    | x :: m, _ => exact ⟨_, _, rfl⟩
  obtain ⟨y, ys, h2⟩ := h2
  have h3 : (l.map f).length + (y :: ys).length = l.length + m.length := by rw [← h2]; simp
  have h4 := okRow_map (l := m) hf ho ha
  rw [h2] at h4
  unfold appV
  simp only [srcOf, Bool.false_eq_true, if_false, rowOf, Option.bind_eq_bind, Option.bind_some]
  rw [h2]
  unfold evApp
  simp only [h4, if_true]
  rw [if_pos ⟨hc, h1, by rw [h3]; exact hl⟩, List.map_append, h2]
end
def ints (l : List Int) : List V := l.map (V.int .i64)
theorem ints_nil : ints [] = [] := rfl
theorem len_ints {l : List Int} : (ints l).length = l.length := by simp [ints]
theorem rbs_ints {n : Nat} {l : List Int} : V.rbs n (ints l) = true := rbs_map fun _ => rfl
theorem iaddr_ints {l : List Int} {c : Cap} {k : IntKind} {i : Int} (h : 0 ≤ i ∧ i < l.length) : eI 1 (.int k i) (.sl (ints l) c) = some (.eptr [.int .i64 (l.getD i.toNat 0)] 0) := iaddr_map (f := V.int .i64) (fun _ => rfl) 0 h
theorem cut_ints {l : List Int} {c : Cap} {k k' : IntKind} {a b : Int} (h : 0 ≤ a ∧ a ≤ b ∧ b ≤ l.length) : evCut 1 (.sl (ints l) c) (some (.int k a)) (some (.int k' b)) none = some (.sl (ints ((l.drop a.toNat).take (b.toNat - a.toNat))) .no) := cut_map (f := V.int .i64) (fun _ => rfl) h
theorem app_int {l : List Int} {x : Int} {c c' : Cap} {σ : Objs} (hc : c = .fx ∨ c = .gr 1) (hl : (l.length + 1) * 8 ≤ rowMax) : appV false false 1 8 σ (.sl (ints l) c) (.sl [.int .i64 x] c') = some (.sl (ints (l ++ [x])) (.gr 1)) :=
  app_map (f := V.int .i64) (m := [x]) (fun _ => rfl) (fun _ => rfl) (fun _ => rfl) hc (by simp) hl
theorem app_bytes {l m : List UInt8} {c c' : Cap} {σ : Objs} (hc : c = .fx ∨ c = .gr 1) (hm : m ≠ []) (hl : l.length + m.length ≤ rowMax) : appV false false 1 1 σ (.sl (ofBytes l) c) (.sl (ofBytes m) c') = some (.sl (ofBytes (l ++ m)) (.gr 1)) :=
  app_map (f := fun b : UInt8 => V.int .u8 b.toNat) (fun _ => rfl) (fun _ => rfl) (fun _ => rfl) hc hm (by simpa using hl)
theorem cut_bytes {l : List UInt8} {c : Cap} {k k' : IntKind} {a b : Int} (h : 0 ≤ a ∧ a ≤ b ∧ b ≤ l.length) : evCut 1 (.sl (ofBytes l) c) (some (.int k a)) (some (.int k' b)) none = some (.sl (ofBytes ((l.drop a.toNat).take (b.toNat - a.toNat))) .no) := cut_map (f := fun b : UInt8 => V.int .u8 b.toNat) (fun _ => rfl) h
theorem bytesOf_of {s : List UInt8} : bytesOf (ofBytes s) = some s := by
  induction s with
  | nil => rfl
  | cons b s ih =>
    show bytesOf (.int .u8 b.toNat :: ofBytes s) = _
    rw [bytesOf_cons, ih]
    simp
attribute [go_sem] len_ints rbs_ints iaddr_ints cut_ints app_int app_bytes cut_bytes bytesOf_of
end Go.Ev
set_option linter.unusedSimpArgs false
set_option linter.unusedVariables false
set_option linter.unusedSectionVars false
namespace Go.Proofs.YtkgkmlhljeidhaaGreatDoor
open Go.Ev
set_option maxRecDepth 100000
def spaceB (c : Int) : Bool := decide (c = 32) || decide (c = 9) || decide (c = 10)
def digitB (c : Int) : Bool := decide (48 ≤ c) && decide (c ≤ 57)
def smallZ (c : Int) : Int := if 65 ≤ c ∧ c ≤ 90 then c + 32 else c
def startB (c : Int) : Bool := decide (97 ≤ smallZ c) && decide (smallZ c ≤ 122) || decide (c = 95) || decide (128 ≤ c)
def nameB (c : Int) : Bool := startB c || digitB c || decide (c = 45)
def rightB (n : Int) : Bool := decide (0 ≤ n) && decide (n < 1114112) && (decide (n < 55296) || decide (57343 < n))
theorem d_Space (c : Int) (σ : Objs) (hσ : Wf σ) : E cx 74 [.int .i64 c] σ = some (.bool (spaceB c), σ) := by
  rw [e_Z1e]
  simp +contextual -implicitDefEqProofs (disch := first | assumption | omega | (simp -implicitDefEqProofs only [go_sem]; try omega)) only [↓reduceIte, go_sem, iP, iN, w64, w8, w32, s_Z1e, spaceB]
theorem d_Small (c : Int) (hc : -1000000000 ≤ c ∧ c ≤ 1000000000) (σ : Objs) (hσ : Wf σ) : E cx 92 [.int .i64 c] σ = some (.int .i64 (smallZ c), σ) := by
  rw [e_Z1d]
  simp +contextual -implicitDefEqProofs (disch := first | assumption | omega | (simp -implicitDefEqProofs only [go_sem]; try omega)) only [↓reduceIte, go_sem, iP, iN, w64, w8, w32, s_Z1d, smallZ]
theorem d_Start (c : Int) (hc : -1000000000 ≤ c ∧ c ≤ 1000000000) (σ : Objs) (hσ : Wf σ) : E cx 112 [.int .i64 c] σ = some (.bool (startB c), σ) := by
  have h := d_Small c hc σ hσ
  rw [e_Z1f]
  simp +contextual -implicitDefEqProofs (disch := first | assumption | omega | (simp -implicitDefEqProofs only [go_sem]; try omega)) only [↓reduceIte, go_sem, iP, iN, w64, w8, w32, s_Z1f, startB, h]
theorem d_Name (c : Int) (hc : -1000000000 ≤ c ∧ c ≤ 1000000000) (σ : Objs) (hσ : Wf σ) : E cx 101 [.int .i64 c] σ = some (.bool (nameB c), σ) := by
  have h := d_Start c hc σ hσ
  have h2 := d_Digit c σ hσ
  rw [e_Z1c]
  simp +contextual -implicitDefEqProofs (disch := first | assumption | omega | (simp -implicitDefEqProofs only [go_sem]; try omega)) only [↓reduceIte, go_sem, iP, iN, w64, w8, w32, s_Z1c, nameB, digitB, h, h2]
theorem d_Right (c : Int) (σ : Objs) (hσ : Wf σ) : E cx 51 [.int .i64 c] σ = some (.bool (rightB c), σ) := by
  rw [e_Z13]
  simp +contextual -implicitDefEqProofs (disch := first | assumption | omega | (simp -implicitDefEqProofs only [go_sem]; try omega)) only [↓reduceIte, go_sem, iP, iN, w64, w8, w32, s_Z13, rightB]
def Chs (l : List Int) : Prop := (∀ c ∈ l, 0 ≤ c ∧ c ≤ 1114111) ∧ l.length ≤ 1000000000
theorem Chs.get {l : List Int} (h : Chs l) (i : Nat) : 0 ≤ l.getD i 0 ∧ l.getD i 0 ≤ 1114111 := by
  by_cases hi : i < l.length
  · have : l.getD i 0 ∈ l := by simp [List.getD_eq_getElem?_getD, hi]
    exact h.1 _ this
  · have : l.getD i 0 = 0 := by simp [List.getD_eq_getElem?_getD, List.getElem?_eq_none (Nat.le_of_not_lt hi)]
    rw [this]; omega
def isB (l : List Int) (i c : Int) : Bool := decide (i < l.length) && decide (l.getD i.toNat 0 = c)
def spB (l : List Int) (i : Int) : Bool := decide (i < l.length) && spaceB (l.getD i.toNat 0)
def dgB (l : List Int) (i : Int) : Bool := decide (i < l.length) && digitB (l.getD i.toNat 0)
def stB (l : List Int) (i : Int) : Bool := decide (i < l.length) && startB (l.getD i.toNat 0)
def inB (l : List Int) (i : Int) : Bool := decide (i < l.length) && nameB (l.getD i.toNat 0)
def escB (l : List Int) (i : Int) : Bool := isB l i 92 && !isB l (i + 1) 10
def nmB (l : List Int) (i : Int) : Bool := if isB l i 45 then isB l (i + 1) 45 || stB l (i + 1) || escB l (i + 1) else stB l i || escB l i
section
variable {l : List Int} (hl : Chs l) {i : Int} (hi : 0 ≤ i ∧ i ≤ 4000000000) (σ : Objs) (hσ : Wf σ)
include hl hi hσ
theorem d_is (c : Int) : E cx 79 [.sl (ints l) .no, .int .i64 i, .int .i64 c] σ = some (.bool (isB l i c), σ) := by
  rw [e_Z1s]
  simp +contextual -implicitDefEqProofs (disch := first | assumption | omega | (simp -implicitDefEqProofs only [go_sem]; try omega)) only [↓reduceIte, go_sem, iP, iN, w64, w8, w32, s_Z1s, isB]
theorem d_space : E cx 75 [.sl (ints l) .no, .int .i64 i] σ = some (.bool (spB l i), σ) := by
  have h := d_Space (l.getD i.toNat 0) σ hσ
  rw [e_Z1y]
  simp +contextual -implicitDefEqProofs (disch := first | assumption | omega | (simp -implicitDefEqProofs only [go_sem]; try omega)) only [↓reduceIte, go_sem, iP, iN, w64, w8, w32, s_Z1y, spB, h]
theorem d_digit : E cx 97 [.sl (ints l) .no, .int .i64 i] σ = some (.bool (dgB l i), σ) := by
  have h := d_Digit (l.getD i.toNat 0) σ hσ
  rw [e_Z1o]
  simp +contextual -implicitDefEqProofs (disch := first | assumption | omega | (simp -implicitDefEqProofs only [go_sem]; try omega)) only [↓reduceIte, go_sem, iP, iN, w64, w8, w32, s_Z1o, dgB, digitB, h]
theorem d_start : E cx 99 [.sl (ints l) .no, .int .i64 i] σ = some (.bool (stB l i), σ) := by
  have hg := hl.get i.toNat
  have h := d_Start (l.getD i.toNat 0) (by omega) σ hσ
  rw [e_Z1z]
  simp +contextual -implicitDefEqProofs (disch := first | assumption | omega | (simp -implicitDefEqProofs only [go_sem]; try omega)) only [↓reduceIte, go_sem, iP, iN, w64, w8, w32, s_Z1z, stB, h]
theorem d_inner : E cx 83 [.sl (ints l) .no, .int .i64 i] σ = some (.bool (inB l i), σ) := by
  have hg := hl.get i.toNat
  have h := d_Name (l.getD i.toNat 0) (by omega) σ hσ
  rw [e_Z1r]
  simp +contextual -implicitDefEqProofs (disch := first | assumption | omega | (simp -implicitDefEqProofs only [go_sem]; try omega)) only [↓reduceIte, go_sem, iP, iN, w64, w8, w32, s_Z1r, inB, h]
end
theorem d_Escape {l : List Int} (hl : Chs l) {i : Int} (hi : 0 ≤ i ∧ i ≤ 3000000000) (σ : Objs) (hσ : Wf σ) : E cx 84 [.sl (ints l) .no, .int .i64 i] σ = some (.bool (escB l i), σ) := by
  have h1 := d_is hl (i := i) (by omega) σ hσ 92
  have h2 := d_is hl (i := i + 1) (by omega) σ hσ 10
  rw [e_Z1h]
  simp +contextual -implicitDefEqProofs (disch := first | assumption | omega | (simp -implicitDefEqProofs only [go_sem]; try omega)) only [↓reduceIte, go_sem, iP, iN, w64, w8, w32, s_Z1h, escB, h1, h2]
theorem d_rName {l : List Int} (hl : Chs l) {i : Int} (hi : 0 ≤ i ∧ i ≤ 2000000000) (σ : Objs) (hσ : Wf σ) : E cx 80 [.sl (ints l) .no, .int .i64 i] σ = some (.bool (nmB l i), σ) := by
  have h1 := d_is hl (i := i) (by omega) σ hσ 45
  have h2 := d_is hl (i := i + 1) (by omega) σ hσ 45
  have h3 := d_start hl (i := i) (by omega) σ hσ
  have h4 := d_start hl (i := i + 1) (by omega) σ hσ
  have h5 := d_Escape hl (i := i) (by omega) σ hσ
  have h6 := d_Escape hl (i := i + 1) (by omega) σ hσ
  rw [e_Z1i]
  cases hb : isB l i 45 with
  | true => simp +contextual -implicitDefEqProofs (disch := first | assumption | omega | (simp -implicitDefEqProofs only [go_sem]; try omega)) only [↓reduceIte, go_sem, iP, iN, w64, w8, w32, s_Z1i, nmB, h1, h2, h3, h4, h5, h6, hb]
  | false => simp +contextual -implicitDefEqProofs (disch := first | assumption | omega | (simp -implicitDefEqProofs only [go_sem]; try omega)) only [↓reduceIte, go_sem, iP, iN, w64, w8, w32, s_Z1i, nmB, h1, h2, h3, h4, h5, h6, hb]
end Go.Proofs.YtkgkmlhljeidhaaGreatDoor
set_option linter.unusedSimpArgs false
set_option linter.unusedVariables false
set_option linter.unusedSectionVars false
namespace Go.Proofs.YtkgkmlhljeidhaaGreatDoor
open Go.Ev
set_option maxRecDepth 100000
def putB (x : Int) : UInt8 := UInt8.ofNat x.toNat
theorem putB_nat {x : Int} (h : 0 ≤ x ∧ x ≤ 255) : ((putB x).toNat : Int) = x := by
  unfold putB
  rw [UInt8.toNat_ofNat']; omega
def putS (n : Int) : List UInt8 :=
  if n < 128 then [putB n]
  else if n < 2048 then [putB (192 + n / 64), putB (128 + n % 64)]
  else if n < 65536 then [putB (224 + n / 4096), putB (128 + n / 64 % 64), putB (128 + n % 64)]
  else [putB (240 + n / 262144), putB (128 + n / 4096 % 64), putB (128 + n / 64 % 64), putB (128 + n % 64)]
theorem putS_len (n : Int) : 0 < (putS n).length ∧ (putS n).length ≤ 4 := by
  unfold putS
  split
  · simp
  · split
    · simp
    · split <;> simp
theorem putS_ne (n : Int) : putS n ≠ [] := by
  have := (putS_len n).1
  intro h; rw [h] at this; simp at this
theorem d_Put (n : Int) (hn : 0 ≤ n ∧ n ≤ 1114111) (σ : Objs) (hσ : Wf σ) : E cx 103 [.int .i64 n] σ = some (.sl (ofBytes (putS n)) .no, σ) := by
  rw [e_Z12]
  by_cases h1 : n < 128
  · simp +contextual -implicitDefEqProofs (disch := first | assumption | omega | (simp -implicitDefEqProofs only [go_sem]; try omega)) only [↓reduceIte, go_sem, iP, iN, w64, w8, w32, s_Z12, putS, ofBytes, putB_nat, tmod_nn, tdiv_nn]
  · by_cases h2 : n < 2048
    · simp +contextual -implicitDefEqProofs (disch := first | assumption | omega | (simp -implicitDefEqProofs only [go_sem]; try omega)) only [↓reduceIte, go_sem, iP, iN, w64, w8, w32, s_Z12, putS, ofBytes, putB_nat, tmod_nn, tdiv_nn]
    · by_cases h3 : n < 65536
      · simp +contextual -implicitDefEqProofs (disch := first | assumption | omega | (simp -implicitDefEqProofs only [go_sem]; try omega)) only [↓reduceIte, go_sem, iP, iN, w64, w8, w32, s_Z12, putS, ofBytes, putB_nat, tmod_nn, tdiv_nn]
      · simp +contextual -implicitDefEqProofs (disch := first | assumption | omega | (simp -implicitDefEqProofs only [go_sem]; try omega)) only [↓reduceIte, go_sem, iP, iN, w64, w8, w32, s_Z12, putS, ofBytes, putB_nat, tmod_nn, tdiv_nn]
def textR (l : List Int) : List UInt8 := l.flatMap fun c => putS (if rightB c then c else 65533)
theorem textR_cons (c : Int) (l : List Int) : textR (c :: l) = putS (if rightB c then c else 65533) ++ textR l := rfl
theorem d_Textloop (l : List Int) (hl : Chs l) : ∀ (r p : List Int) (out : List UInt8) (cap : Cap) (i : Int), l = p ++ r → i = p.length → cap = .fx ∨ cap = .gr 1 → out.length + 4 * r.length ≤ 100000000000 →
    l_Z14_0 (Mi cx) 0 0 [.sl (ints l) .no, .sl (ofBytes out) cap, .int .i64 i] [] = some (.sl (ofBytes (out ++ textR r)) .no, [])
  | [], p, out, cap, i, hp, hi, hc, ho => by
    have hlen : l.length = p.length := by rw [hp]; simp
    rw [u_Z14_0]
    simp +contextual -implicitDefEqProofs (disch := first | assumption | omega | (simp -implicitDefEqProofs only [go_sem]; try omega)) only [↓reduceIte, go_sem, iP, iN, w64, w8, w32, b_Z14_0, j_Z14_0]
    simp [textR]
  | c :: r, p, out, cap, i, hp, hi, hc, ho => by
    have hlen : l.length = p.length + r.length + 1 := by rw [hp]; simp; omega
    have hl2 := hl.2
    have hg : l.getD i.toNat 0 = c := by rw [hp, hi]; simp
    have hcb : 0 ≤ c ∧ c ≤ 1114111 := hl.1 c (by rw [hp]; simp)
    have h1 := d_Right c [] wf_nil
    have hm : rowMax = 140737488355328 := rfl
    have e : out ++ textR (c :: r) = out ++ putS (if rightB c then c else 65533) ++ textR r := by rw [textR_cons, List.append_assoc]
    rw [e]
    rw [u_Z14_0]
    cases hr : rightB c with
    | true =>
      have h2 := d_Put c hcb [] wf_nil
      have h3 := putS_len c
      have h4 := putS_ne c
      rw [hr] at h1
      have ih := d_Textloop l hl r (p ++ [c]) (out ++ putS c) (.gr 1) (i + 1) (by simp [hp]) (by simp; omega) (.inr rfl) (by simp at ho ⊢; omega)
      simp only [if_true]
      simp +contextual -implicitDefEqProofs (disch := first | assumption | omega | (simp -implicitDefEqProofs only [go_sem]; try omega)) only [↓reduceIte, go_sem, iP, iN, w64, w8, w32, b_Z14_0, j_Z14_0, hg, h1, h2, ih]
    | false =>
      have h2 := d_Put 65533 (by omega) [] wf_nil
      have h3 := putS_len 65533
      have h4 := putS_ne 65533
      rw [hr] at h1
      have ih := d_Textloop l hl r (p ++ [c]) (out ++ putS 65533) (.gr 1) (i + 1) (by simp [hp]) (by simp; omega) (.inr rfl) (by simp at ho ⊢; omega)
      simp only [Bool.false_eq_true, if_false]
      simp +contextual -implicitDefEqProofs (disch := first | assumption | omega | (simp -implicitDefEqProofs only [go_sem]; try omega)) only [↓reduceIte, go_sem, iP, iN, w64, w8, w32, b_Z14_0, j_Z14_0, hg, h1, h2, ih]
theorem ofBytes_rb (s : List UInt8) : V.rb 0 (.sl (ofBytes s) .no) = true := rbs_bytes
theorem ints_rb (l : List Int) : V.rb 0 (.sl (ints l) .no) = true := rbs_ints
theorem d_Text (l : List Int) (hl : Chs l) (σ : Objs) (hσ : Wf σ) : E cx 102 [.sl (ints l) .no] σ = some (.sl (ofBytes (textR l)) .no, σ) := by
  refine E_any cx_cl ?_ (by rw [rbs_cons, ints_rb]; rfl) (ofBytes_rb _) σ hσ
  have h := d_Textloop l hl l [] [] .fx 0 rfl rfl (.inl rfl) (by have := hl.2; simp; omega)
  simp only [List.nil_append] at h
  have h' : l_Z14_0 (Mi cx) 0 0 [.sl (ints l) .no, .sl [] .fx, .int .i64 0] [] = some (.sl (ofBytes (textR l)) .no, []) := h
  rw [e_Z14]
  simp +contextual -implicitDefEqProofs (disch := first | assumption | omega | (simp -implicitDefEqProofs only [go_sem]; try omega)) only [↓reduceIte, go_sem, iP, iN, w64, w8, w32, s_Z14, h']
def nz (c : Int) : Int := if c = 0 then 65533 else c
def textS (l : List Int) : List UInt8 := textR (l.map nz)
theorem Chs.nz {l : List Int} (h : Chs l) : Chs (l.map nz) := by
  refine ⟨fun c hc => ?_, by simpa using h.2⟩
  obtain ⟨d, hd, rfl⟩ := List.mem_map.1 hc
  have := h.1 d hd
  unfold Proofs.YtkgkmlhljeidhaaGreatDoor.nz
  split <;> omega
theorem d_textloop (l : List Int) (hl : Chs l) : ∀ (r p out : List Int) (cap : Cap) (i : Int), l = p ++ r → i = p.length → cap = .fx ∨ cap = .gr 1 → out = p.map nz →
    l_Z20_0 (Mi cx) 0 0 [.sl (ints l) .no, .sl (ints out) cap, .int .i64 i] [] = some (.str (textS l), [])
  | [], p, out, cap, i, hp, hi, hc, ho => by
    have hlen : l.length = p.length := by rw [hp]; simp
    have h1 := d_Text (l.map nz) hl.nz [] wf_nil
    have e : out = l.map nz := by rw [ho, hp]; simp
    subst e
    rw [u_Z20_0]
    simp +contextual -implicitDefEqProofs (disch := first | assumption | omega | (simp -implicitDefEqProofs only [go_sem]; try omega)) only [↓reduceIte, go_sem, iP, iN, w64, w8, w32, b_Z20_0, j_Z20_0, h1, textS]
  | c :: r, p, out, cap, i, hp, hi, hc, ho => by
    have hlen : l.length = p.length + r.length + 1 := by rw [hp]; simp; omega
    have hl2 := hl.2
    have hg : l.getD i.toNat 0 = c := by rw [hp, hi]; simp
    have hm : rowMax = 140737488355328 := rfl
    have hol : out.length = p.length := by rw [ho]; simp
    have ih := d_textloop l hl r (p ++ [c]) (out ++ [nz c]) (.gr 1) (i + 1) (by simp [hp]) (by simp; omega) (.inr rfl) (by simp [ho])
    rw [u_Z20_0]
    by_cases h0 : c = 0
    · have e : nz c = 65533 := by simp [nz, h0]
      rw [e] at ih
      simp +contextual -implicitDefEqProofs (disch := first | assumption | omega | (simp -implicitDefEqProofs only [go_sem]; try omega)) only [↓reduceIte, go_sem, iP, iN, w64, w8, w32, b_Z20_0, j_Z20_0, hg, ih, h0]
    · have e : nz c = c := by simp [nz, h0]
      rw [e] at ih
      simp +contextual -implicitDefEqProofs (disch := first | assumption | omega | (simp -implicitDefEqProofs only [go_sem]; try omega)) only [↓reduceIte, go_sem, iP, iN, w64, w8, w32, b_Z20_0, j_Z20_0, hg, ih, h0]
theorem d_text (l : List Int) (hl : Chs l) (c : Cap) (σ : Objs) (hσ : Wf σ) : E cx 85 [.sl (ints l) .no] σ = some (.str (textS l), σ) := by
  refine E_any cx_cl ?_ (by rw [rbs_cons, ints_rb]; rfl) rfl σ hσ
  have h := d_textloop l hl l [] [] .fx 0 rfl rfl (.inl rfl) rfl
  have h' : l_Z20_0 (Mi cx) 0 0 [.sl (ints l) .no, .sl [] .fx, .int .i64 0] [] = some (.str (textS l), []) := h
  rw [e_Z20]
  simp +contextual -implicitDefEqProofs (disch := first | assumption | omega | (simp -implicitDefEqProofs only [go_sem]; try omega)) only [↓reduceIte, go_sem, iP, iN, w64, w8, w32, s_Z20, h']
def hexDs : List UInt8 := [48, 49, 50, 51, 52, 53, 54, 55, 56, 57, 97, 98, 99, 100, 101, 102]
def hexF (s : Int) : List UInt8 → Int → Int
  | [], _ => -1
  | b :: r, i => if (b.toNat : Int) = s then i else hexF s r (i + 1)
def hexZ (c : Int) : Int := hexF (smallZ c) hexDs 0
theorem hexF_le (s : Int) : ∀ (r : List UInt8) (i : Int), 0 ≤ i → -1 ≤ hexF s r i ∧ hexF s r i < i + r.length ∨ (r = [] ∧ hexF s r i = -1)
  | [], i, hi => .inr ⟨rfl, rfl⟩
  | b :: r, i, hi => by
    left
    unfold hexF
    split
    · simp; omega
    · rcases hexF_le s r (i + 1) (by omega) with h | ⟨h1, h2⟩
      · simp at h ⊢; omega
      · rw [h2]; simp; omega
theorem hexZ_le (c : Int) : -1 ≤ hexZ c ∧ hexZ c ≤ 15 := by
  rcases hexF_le (smallZ c) hexDs 0 (by omega) with h | h
  · have : hexDs.length = 16 := rfl
    unfold hexZ; omega
  · exact absurd h.1 (by simp [hexDs])
theorem d_hexloop (c : Int) (hc : 0 ≤ c ∧ c ≤ 1114111) : ∀ (r p : List UInt8) (i : Int), hexDs = p ++ r → i = p.length →
    l_Z1a_0 (Mi cx) 0 0 [.int .i64 c, .str hexDs, .int .i64 i] [] = some (.int .i64 (hexF (smallZ c) r i), [])
  | [], p, i, hp, hi => by
    have hlen : hexDs.length = p.length := by rw [hp]; simp
    have hlen2 : hexDs.length = 16 := rfl
    rw [u_Z1a_0]
    simp +contextual -implicitDefEqProofs (disch := first | assumption | omega | (simp -implicitDefEqProofs only [go_sem]; try omega)) only [↓reduceIte, go_sem, iP, iN, w64, w8, w32, b_Z1a_0, hexF]
  | b :: r, p, i, hp, hi => by
    have hlen : hexDs.length = p.length + r.length + 1 := by rw [hp]; simp; omega
    have hlen2 : hexDs.length = 16 := rfl
    have hb := u8_lt b
    have hg : hexDs.getD i.toNat 0 = b := by rw [hp, hi]; simp
    have h1 := d_Small c (by omega) [] wf_nil
    have ih := d_hexloop c hc r (p ++ [b]) (i + 1) (by simp [hp]) (by simp; omega)
    rw [u_Z1a_0]
    by_cases h : (b.toNat : Int) = smallZ c
    · simp +contextual -implicitDefEqProofs (disch := first | assumption | omega | (simp -implicitDefEqProofs only [go_sem]; try omega)) only [↓reduceIte, go_sem, iP, iN, w64, w8, w32, b_Z1a_0, hexF, hg, h1]
    · simp +contextual -implicitDefEqProofs (disch := first | assumption | omega | (simp -implicitDefEqProofs only [go_sem]; try omega)) only [↓reduceIte, go_sem, iP, iN, w64, w8, w32, b_Z1a_0, hexF, hg, h1, ih]
theorem d_Hex (c : Int) (hc : 0 ≤ c ∧ c ≤ 1114111) (σ : Objs) (hσ : Wf σ) : E cx 111 [.int .i64 c] σ = some (.int .i64 (hexZ c), σ) := by
  refine E_any cx_cl ?_ rfl rfl σ hσ
  have h := d_hexloop c hc hexDs [] 0 rfl rfl
  unfold hexDs at h
  rw [e_Z1a]
  simp +contextual -implicitDefEqProofs (disch := first | assumption | omega | (simp -implicitDefEqProofs only [go_sem]; try omega)) only [↓reduceIte, go_sem, iP, iN, w64, w8, w32, s_Z1a, h, hexZ, hexDs]
end Go.Proofs.YtkgkmlhljeidhaaGreatDoor
set_option linter.unusedSimpArgs false
set_option linter.unusedVariables false
set_option linter.unusedSectionVars false
namespace Go.Proofs.YtkgkmlhljeidhaaGreatDoor
open Go.Ev
set_option maxRecDepth 100000
def valF (l : List Int) : Nat → Int → Int → Int × Int
  | 0, i, n => (i, n)
  | f + 1, i, n => if i < l.length ∧ 0 ≤ hexZ (l.getD i.toNat 0) then valF l f (i + 1) (16 * n + hexZ (l.getD i.toNat 0)) else (i, n)
def valE (l : List Int) (a : Int) (r : Int × Int) : Int × Int :=
  if r.1 = a + 1 then (l.getD r.1.toNat 0, r.1 + 1)
  else (if r.2 = 0 ∨ rightB r.2 = false then 65533 else r.2, if spB l r.1 then r.1 + 1 else r.1)
def valS (l : List Int) (a : Int) : Int × Int := if (l.length : Int) ≤ a + 1 then (65533, a + 1) else valE l a (valF l 6 (a + 1) 0)
theorem valEnd (l : List Int) (hl : Chs l) (a i n : Int) (ha : 0 ≤ a ∧ a + 1 < l.length) (hi : a + 1 ≤ i ∧ i ≤ a + 7) (hn : 0 ≤ n ∧ n ≤ 16777216)
    (hstop : ¬ (i < l.length ∧ i < a + 7 ∧ 0 ≤ hexZ (l.getD i.toNat 0))) :
    l_Z1l_0 (Mi cx) 0 0 [.sl (ints l) .no, .int .i64 a, .int .i64 i, .int .i64 n] [] = some (.tup [.int .i64 (valE l a (i, n)).1, .int .i64 (valE l a (i, n)).2], []) := by
  have hl2 := hl.2
  have hg := hl.get i.toNat
  have hx := hexZ_le (l.getD i.toNat 0)
  have h1 := d_Hex (l.getD i.toNat 0) hg [] wf_nil
  have h2 := d_space hl (i := i) (by omega) [] wf_nil
  have h3 := d_Right n [] wf_nil
  rw [u_Z1l_0]
  by_cases he : i = a + 1
  · subst he
    simp +contextual -implicitDefEqProofs (disch := first | assumption | omega | (simp -implicitDefEqProofs only [go_sem]; try omega)) only [↓reduceIte, go_sem, iP, iN, w64, w8, w32, b_Z1l_0, j_Z1l_0, j_Z1l_1, h1, h2, h3, valE]
  · by_cases hlt : i < l.length ∧ i < a + 7
    · have hh : ¬ 0 ≤ hexZ (l.getD i.toNat 0) := fun h => hstop ⟨hlt.1, hlt.2, h⟩
      cases hs : spB l i <;> cases hr : rightB n <;> by_cases hn0 : n = 0 <;> simp +contextual -implicitDefEqProofs (disch := first | assumption | omega | (simp -implicitDefEqProofs only [go_sem]; try omega)) only [↓reduceIte, go_sem, iP, iN, w64, w8, w32, b_Z1l_0, j_Z1l_0, j_Z1l_1, h1, h2, h3, valE, hs, hr, hn0]
    · cases hs : spB l i <;> cases hr : rightB n <;> by_cases hn0 : n = 0 <;> simp +contextual -implicitDefEqProofs (disch := first | assumption | omega | (simp -implicitDefEqProofs only [go_sem]; try omega)) only [↓reduceIte, go_sem, iP, iN, w64, w8, w32, b_Z1l_0, j_Z1l_0, j_Z1l_1, h1, h2, h3, valE, hs, hr, hn0]
theorem d_valloop (l : List Int) (hl : Chs l) (a : Int) (ha : 0 ≤ a ∧ a + 1 < l.length) : ∀ (f : Nat) (i n : Int), i + f = a + 7 → a + 1 ≤ i → 0 ≤ n → (n + 1) * 16 ^ f ≤ 16777216 →
    l_Z1l_0 (Mi cx) 0 0 [.sl (ints l) .no, .int .i64 a, .int .i64 i, .int .i64 n] [] = some (.tup [.int .i64 (valE l a (valF l f i n)).1, .int .i64 (valE l a (valF l f i n)).2], [])
  | 0, i, n, hf, hi, hn, hp => valEnd l hl a i n ha (by omega) (by simp at hp; omega) (by omega)
  | f + 1, i, n, hf, hi, hn, hp => by
    have hpos0 : (0 : Int) < 16 ^ f := Int.pow_pos (by omega)
    have hpos : (1 : Int) ≤ 16 ^ f := by omega
    have hp2 : (n + 1) * 16 ^ (f + 1) = (16 * n + 16) * 16 ^ f := by rw [Int.pow_succ]; rw [Int.mul_comm (16 ^ f) 16, ← Int.mul_assoc]; congr 1; omega
    have hn1 : (n + 1) * 1 ≤ (n + 1) * 16 ^ (f + 1) := Int.mul_le_mul_of_nonneg_left (by rw [Int.pow_succ]; omega) (by omega)
    have hnb : n ≤ 16777216 := by omega
    have hx := hexZ_le (l.getD i.toNat 0)
    unfold valF
    by_cases hc : i < l.length ∧ 0 ≤ hexZ (l.getD i.toNat 0)
    · rw [if_pos hc]
      have hl2 := hl.2
      have hg := hl.get i.toNat
      have h1 := d_Hex (l.getD i.toNat 0) hg [] wf_nil
      have hq : (16 * n + hexZ (l.getD i.toNat 0) + 1) * 16 ^ f ≤ (16 * n + 16) * 16 ^ f := Int.mul_le_mul_of_nonneg_right (by omega) (by omega)
      have ih := d_valloop l hl a ha f (i + 1) (16 * n + hexZ (l.getD i.toNat 0)) (by omega) (by omega) (by omega) (by omega)
      rw [u_Z1l_0]
      simp +contextual -implicitDefEqProofs (disch := first | assumption | omega | (simp -implicitDefEqProofs only [go_sem]; try omega)) only [↓reduceIte, go_sem, iP, iN, w64, w8, w32, b_Z1l_0, j_Z1l_0, j_Z1l_1, h1, ih]
    · rw [if_neg hc]
      exact valEnd l hl a i n ha (by omega) (by omega) (fun h => hc ⟨h.1, h.2.2⟩)
theorem d_Value (l : List Int) (hl : Chs l) (a : Int) (ha : 0 ≤ a ∧ a ≤ 1000000000) (σ : Objs) (hσ : Wf σ) : E cx 96 [.sl (ints l) .no, .int .i64 a] σ = some (.tup [.int .i64 (valS l a).1, .int .i64 (valS l a).2], σ) := by
  refine E_any cx_cl ?_ (by rw [rbs_cons, ints_rb]; rfl) rfl σ hσ
  have hl2 := hl.2
  rw [e_Z1l]
  by_cases h : (l.length : Int) ≤ a + 1
  · simp +contextual -implicitDefEqProofs (disch := first | assumption | omega | (simp -implicitDefEqProofs only [go_sem]; try omega)) only [↓reduceIte, go_sem, iP, iN, w64, w8, w32, s_Z1l, valS]
  · have h1 := d_valloop l hl a (by omega) 6 (a + 1) 0 (by omega) (by omega) (by omega) (by decide)
    simp +contextual -implicitDefEqProofs (disch := first | assumption | omega | (simp -implicitDefEqProofs only [go_sem]; try omega)) only [↓reduceIte, go_sem, iP, iN, w64, w8, w32, s_Z1l, valS, h1]
theorem valF_pos (l : List Int) : ∀ (f : Nat) (i n : Int), i ≤ l.length → i ≤ (valF l f i n).1 ∧ (valF l f i n).1 ≤ l.length
  | 0, i, n, h => ⟨Int.le_refl _, h⟩
  | f + 1, i, n, h => by
    unfold valF
    split
    · rename_i hc
      have := valF_pos l f (i + 1) (16 * n + hexZ (l.getD i.toNat 0)) (by omega)
      omega
    · exact ⟨Int.le_refl _, h⟩
theorem spB_lt {l : List Int} {i : Int} (h : spB l i = true) : i < l.length := by
  unfold spB at h
  simp only [Bool.and_eq_true, decide_eq_true_eq] at h
  exact h.1
theorem valS_pos (l : List Int) (a : Int) (h : a < l.length) : a + 1 ≤ (valS l a).2 ∧ (valS l a).2 ≤ l.length := by
  unfold valS
  split
  · show a + 1 ≤ a + 1 ∧ a + 1 ≤ (l.length : Int); omega
  · have h1 := valF_pos l 6 (a + 1) 0 (by omega)
    unfold valE
    split
    · rename_i he
      show a + 1 ≤ (valF l 6 (a + 1) 0).1 + 1 ∧ (valF l 6 (a + 1) 0).1 + 1 ≤ (l.length : Int)
      omega
    · show a + 1 ≤ (if spB l (valF l 6 (a + 1) 0).1 then (valF l 6 (a + 1) 0).1 + 1 else (valF l 6 (a + 1) 0).1) ∧ (if spB l (valF l 6 (a + 1) 0).1 then (valF l 6 (a + 1) 0).1 + 1 else (valF l 6 (a + 1) 0).1) ≤ (l.length : Int)
      split
      · rename_i hs
        have := spB_lt hs
        omega
      · omega
theorem rightB_le {n : Int} (h : rightB n = true) : 0 ≤ n ∧ n ≤ 1114111 := by
  unfold rightB at h
  simp only [Bool.and_eq_true, decide_eq_true_eq] at h
  omega
theorem valS_val (l : List Int) (hl : Chs l) (a : Int) : 0 ≤ (valS l a).1 ∧ (valS l a).1 ≤ 1114111 := by
  unfold valS
  split
  · show (0 : Int) ≤ 65533 ∧ (65533 : Int) ≤ 1114111; omega
  · unfold valE
    split
    · exact hl.get _
    · show 0 ≤ (if (valF l 6 (a + 1) 0).2 = 0 ∨ rightB (valF l 6 (a + 1) 0).2 = false then (65533 : Int) else (valF l 6 (a + 1) 0).2) ∧ (if (valF l 6 (a + 1) 0).2 = 0 ∨ rightB (valF l 6 (a + 1) 0).2 = false then (65533 : Int) else (valF l 6 (a + 1) 0).2) ≤ 1114111
      split
      · omega
      · rename_i h
        have : rightB (valF l 6 (a + 1) 0).2 = true := by
          cases hr : rightB (valF l 6 (a + 1) 0).2
          · exact absurd (.inr hr) h
          · rfl
        exact rightB_le this
def namesF (l : List Int) : Nat → Int → List Int → List Int × Int
  | 0, a, out => (out, a)
  | f + 1, a, out => if inB l a then namesF l f (a + 1) (out ++ [l.getD a.toNat 0]) else if escB l a then namesF l f (valS l a).2 (out ++ [(valS l a).1]) else (out, a)
def namesS (l : List Int) (a : Int) : List UInt8 × Int := (textS (namesF l (l.length + 1) a []).1, (namesF l (l.length + 1) a []).2)
theorem inB_lt {l : List Int} {i : Int} (h : inB l i = true) : i < l.length := by
  unfold inB at h
  simp only [Bool.and_eq_true, decide_eq_true_eq] at h
  exact h.1
theorem isB_lt {l : List Int} {i c : Int} (h : isB l i c = true) : i < l.length := by
  unfold isB at h
  simp only [Bool.and_eq_true, decide_eq_true_eq] at h
  exact h.1
theorem escB_lt {l : List Int} {i : Int} (h : escB l i = true) : i < l.length := by
  unfold escB at h
  simp only [Bool.and_eq_true] at h
  exact isB_lt h.1
theorem chs_snoc {out : List Int} {x : Int} (h : ∀ c ∈ out, 0 ≤ c ∧ c ≤ 1114111) (hx : 0 ≤ x ∧ x ≤ 1114111) : ∀ c ∈ out ++ [x], 0 ≤ c ∧ c ≤ 1114111 := by
  intro c hc
  rcases List.mem_append.1 hc with hc | hc
  · exact h c hc
  · rw [List.mem_singleton.1 hc]; exact hx
theorem d_namesloop (l : List Int) (hl : Chs l) : ∀ (f : Nat) (a : Int) (out : List Int) (cap : Cap), (l.length : Int) - a < f → 0 ≤ a ∧ a ≤ l.length → cap = .fx ∨ cap = .gr 1 → (∀ c ∈ out, 0 ≤ c ∧ c ≤ 1114111) → (out.length : Int) ≤ a →
    l_Z1t_0 (Mi cx) 0 0 [.sl (ints l) .no, .int .i64 a, .sl (ints out) cap] [] = some (.tup [.str (textS (namesF l f a out).1), .int .i64 (namesF l f a out).2], [])
  | 0, a, out, cap, hf, ha, hc, ho, hn => by omega
  | f + 1, a, out, cap, hf, ha, hc, ho, hn => by
    have hl2 := hl.2
    have hm : rowMax = 140737488355328 := rfl
    have h1 := d_inner hl (i := a) (by omega) [] wf_nil
    have h2 := d_Escape hl (i := a) (by omega) [] wf_nil
    rw [u_Z1t_0]
    cases hin : inB l a with
    | true =>
      have hlt := inB_lt hin
      have hg := hl.get a.toNat
      have ih := d_namesloop l hl f (a + 1) (out ++ [l.getD a.toNat 0]) (.gr 1) (by omega) (by omega) (.inr rfl) (chs_snoc ho hg) (by simp; omega)
      simp +contextual -implicitDefEqProofs (disch := first | assumption | omega | (simp -implicitDefEqProofs only [go_sem]; try omega)) only [↓reduceIte, go_sem, iP, iN, w64, w8, w32, b_Z1t_0, j_Z1t_0, h1, hin, ih, namesF]
    | false =>
      cases hes : escB l a with
      | true =>
        have hlt := escB_lt hes
        have h3 := d_Value l hl a (by omega) [] wf_nil
        have hv := valS_pos l a hlt
        have ih := d_namesloop l hl f (valS l a).2 (out ++ [(valS l a).1]) (.gr 1) (by omega) (by omega) (.inr rfl) (chs_snoc ho (valS_val l hl a)) (by simp; omega)
        simp +contextual -implicitDefEqProofs (disch := first | assumption | omega | (simp -implicitDefEqProofs only [go_sem]; try omega)) only [↓reduceIte, go_sem, iP, iN, w64, w8, w32, b_Z1t_0, j_Z1t_0, h1, h2, h3, hin, hes, ih, namesF]
      | false =>
        have h3 := d_text out ⟨ho, by omega⟩ .no [] wf_nil
        simp +contextual -implicitDefEqProofs (disch := first | assumption | omega | (simp -implicitDefEqProofs only [go_sem]; try omega)) only [↓reduceIte, go_sem, iP, iN, w64, w8, w32, b_Z1t_0, j_Z1t_0, h1, h2, h3, hin, hes, namesF]
theorem d_names (l : List Int) (hl : Chs l) (a : Int) (ha : 0 ≤ a ∧ a ≤ l.length) (σ : Objs) (hσ : Wf σ) : E cx 82 [.sl (ints l) .no, .int .i64 a] σ = some (.tup [.str (namesS l a).1, .int .i64 (namesS l a).2], σ) := by
  refine E_any cx_cl ?_ (by rw [rbs_cons, ints_rb]; rfl) rfl σ hσ
  have h := d_namesloop l hl (l.length + 1) a [] .fx (by omega) ha (.inl rfl) (by simp) (by simp; omega)
  have h' : l_Z1t_0 (Mi cx) 0 0 [.sl (ints l) .no, .int .i64 a, .sl [] .fx] [] = some (.tup [.str (namesS l a).1, .int .i64 (namesS l a).2], []) := h
  rw [e_Z1t]
  simp +contextual -implicitDefEqProofs (disch := first | assumption | omega | (simp -implicitDefEqProofs only [go_sem]; try omega)) only [↓reduceIte, go_sem, iP, iN, w64, w8, w32, s_Z1t, h']
end Go.Proofs.YtkgkmlhljeidhaaGreatDoor
set_option linter.unusedSimpArgs false
set_option linter.unusedVariables false
set_option linter.unusedSectionVars false
namespace Go.Proofs.YtkgkmlhljeidhaaGreatDoor
open Go.Ev
set_option maxRecDepth 100000
def sgB (l : List Int) (a : Int) : Bool := isB l a 43 || isB l a 45
def sg (l : List Int) (a : Int) : Int := if sgB l a then a + 1 else a
def numB (l : List Int) (a : Int) : Bool := dgB l (sg l a) || isB l (sg l a) 46 && dgB l (sg l a + 1)
def dgE (l : List Int) : Nat → Int → Int
  | 0, a => a
  | f + 1, a => if dgB l a then dgE l f (a + 1) else a
def dE (l : List Int) (a : Int) : Int := dgE l (l.length + 1) a
def expS (l : List Int) (a : Int) (w : Bool) : Int × Bool :=
  if isB l a 101 || isB l a 69 then (if dgB l (sg l (a + 1)) then (dE l (sg l (a + 1)), false) else (a, w)) else (a, w)
def fracS (l : List Int) (a : Int) (w : Bool) : Int × Bool := if isB l a 46 && dgB l (a + 1) then expS l (dE l (a + 1)) false else expS l a w
def digS (l : List Int) (a : Int) : Int × Bool := fracS l (dE l (sg l a)) true
theorem dgB_lt {l : List Int} {i : Int} (h : dgB l i = true) : i < l.length := by
  unfold dgB at h
  simp only [Bool.and_eq_true, decide_eq_true_eq] at h
  exact h.1
theorem sg_pos (l : List Int) (a : Int) : a ≤ sg l a ∧ sg l a ≤ a + 1 ∧ (a ≤ l.length → sg l a ≤ l.length) := by
  unfold sg
  split
  · rename_i h
    unfold sgB at h
    rcases (Bool.or_eq_true _ _).mp h with h | h
    · have := isB_lt h; omega
    · have := isB_lt h; omega
  · omega
theorem dgE_pos (l : List Int) : ∀ (f : Nat) (a : Int), a ≤ l.length → a ≤ dgE l f a ∧ dgE l f a ≤ l.length
  | 0, a, h => ⟨Int.le_refl _, h⟩
  | f + 1, a, h => by
    unfold dgE
    split
    · rename_i hd
      have h1 := dgB_lt hd
      have := dgE_pos l f (a + 1) (by omega)
      omega
    · exact ⟨Int.le_refl _, h⟩
theorem dE_pos (l : List Int) (a : Int) (h : a ≤ l.length) : a ≤ dE l a ∧ dE l a ≤ l.length := dgE_pos l _ a h
section
variable {l : List Int} (hl : Chs l)
include hl
theorem d_dig1 : ∀ (f : Nat) (a : Int) (w : Bool), (l.length : Int) - a < f → 0 ≤ a ∧ a ≤ l.length →
    l_Z1p_1 (Mi cx) 0 0 [.sl (ints l) .no, .int .i64 a, .bool w] [] = some (.tup [.int .i64 (dgE l f a), .bool w], [])
  | 0, a, w, hf, ha => by omega
  | f + 1, a, w, hf, ha => by
    have hl2 := hl.2
    have h1 := d_digit hl (i := a) (by omega) [] wf_nil
    rw [u_Z1p_1]
    cases hd : dgB l a with
    | true =>
      have hlt := dgB_lt hd
      have ih := d_dig1 f (a + 1) w (by omega) (by omega)
      simp +contextual -implicitDefEqProofs (disch := first | assumption | omega | (simp -implicitDefEqProofs only [go_sem]; try omega)) only [↓reduceIte, go_sem, iP, iN, w64, w8, w32, b_Z1p_1, j_Z1p_2, h1, hd, ih, dgE]
    | false => simp +contextual -implicitDefEqProofs (disch := first | assumption | omega | (simp -implicitDefEqProofs only [go_sem]; try omega)) only [↓reduceIte, go_sem, iP, iN, w64, w8, w32, b_Z1p_1, j_Z1p_2, h1, hd, dgE]
theorem d_exp (a : Int) (w : Bool) (ha : 0 ≤ a ∧ a ≤ l.length) :
    j_Z1p_1 (Mi cx) 0 (.sl (ints l) .no) (.int .i64 a) (.bool w) [] = some (.tup [.int .i64 (expS l a w).1, .bool (expS l a w).2], []) := by
  have hl2 := hl.2
  have h1 := d_is hl (i := a) (by omega) [] wf_nil 101
  have h2 := d_is hl (i := a) (by omega) [] wf_nil 69
  have h3 := d_is hl (i := a + 1) (by omega) [] wf_nil 43
  have h4 := d_is hl (i := a + 1) (by omega) [] wf_nil 45
  have h5 := d_digit hl (i := a + 1) (by omega) [] wf_nil
  have h6 := d_digit hl (i := a + 1 + 1) (by omega) [] wf_nil
  cases hE : (isB l a 101 || isB l a 69) with
  | false =>
    have e : expS l a w = (a, w) := by unfold expS; rw [hE]; rfl
    rw [e]
    have e1 : isB l a 101 = false := by cases h : isB l a 101 <;> simp [h] at hE ⊢
    have e2 : isB l a 69 = false := by cases h : isB l a 69 <;> simp [h] at hE ⊢
    simp +contextual -implicitDefEqProofs (disch := first | assumption | omega | (simp -implicitDefEqProofs only [go_sem]; try omega)) only [↓reduceIte, go_sem, iP, iN, w64, w8, w32, j_Z1p_1, j_Z1p_2, h1, h2, e1, e2]
  | true =>
    have hS : (isB l (a + 1) 43 || isB l (a + 1) 45) = sgB l (a + 1) := rfl
    have hlt : a < l.length := by
      rcases (Bool.or_eq_true _ _).mp hE with h | h
      · exact isB_lt h
      · exact isB_lt h
    have hEp : isB l a 101 = true ∨ isB l a 69 = true := (Bool.or_eq_true _ _).mp hE
    cases hs : sgB l (a + 1) with
    | true =>
      have es : sg l (a + 1) = a + 1 + 1 := by unfold sg; rw [hs]; rfl
      have hsp := (sg_pos l (a + 1)).2.2 (by omega)
      have hSp : isB l (a + 1) 43 = true ∨ isB l (a + 1) 45 = true := (Bool.or_eq_true _ _).mp hs
      cases hd : dgB l (a + 1 + 1) with
      | true =>
        have hlt2 := dgB_lt hd
        have h7 := d_dig1 hl (l.length + 1) (a + 1 + 1) false (by omega) (by omega)
        have e : expS l a w = (dgE l (l.length + 1) (a + 1 + 1), false) := by unfold expS; rw [hE, es, hd]; rfl
        rw [e]
        simp +contextual -implicitDefEqProofs (disch := first | assumption | omega | (simp -implicitDefEqProofs only [go_sem]; try omega)) only [↓reduceIte, go_sem, iP, iN, w64, w8, w32, j_Z1p_1, j_Z1p_2, j_Z1p_3, h1, h2, h3, h4, h5, h6, hd, h7, hEp, hSp]
      | false =>
        have e : expS l a w = (a, w) := by unfold expS; rw [hE, es, hd]; rfl
        rw [e]
        simp +contextual -implicitDefEqProofs (disch := first | assumption | omega | (simp -implicitDefEqProofs only [go_sem]; try omega)) only [↓reduceIte, go_sem, iP, iN, w64, w8, w32, j_Z1p_1, j_Z1p_2, j_Z1p_3, h1, h2, h3, h4, h5, h6, hd, hEp, hSp]
    | false =>
      have es : sg l (a + 1) = a + 1 := by unfold sg; rw [hs]; rfl
      have e1 : isB l (a + 1) 43 = false := by cases h : isB l (a + 1) 43 <;> simp [sgB, h] at hs ⊢
      have e2 : isB l (a + 1) 45 = false := by cases h : isB l (a + 1) 45 <;> simp [sgB, h] at hs ⊢
      cases hd : dgB l (a + 1) with
      | true =>
        have hlt2 := dgB_lt hd
        have h7 := d_dig1 hl (l.length + 1) (a + 1) false (by omega) (by omega)
        have e : expS l a w = (dgE l (l.length + 1) (a + 1), false) := by unfold expS; rw [hE, es, hd]; rfl
        rw [e]
        simp +contextual -implicitDefEqProofs (disch := first | assumption | omega | (simp -implicitDefEqProofs only [go_sem]; try omega)) only [↓reduceIte, go_sem, iP, iN, w64, w8, w32, j_Z1p_1, j_Z1p_2, j_Z1p_3, h1, h2, h3, h4, h5, h6, hd, h7, hEp, e1, e2]
      | false =>
        have e : expS l a w = (a, w) := by unfold expS; rw [hE, es, hd]; rfl
        rw [e]
        simp +contextual -implicitDefEqProofs (disch := first | assumption | omega | (simp -implicitDefEqProofs only [go_sem]; try omega)) only [↓reduceIte, go_sem, iP, iN, w64, w8, w32, j_Z1p_1, j_Z1p_2, j_Z1p_3, h1, h2, h3, h4, h5, h6, hd, hEp, e1, e2]
theorem d_dig2 : ∀ (f : Nat) (a : Int) (w : Bool), (l.length : Int) - a < f → 0 ≤ a ∧ a ≤ l.length →
    l_Z1p_2 (Mi cx) 0 0 [.sl (ints l) .no, .int .i64 a, .bool w] [] = some (.tup [.int .i64 (expS l (dgE l f a) w).1, .bool (expS l (dgE l f a) w).2], [])
  | 0, a, w, hf, ha => by omega
  | f + 1, a, w, hf, ha => by
    have hl2 := hl.2
    have h1 := d_digit hl (i := a) (by omega) [] wf_nil
    rw [u_Z1p_2]
    cases hd : dgB l a with
    | true =>
      have hlt := dgB_lt hd
      have ih := d_dig2 f (a + 1) w (by omega) (by omega)
      simp +contextual -implicitDefEqProofs (disch := first | assumption | omega | (simp -implicitDefEqProofs only [go_sem]; try omega)) only [↓reduceIte, go_sem, iP, iN, w64, w8, w32, b_Z1p_2, h1, hd, ih, dgE]
    | false =>
      have h2 := d_exp hl a w ha
      simp +contextual -implicitDefEqProofs (disch := first | assumption | omega | (simp -implicitDefEqProofs only [go_sem]; try omega)) only [↓reduceIte, go_sem, iP, iN, w64, w8, w32, b_Z1p_2, h1, hd, h2, dgE]
theorem d_dig0 : ∀ (f : Nat) (a : Int) (w : Bool), (l.length : Int) - a < f → 0 ≤ a ∧ a ≤ l.length →
    l_Z1p_0 (Mi cx) 0 0 [.sl (ints l) .no, .int .i64 a, .bool w] [] = some (.tup [.int .i64 (fracS l (dgE l f a) w).1, .bool (fracS l (dgE l f a) w).2], [])
  | 0, a, w, hf, ha => by omega
  | f + 1, a, w, hf, ha => by
    have hl2 := hl.2
    have h1 := d_digit hl (i := a) (by omega) [] wf_nil
    rw [u_Z1p_0]
    cases hd : dgB l a with
    | true =>
      have hlt := dgB_lt hd
      have ih := d_dig0 f (a + 1) w (by omega) (by omega)
      simp +contextual -implicitDefEqProofs (disch := first | assumption | omega | (simp -implicitDefEqProofs only [go_sem]; try omega)) only [↓reduceIte, go_sem, iP, iN, w64, w8, w32, b_Z1p_0, h1, hd, ih, dgE]
    | false =>
      have h2 := d_exp hl a w ha
      have h3 := d_is hl (i := a) (by omega) [] wf_nil 46
      have h4 := d_digit hl (i := a + 1) (by omega) [] wf_nil
      cases hi : isB l a 46 with
      | false => simp +contextual -implicitDefEqProofs (disch := first | assumption | omega | (simp -implicitDefEqProofs only [go_sem]; try omega)) only [↓reduceIte, go_sem, iP, iN, w64, w8, w32, b_Z1p_0, h1, hd, h2, h3, dgE, hi, fracS]
      | true =>
        cases hd2 : dgB l (a + 1) with
        | false => simp +contextual -implicitDefEqProofs (disch := first | assumption | omega | (simp -implicitDefEqProofs only [go_sem]; try omega)) only [↓reduceIte, go_sem, iP, iN, w64, w8, w32, b_Z1p_0, h1, hd, h2, h3, h4, dgE, hi, hd2, fracS]
        | true =>
          have hlt := dgB_lt hd2
          have h5 := d_dig2 hl (l.length + 1) (a + 1) false (by omega) (by omega)
          simp +contextual -implicitDefEqProofs (disch := first | assumption | omega | (simp -implicitDefEqProofs only [go_sem]; try omega)) only [↓reduceIte, go_sem, iP, iN, w64, w8, w32, b_Z1p_0, h1, hd, h2, h3, h4, h5, dgE, hi, hd2, fracS, dE]
theorem d_rdigits (a : Int) (ha : 0 ≤ a ∧ a ≤ l.length) (σ : Objs) (hσ : Wf σ) : E cx 98 [.sl (ints l) .no, .int .i64 a] σ = some (.tup [.int .i64 (digS l a).1, .bool (digS l a).2], σ) := by
  refine E_any cx_cl ?_ (by rw [rbs_cons, ints_rb]; rfl) rfl σ hσ
  have hl2 := hl.2
  have h1 := d_is hl (i := a) (by omega) [] wf_nil 43
  have h2 := d_is hl (i := a) (by omega) [] wf_nil 45
  have hp := sg_pos l a
  have h3 := d_dig0 hl (l.length + 1) (sg l a) true (by omega) (by omega)
  have e : (fracS l (dgE l (l.length + 1) (sg l a)) true) = digS l a := rfl
  rw [e] at h3
  rw [e_Z1p]
  cases hs : sgB l a with
  | true =>
    have es : sg l a = a + 1 := by unfold sg; rw [hs]; rfl
    rw [es] at h3
    have hSp : isB l a 43 = true ∨ isB l a 45 = true := (Bool.or_eq_true _ _).mp hs
    simp +contextual -implicitDefEqProofs (disch := first | assumption | omega | (simp -implicitDefEqProofs only [go_sem]; try omega)) only [↓reduceIte, go_sem, iP, iN, w64, w8, w32, s_Z1p, j_Z1p_0, h1, h2, h3, hSp]
  | false =>
    have es : sg l a = a := by unfold sg; rw [hs]; rfl
    rw [es] at h3
    have e1 : isB l a 43 = false := by cases h : isB l a 43 <;> simp [sgB, h] at hs ⊢
    have e2 : isB l a 45 = false := by cases h : isB l a 45 <;> simp [sgB, h] at hs ⊢
    simp +contextual -implicitDefEqProofs (disch := first | assumption | omega | (simp -implicitDefEqProofs only [go_sem]; try omega)) only [↓reduceIte, go_sem, iP, iN, w64, w8, w32, s_Z1p, j_Z1p_0, h1, h2, h3, e1, e2]
theorem d_number (a : Int) (ha : 0 ≤ a ∧ a ≤ l.length) (σ : Objs) (hσ : Wf σ) : E cx 77 [.sl (ints l) .no, .int .i64 a] σ = some (.bool (numB l a), σ) := by
  have hl2 := hl.2
  have h1 := d_is hl (i := a) (by omega) σ hσ 43
  have h2 := d_is hl (i := a) (by omega) σ hσ 45
  have hp := sg_pos l a
  have h3 := d_digit hl (i := sg l a) (by omega) σ hσ
  have h4 := d_is hl (i := sg l a) (by omega) σ hσ 46
  have h5 := d_digit hl (i := sg l a + 1) (by omega) σ hσ
  rw [e_Z1u]
  unfold numB
  cases hs : sgB l a with
  | true =>
    have es : sg l a = a + 1 := by unfold sg; rw [hs]; rfl
    rw [es] at h3 h4 h5 ⊢
    have hSp : isB l a 43 = true ∨ isB l a 45 = true := (Bool.or_eq_true _ _).mp hs
    simp +contextual -implicitDefEqProofs (disch := first | assumption | omega | (simp -implicitDefEqProofs only [go_sem]; try omega)) only [↓reduceIte, go_sem, iP, iN, w64, w8, w32, s_Z1u, j_Z1u_0, h1, h2, h3, h4, h5, hSp]
  | false =>
    have es : sg l a = a := by unfold sg; rw [hs]; rfl
    rw [es] at h3 h4 h5 ⊢
    have e1 : isB l a 43 = false := by cases h : isB l a 43 <;> simp [sgB, h] at hs ⊢
    have e2 : isB l a 45 = false := by cases h : isB l a 45 <;> simp [sgB, h] at hs ⊢
    simp +contextual -implicitDefEqProofs (disch := first | assumption | omega | (simp -implicitDefEqProofs only [go_sem]; try omega)) only [↓reduceIte, go_sem, iP, iN, w64, w8, w32, s_Z1u, j_Z1u_0, h1, h2, h3, h4, h5, e1, e2]
end
end Go.Proofs.YtkgkmlhljeidhaaGreatDoor
set_option linter.unusedSimpArgs false
set_option linter.unusedVariables false
set_option linter.unusedSectionVars false
namespace Go.Proofs.YtkgkmlhljeidhaaGreatDoor
open Go.Ev
set_option maxRecDepth 100000
def hidB (c : Int) : Bool := decide (c ≤ 8) || decide (c = 11) || decide (14 ≤ c) && decide (c ≤ 31) || decide (c = 127)
theorem d_hidden (c : Int) (σ : Objs) (hσ : Wf σ) : E cx 113 [.int .i64 c] σ = some (.bool (hidB c), σ) := by
  rw [e_Z1q]
  simp +contextual -implicitDefEqProofs (disch := first | assumption | omega | (simp -implicitDefEqProofs only [go_sem]; try omega)) only [↓reduceIte, go_sem, iP, iN, w64, w8, w32, s_Z1q, hidB]
def cendB (l : List Int) (i : Int) : Bool := isB l i 42 && isB l (i + 1) 47
def inE (l : List Int) : Nat → Int → Int
  | 0, a => a
  | f + 1, a => if decide (a < l.length) && !cendB l a then inE l f (a + 1) else a
def comB (l : List Int) (i : Int) : Bool := isB l i 47 && isB l (i + 1) 42
def comE (l : List Int) (a : Int) : Int := if inE l (l.length + 3) (a + 2) + 2 > l.length then l.length else inE l (l.length + 3) (a + 2) + 2
def behE (l : List Int) : Nat → Int → Int
  | 0, a => a
  | f + 1, a => if comB l a then behE l f (comE l a) else a
def behS (l : List Int) (a : Int) : Int := behE l (l.length + 1) a
theorem inE_pos (l : List Int) : ∀ (f : Nat) (a : Int), a ≤ inE l f a ∧ (a ≤ l.length → inE l f a ≤ l.length)
  | 0, a => ⟨Int.le_refl _, id⟩
  | f + 1, a => by
    unfold inE
    split
    · rename_i h
      have h1 := of_decide_eq_true (Bool.and_eq_true _ _ ▸ h).1
      have := inE_pos l f (a + 1)
      omega
    · exact ⟨Int.le_refl _, id⟩
theorem comB_lt {l : List Int} {a : Int} (h : comB l a = true) : a + 1 < l.length := isB_lt (Bool.and_eq_true _ _ ▸ h).2
theorem comE_pos (l : List Int) (a : Int) (h : comB l a = true) : a < comE l a ∧ comE l a ≤ l.length := by
  have h1 := comB_lt h
  have := inE_pos l (l.length + 3) (a + 2)
  unfold comE
  split <;> omega
theorem behE_pos (l : List Int) : ∀ (f : Nat) (a : Int), a ≤ l.length → a ≤ behE l f a ∧ behE l f a ≤ l.length
  | 0, a, h => ⟨Int.le_refl _, h⟩
  | f + 1, a, h => by
    unfold behE
    split
    · rename_i hc
      have h1 := comE_pos l a hc
      have := behE_pos l f (comE l a) h1.2
      omega
    · exact ⟨Int.le_refl _, h⟩
section
variable {l : List Int} (hl : Chs l)
include hl
theorem d_beh1 (r1 : Rk) : ∀ (f : Nat) (a : Int), (l.length : Int) + 2 - a < f → 0 ≤ a ∧ a ≤ (l.length : Int) + 1 →
    l_Z1m_1 (Mi cx) 0 0 r1 0 [.sl (ints l) .no, .int .i64 a] [] =
      r1 [.sl (ints l) .no, .int .i64 (if inE l f a + 2 > l.length then l.length else inE l f a + 2)] []
  | 0, a, hf, ha => by omega
  | f + 1, a, hf, ha => by
    have hl2 := hl.2
    have h1 := d_is hl (i := a) (by omega) [] wf_nil 42
    have h2 := d_is hl (i := a + 1) (by omega) [] wf_nil 47
    rw [u_Z1m_1]
    by_cases hlt : a < l.length
    · cases hd : cendB l a with
      | true =>
        have e1 : isB l a 42 = true := (Bool.and_eq_true _ _ ▸ hd).1
        have e2 : isB l (a + 1) 47 = true := (Bool.and_eq_true _ _ ▸ hd).2
        by_cases hq : (l.length : Int) < a + 2
        · simp +contextual -implicitDefEqProofs (disch := first | assumption | omega | (simp -implicitDefEqProofs only [go_sem]; try omega)) only [↓reduceIte, go_sem, iP, iN, w64, w8, w32, b_Z1m_1, j_Z1m_0, h1, h2, e1, e2, inE, hd, hq, hlt]
        · simp +contextual -implicitDefEqProofs (disch := first | assumption | omega | (simp -implicitDefEqProofs only [go_sem]; try omega)) only [↓reduceIte, go_sem, iP, iN, w64, w8, w32, b_Z1m_1, j_Z1m_0, h1, h2, e1, e2, inE, hd, hq, hlt]
      | false =>
        have ih := d_beh1 r1 f (a + 1) (by omega) (by omega)
        cases e1 : isB l a 42 with
        | false => simp +contextual -implicitDefEqProofs (disch := first | assumption | omega | (simp -implicitDefEqProofs only [go_sem]; try omega)) only [↓reduceIte, go_sem, iP, iN, w64, w8, w32, b_Z1m_1, j_Z1m_0, h1, h2, e1, inE, hd, hlt, ih]
        | true =>
          have e2 : isB l (a + 1) 47 = false := by
            cases e2 : isB l (a + 1) 47 with
            | false => rfl
            | true => exfalso; unfold cendB at hd; rw [e1, e2] at hd; cases hd
          simp +contextual -implicitDefEqProofs (disch := first | assumption | omega | (simp -implicitDefEqProofs only [go_sem]; try omega)) only [↓reduceIte, go_sem, iP, iN, w64, w8, w32, b_Z1m_1, j_Z1m_0, h1, h2, e1, e2, inE, hd, hlt, ih]
    · have hq : (l.length : Int) < a + 2 := by omega
      simp +contextual -implicitDefEqProofs (disch := first | assumption | omega | (simp -implicitDefEqProofs only [go_sem]; try omega)) only [↓reduceIte, go_sem, iP, iN, w64, w8, w32, b_Z1m_1, j_Z1m_0, inE, hlt, hq]
theorem d_beh0 : ∀ (f : Nat) (a : Int), (l.length : Int) - a < f → 0 ≤ a ∧ a ≤ l.length →
    l_Z1m_0 (Mi cx) 0 0 [.sl (ints l) .no, .int .i64 a] [] = some (.int .i64 (behE l f a), [])
  | 0, a, hf, ha => by omega
  | f + 1, a, hf, ha => by
    have hl2 := hl.2
    have h1 := d_is hl (i := a) (by omega) [] wf_nil 47
    have h2 := d_is hl (i := a + 1) (by omega) [] wf_nil 42
    rw [u_Z1m_0]
    cases hd : comB l a with
    | true =>
      have e1 : isB l a 47 = true := (Bool.and_eq_true _ _ ▸ hd).1
      have e2 : isB l (a + 1) 42 = true := (Bool.and_eq_true _ _ ▸ hd).2
      have hlt := comB_lt hd
      have h3 := d_beh1 hl (l_Z1m_0 (Mi cx) 0 0) (l.length + 3) (a + 2) (by omega) (by omega)
      have hp := comE_pos l a hd
      have ih := d_beh0 f (comE l a) (by omega) (by omega)
      rw [← comE] at h3
      simp +contextual -implicitDefEqProofs (disch := first | assumption | omega | (simp -implicitDefEqProofs only [go_sem]; try omega)) only [↓reduceIte, go_sem, iP, iN, w64, w8, w32, b_Z1m_0, h1, h2, e1, e2, h3, ih, behE, hd]
    | false =>
      cases e1 : isB l a 47 with
      | false => simp +contextual -implicitDefEqProofs (disch := first | assumption | omega | (simp -implicitDefEqProofs only [go_sem]; try omega)) only [↓reduceIte, go_sem, iP, iN, w64, w8, w32, b_Z1m_0, h1, h2, e1, behE, hd]
      | true =>
        have e2 : isB l (a + 1) 42 = false := by
          cases e2 : isB l (a + 1) 42 with
          | false => rfl
          | true => exfalso; unfold comB at hd; rw [e1, e2] at hd; cases hd
        simp +contextual -implicitDefEqProofs (disch := first | assumption | omega | (simp -implicitDefEqProofs only [go_sem]; try omega)) only [↓reduceIte, go_sem, iP, iN, w64, w8, w32, b_Z1m_0, h1, h2, e1, e2, behE, hd]
theorem d_behind (a : Int) (ha : 0 ≤ a ∧ a ≤ l.length) (σ : Objs) (hσ : Wf σ) : E cx 73 [.sl (ints l) .no, .int .i64 a] σ = some (.int .i64 (behS l a), σ) := by
  refine E_any cx_cl ?_ (by rw [rbs_cons, ints_rb]; rfl) rfl σ hσ
  have hl2 := hl.2
  have h := d_beh0 hl (l.length + 1) a (by omega) (by omega)
  rw [e_Z1m]
  simp +contextual -implicitDefEqProofs (disch := first | assumption | omega | (simp -implicitDefEqProofs only [go_sem]; try omega)) only [↓reduceIte, go_sem, iP, iN, w64, w8, w32, s_Z1m, h, behS]
end
end Go.Proofs.YtkgkmlhljeidhaaGreatDoor
set_option linter.unusedSimpArgs false
set_option linter.unusedVariables false
set_option linter.unusedSectionVars false
namespace Go.Ev
theorem sto0_agg {sz off : Nat} {cs ds : List V} {t : V} {τ : Objs} (h1 : ds.length = sz) (h2 : off + sz ≤ cs.length) (h3 : okCells ds = true) :
    stV (.cells cs :: τ) sz (.ptr 0 off) (.agg ds) t = some (.undef, .cells (putAt cs off (ds.map V.ng)) :: τ) := by
  show (if (V.agg ds).cells.length = sz ∧ off + sz ≤ cs.length ∧ okCells (V.agg ds).cells = true then _ else _) = _
  rw [if_pos ⟨h1, h2, h3⟩]; rfl
theorem sto1_agg {sz off : Nat} {cs ds : List V} {t : V} {O : O} {τ : Objs} (h1 : ds.length = sz) (h2 : off + sz ≤ cs.length) (h3 : okCells ds = true) :
    stV (O :: .cells cs :: τ) sz (.ptr 1 off) (.agg ds) t = some (.undef, O :: .cells (putAt cs off (ds.map V.ng)) :: τ) := by
  show (if (V.agg ds).cells.length = sz ∧ off + sz ≤ cs.length ∧ okCells (V.agg ds).cells = true then _ else _) = _
  rw [if_pos ⟨h1, h2, h3⟩]; rfl
theorem sto1_int {off : Nat} {cs : List V} {k : IntKind} {x : Int} {O : O} {τ : Objs} (h2 : off + 1 ≤ cs.length) :
    stV (O :: .cells cs :: τ) 1 (.ptr 1 off) (.int k x) (.int k x) = some (.undef, O :: .cells (cs.set off (.int k x)) :: τ) := by
  show (if (V.int k x).cells.length = 1 ∧ off + 1 ≤ cs.length ∧ okCells (V.int k x).cells = true then _ else _) = _
  rw [if_pos ⟨rfl, h2, rfl⟩]; rfl
theorem sto1_str {off : Nat} {cs : List V} {x : List UInt8} {O : O} {τ : Objs} (h2 : off + 1 ≤ cs.length) :
    stV (O :: .cells cs :: τ) 1 (.ptr 1 off) (.str x) (.str x) = some (.undef, O :: .cells (cs.set off (.str x)) :: τ) := by
  show (if (V.str x).cells.length = 1 ∧ off + 1 ≤ cs.length ∧ okCells (V.str x).cells = true then _ else _) = _
  rw [if_pos ⟨rfl, h2, rfl⟩]; rfl
theorem sto1_bool {off : Nat} {cs : List V} {x : Bool} {O : O} {τ : Objs} (h2 : off + 1 ≤ cs.length) :
    stV (O :: .cells cs :: τ) 1 (.ptr 1 off) (.bool x) (.bool x) = some (.undef, O :: .cells (cs.set off (.bool x)) :: τ) := by
  show (if (V.bool x).cells.length = 1 ∧ off + 1 ≤ cs.length ∧ okCells (V.bool x).cells = true then _ else _) = _
  rw [if_pos ⟨rfl, h2, rfl⟩]; rfl
theorem sto0_int {off : Nat} {cs : List V} {k : IntKind} {x : Int} {τ : Objs} (h2 : off + 1 ≤ cs.length) :
    stV (.cells cs :: τ) 1 (.ptr 0 off) (.int k x) (.int k x) = some (.undef, .cells (cs.set off (.int k x)) :: τ) := by
  show (if (V.int k x).cells.length = 1 ∧ off + 1 ≤ cs.length ∧ okCells (V.int k x).cells = true then _ else _) = _
  rw [if_pos ⟨rfl, h2, rfl⟩]; rfl
theorem sto0_str {off : Nat} {cs : List V} {x : List UInt8} {τ : Objs} (h2 : off + 1 ≤ cs.length) :
    stV (.cells cs :: τ) 1 (.ptr 0 off) (.str x) (.str x) = some (.undef, .cells (cs.set off (.str x)) :: τ) := by
  show (if (V.str x).cells.length = 1 ∧ off + 1 ≤ cs.length ∧ okCells (V.str x).cells = true then _ else _) = _
  rw [if_pos ⟨rfl, h2, rfl⟩]; rfl
theorem resC_eq {σ : Objs} {ag : Bool} {sz o off : Nat} : resC σ ag sz (.ptr o off) = (Objs.get σ o).bind fun cs => part ag sz cs off := rfl
theorem wf_two {cs ds : List V} : Wf [.cells cs, .cells ds] = (V.rbs 2 cs = true ∧ V.rbs 2 ds = true) := by simp [Wf, O.rb]
theorem cut_two {cs ds : List V} (h : V.rbs 2 cs = true ∧ V.rbs 2 ds = true) : cuO 2 [.cells cs, .cells ds] = some [.cells cs, .cells ds] := cut_wf (σ := [.cells cs, .cells ds]) (by rw [wf_two]; exact h)
attribute [go_sem] sto0_agg sto1_agg sto1_int sto1_str sto1_bool sto0_int sto0_str resC_eq wf_two cut_two
end Go.Ev
namespace Go.Proofs.YtkgkmlhljeidhaaGreatDoor
open Go.Ev
set_option maxRecDepth 100000
structure Tok where
  k : Int
  f : Int
  t : Int
  s : List UInt8
  n : List UInt8
  w : Bool
def Tok.v (x : Tok) : V := .agg [.int .i64 x.k, .int .i64 x.f, .int .i64 x.t, .str x.s, .str x.n, .bool x.w]
theorem expS_pos (l : List Int) (a : Int) (w : Bool) (h : a ≤ l.length) : a ≤ (expS l a w).1 ∧ (expS l a w).1 ≤ l.length := by
  unfold expS
  split
  · split
    · rename_i h1 h2
      have := dgB_lt h2
      have h3 := sg_pos l (a + 1)
      have := dE_pos l (sg l (a + 1)) (by omega)
      show a ≤ dE l (sg l (a + 1)) ∧ dE l (sg l (a + 1)) ≤ _
      omega
    · exact ⟨Int.le_refl _, h⟩
  · exact ⟨Int.le_refl _, h⟩
theorem fracS_pos (l : List Int) (a : Int) (w : Bool) (h : a ≤ l.length) : a ≤ (fracS l a w).1 ∧ (fracS l a w).1 ≤ l.length := by
  unfold fracS
  split
  · rename_i h1
    have h2 := dgB_lt (Bool.and_eq_true _ _ ▸ h1).2
    have h3 := dE_pos l (a + 1) (by omega)
    have h4 := expS_pos l (dE l (a + 1)) false h3.2
    omega
  · exact expS_pos l a w h
theorem digS_pos (l : List Int) (a : Int) (h : a ≤ l.length) : a ≤ (digS l a).1 ∧ (digS l a).1 ≤ l.length := by
  have h1 := sg_pos l a
  have h2 := dE_pos l (sg l a) (by omega)
  have h3 := fracS_pos l (dE l (sg l a)) true h2.2
  unfold digS
  omega
def cutL (l : List Int) (a b : Int) : List Int := (l.drop a.toNat).take (b.toNat - a.toNat)
theorem Chs.cut {l : List Int} (h : Chs l) (a b : Int) : Chs (cutL l a b) :=
  ⟨fun c hc => h.1 c (List.drop_subset _ _ (List.take_subset _ _ hc)), by
    have := h.2
    simp only [cutL, List.length_take, List.length_drop]; omega⟩
def numS (l : List Int) (a : Int) : Tok :=
  if nmB l (digS l a).1 then ⟨12, a, (namesS l (digS l a).1).2, (namesS l (digS l a).1).1, textS (cutL l a (digS l a).1), (digS l a).2⟩
  else if isB l (digS l a).1 37 then ⟨11, a, (digS l a).1 + 1, [], textS (cutL l a (digS l a).1), (digS l a).2⟩
  else ⟨10, a, (digS l a).1, [], textS (cutL l a (digS l a).1), (digS l a).2⟩
section
variable {l : List Int} (hl : Chs l)
include hl
theorem d_numeric (a : Int) (ha : 0 ≤ a ∧ a ≤ l.length) (σ : Objs) (hσ : Wf σ) : E cx 78 [.sl (ints l) .no, .int .i64 a] σ = some ((numS l a).v, σ) := by
  refine E_any cx_cl ?_ (by rw [rbs_cons, ints_rb]; rfl) rfl σ hσ
  have hl2 := hl.2
  have hp := digS_pos l a ha.2
  have h1 := fun σ hσ => d_rdigits hl a ha σ hσ
  have h2 := fun σ hσ => d_text (cutL l a (digS l a).1) (hl.cut _ _) .no σ hσ
  have h3 := fun σ hσ => d_rName hl (i := (digS l a).1) (by omega) σ hσ
  have h4 := fun σ hσ => d_names l hl (digS l a).1 (by omega) σ hσ
  have h5 := fun σ hσ => d_is hl (i := (digS l a).1) (by omega) σ hσ 37
  have h6 : evCut 1 (.sl (ints l) .no) (some (.int .i64 a)) (some (.int .i64 (digS l a).1)) none = some (.sl (ints (cutL l a (digS l a).1)) .no) := cut_ints (by omega)
  rw [e_Z1v]
  unfold numS
  cases c1 : nmB l (digS l a).1 with
  | true => simp +contextual -implicitDefEqProofs (disch := first | assumption | omega | (simp -implicitDefEqProofs only [go_sem]; try omega)) only [↓reduceIte, go_sem, iP, iN, w64, w8, w32, s_Z1v, j_Z1v_0, h1, h2, h3, h4, h5, h6, c1, Tok.v]
  | false =>
    cases c2 : isB l (digS l a).1 37 with
    | true => simp +contextual -implicitDefEqProofs (disch := first | assumption | omega | (simp -implicitDefEqProofs only [go_sem]; try omega)) only [↓reduceIte, go_sem, iP, iN, w64, w8, w32, s_Z1v, j_Z1v_0, h1, h2, h3, h4, h5, h6, c1, c2, Tok.v]
    | false => simp +contextual -implicitDefEqProofs (disch := first | assumption | omega | (simp -implicitDefEqProofs only [go_sem]; try omega)) only [↓reduceIte, go_sem, iP, iN, w64, w8, w32, s_Z1v, j_Z1v_0, h1, h2, h3, h4, h5, h6, c1, c2, Tok.v]
end
end Go.Proofs.YtkgkmlhljeidhaaGreatDoor
set_option linter.unusedSimpArgs false
set_option linter.unusedVariables false
set_option linter.unusedSectionVars false
namespace Go.Proofs.YtkgkmlhljeidhaaGreatDoor
open Go.Ev
set_option maxRecDepth 100000
def rstE (l : List Int) : Nat → Int → Int
  | 0, a => a
  | f + 1, a => if decide (a < l.length) && !decide (l.getD a.toNat 0 = 41) then rstE l f (if escB l a then (valS l a).2 else a + 1) else a
def rstF (l : List Int) (e : Int) : Int := if e < l.length then e + 1 else e
def restS (l : List Int) (fr a : Int) : Tok := ⟨8, fr, rstF l (rstE l (l.length + 1) a), [], [], false⟩
theorem rstE_pos (l : List Int) : ∀ (f : Nat) (a : Int), a ≤ l.length → a ≤ rstE l f a ∧ rstE l f a ≤ l.length
  | 0, a, h => ⟨Int.le_refl _, h⟩
  | f + 1, a, h => by
    unfold rstE
    split
    · rename_i hc
      have h1 := of_decide_eq_true (Bool.and_eq_true _ _ ▸ hc).1
      cases he : escB l a with
      | true =>
        have h2 := valS_pos l a h1
        have := rstE_pos l f (valS l a).2 h2.2
        simp only [if_true]
        omega
      | false =>
        have := rstE_pos l f (a + 1) (by omega)
        simp only [Bool.false_eq_true, if_false]
        omega
    · exact ⟨Int.le_refl _, h⟩
section
variable {l : List Int} (hl : Chs l)
include hl
theorem d_rst0 (fr : Int) : ∀ (f : Nat) (a : Int), (l.length : Int) - a < f → 0 ≤ a ∧ a ≤ l.length →
    l_Z1x_0 (Mi cx) 0 1 [.sl (ints l) .no, .int .i64 fr, .int .i64 a, .ptr 0 0] [.cells [.int .i64 0, .int .i64 0, .int .i64 0, .str [], .str [], .bool false]] = some ((Tok.mk 8 fr (rstF l (rstE l f a)) [] [] false).v, [])
  | 0, a, hf, ha => by omega
  | f + 1, a, hf, ha => by
    have hl2 := hl.2
    have h1 := fun σ hσ => d_Escape hl (i := a) (by omega) σ hσ
    rw [u_Z1x_0]
    by_cases hlt : a < l.length
    · by_cases hc : l.getD a.toNat 0 = 41
      · have hgt : ¬ (l.length : Int) < a + 1 := by omega
        simp +contextual -implicitDefEqProofs (disch := first | assumption | omega | (simp -implicitDefEqProofs only [go_sem]; try omega)) only [↓reduceIte, go_sem, iP, iN, w64, w8, w32, b_Z1x_0, j_Z1x_1, j_Z1x_2, hlt, hc, hgt, rstE, rstF, Tok.v]
      · cases he : escB l a with
        | true =>
          have h2 := fun σ hσ => d_Value l hl a (by omega) σ hσ
          have hv := valS_pos l a hlt
          have ih := d_rst0 fr f (valS l a).2 (by omega) (by omega)
          simp +contextual -implicitDefEqProofs (disch := first | assumption | omega | (simp -implicitDefEqProofs only [go_sem]; try omega)) only [↓reduceIte, go_sem, iP, iN, w64, w8, w32, b_Z1x_0, j_Z1x_0, h1, h2, he, hlt, hc, rstE, ih]
        | false =>
          have ih := d_rst0 fr f (a + 1) (by omega) (by omega)
          simp +contextual -implicitDefEqProofs (disch := first | assumption | omega | (simp -implicitDefEqProofs only [go_sem]; try omega)) only [↓reduceIte, go_sem, iP, iN, w64, w8, w32, b_Z1x_0, j_Z1x_0, h1, he, hlt, hc, rstE, ih]
    · have hgt : ¬ (l.length : Int) < a := by omega
      simp +contextual -implicitDefEqProofs (disch := first | assumption | omega | (simp -implicitDefEqProofs only [go_sem]; try omega)) only [↓reduceIte, go_sem, iP, iN, w64, w8, w32, b_Z1x_0, j_Z1x_1, j_Z1x_2, hlt, hgt, rstE, rstF, Tok.v]
theorem d_rest (fr a : Int) (ha : 0 ≤ a ∧ a ≤ l.length) (σ : Objs) (hσ : Wf σ) : E cx 114 [.sl (ints l) .no, .int .i64 fr, .int .i64 a] σ = some ((restS l fr a).v, σ) := by
  refine E_any cx_cl ?_ (by rw [rbs_cons, ints_rb]; rfl) rfl σ hσ
  have hl2 := hl.2
  have h := d_rst0 hl fr (l.length + 1) a (by omega) (by omega)
  rw [e_Z1x]
  simp +contextual -implicitDefEqProofs (disch := first | assumption | omega | (simp -implicitDefEqProofs only [go_sem]; try omega)) only [↓reduceIte, go_sem, iP, iN, w64, w8, w32, s_Z1x, h, restS]
end
end Go.Proofs.YtkgkmlhljeidhaaGreatDoor
set_option linter.unusedSimpArgs false
set_option linter.unusedVariables false
set_option linter.unusedSectionVars false
namespace Go.Proofs.YtkgkmlhljeidhaaGreatDoor
open Go.Ev
set_option maxRecDepth 100000
def spE (l : List Int) : Nat → Int → Int
  | 0, a => a
  | f + 1, a => if spB l a then spE l f (a + 1) else a
theorem spE_pos (l : List Int) : ∀ (f : Nat) (a : Int), a ≤ l.length → a ≤ spE l f a ∧ spE l f a ≤ l.length
  | 0, a, h => ⟨Int.le_refl _, h⟩
  | f + 1, a, h => by
    unfold spE
    split
    · rename_i hc
      have h1 := spB_lt hc
      have := spE_pos l f (a + 1) (by omega)
      omega
    · exact ⟨Int.le_refl _, h⟩
def urlC (l : List Int) (fr : Int) (rec : Int → List Int → Tok) (i k : Int) (out : List Int) : Tok :=
  if (l.length : Int) ≤ k then ⟨7, fr, l.length, textS out, [], false⟩
  else if l.getD k.toNat 0 = 41 then ⟨7, fr, k + 1, textS out, [], false⟩
  else if i < k then restS l fr k
  else if l.getD k.toNat 0 = 34 then restS l fr k
  else if l.getD k.toNat 0 = 39 then restS l fr k
  else if l.getD k.toNat 0 = 40 then restS l fr k
  else if hidB (l.getD k.toNat 0) = true then restS l fr k
  else if l.getD k.toNat 0 = 92 then (if escB l k = true then rec (valS l k).2 (out ++ [(valS l k).1]) else restS l fr k)
  else rec (k + 1) (out ++ [l.getD k.toNat 0])
def urlF (l : List Int) (fr : Int) : Nat → Int → List Int → Tok
  | 0, i, out => restS l fr i
  | f + 1, i, out => urlC l fr (urlF l fr f) i (spE l (l.length + 1) i) out
def urlS (l : List Int) (fr a : Int) : Tok := urlF l fr (l.length + 1) a []
section
variable {l : List Int} (hl : Chs l)
include hl
theorem d_url1 (fr : Int) (r1 : Rk) (rec : Int → List Int → Tok) (i : Int) (out : List Int) (cap : Cap) (hc : cap = .fx ∨ cap = .gr 1) (ho : ∀ c ∈ out, 0 ≤ c ∧ c ≤ 1114111) (hn : (out.length : Int) ≤ i) (hi : 0 ≤ i)
    (IH : ∀ (i' : Int) (out' : List Int) (cap' : Cap), i < i' ∧ i' ≤ l.length → (cap' = .fx ∨ cap' = .gr 1) → (∀ c ∈ out', 0 ≤ c ∧ c ≤ 1114111) → (out'.length : Int) ≤ i' →
      r1 [.sl (ints l) .no, .int .i64 fr, .ptr 0 0, .sl (ints out') cap', .int .i64 i'] [.cells [.int .i64 0, .int .i64 0, .int .i64 0, .str [], .str [], .bool false]] = some ((rec i' out').v, [])) :
    ∀ (g : Nat) (k : Int), (l.length : Int) - k < g → i ≤ k ∧ k ≤ l.length →
    l_Z21_1 (Mi cx) 0 1 r1 1 [.sl (ints l) .no, .int .i64 fr, .ptr 0 0, .sl (ints out) cap, .int .i64 i, .int .i64 k] [.cells [.int .i64 0, .int .i64 0, .int .i64 0, .str [], .str [], .bool false]] = some ((urlC l fr rec i (spE l g k) out).v, [])
  | 0, k, hf, ha => by omega
  | g + 1, k, hf, ha => by
    have hl2 := hl.2
    have hm : rowMax = 140737488355328 := rfl
    have h1 := fun σ hσ => d_space hl (i := k) (by omega) σ hσ
    rw [u_Z21_1]
    cases hs : spB l k with
    | true =>
      have hlt := spB_lt hs
      have ih := d_url1 fr r1 rec i out cap hc ho hn hi IH g (k + 1) (by omega) (by omega)
      simp +contextual -implicitDefEqProofs (disch := first | assumption | omega | (simp -implicitDefEqProofs only [go_sem]; try omega)) only [↓reduceIte, go_sem, iP, iN, w64, w8, w32, b_Z21_1, h1, hs, spE, ih]
    | false =>
      have h2 := fun σ hσ => d_text out ⟨ho, by omega⟩ .no σ hσ
      have h3 := fun σ hσ => d_rest hl fr k (by omega) σ hσ
      have h4 := fun σ hσ => d_hidden (l.getD k.toNat 0) σ hσ
      have h5 := fun σ hσ => d_Escape hl (i := k) (by omega) σ hσ
      have hsp : spE l (g + 1) k = k := by unfold spE; rw [hs]; rfl
      rw [hsp]
      by_cases hlt : (l.length : Int) ≤ k
      · simp +contextual -implicitDefEqProofs (disch := first | assumption | omega | (simp -implicitDefEqProofs only [go_sem]; try omega)) only [↓reduceIte, go_sem, iP, iN, w64, w8, w32, b_Z21_1, j_Z21_1, h1, hs, h2, hlt, urlC, Tok.v]
      · by_cases c1 : l.getD k.toNat 0 = 41
        · simp +contextual -implicitDefEqProofs (disch := first | assumption | omega | (simp -implicitDefEqProofs only [go_sem]; try omega)) only [↓reduceIte, go_sem, iP, iN, w64, w8, w32, b_Z21_1, j_Z21_1, h1, hs, h2, hlt, c1, urlC, Tok.v]
        · by_cases c2 : i < k
          · simp +contextual -implicitDefEqProofs (disch := first | assumption | omega | (simp -implicitDefEqProofs only [go_sem]; try omega)) only [↓reduceIte, go_sem, iP, iN, w64, w8, w32, b_Z21_1, j_Z21_1, h1, hs, h3, hlt, c1, c2, urlC, Tok.v]
          · by_cases c3 : l.getD k.toNat 0 = 34
            · simp +contextual -implicitDefEqProofs (disch := first | assumption | omega | (simp -implicitDefEqProofs only [go_sem]; try omega)) only [↓reduceIte, go_sem, iP, iN, w64, w8, w32, b_Z21_1, j_Z21_1, h1, hs, h3, hlt, c2, c3, urlC, Tok.v]
            · by_cases c4 : l.getD k.toNat 0 = 39
              · simp +contextual -implicitDefEqProofs (disch := first | assumption | omega | (simp -implicitDefEqProofs only [go_sem]; try omega)) only [↓reduceIte, go_sem, iP, iN, w64, w8, w32, b_Z21_1, j_Z21_1, h1, hs, h3, hlt, c2, c4, urlC, Tok.v]
              · by_cases c5 : l.getD k.toNat 0 = 40
                · simp +contextual -implicitDefEqProofs (disch := first | assumption | omega | (simp -implicitDefEqProofs only [go_sem]; try omega)) only [↓reduceIte, go_sem, iP, iN, w64, w8, w32, b_Z21_1, j_Z21_1, h1, hs, h3, hlt, c2, c5, urlC, Tok.v]
                · cases c6 : hidB (l.getD k.toNat 0) with
                  | true => simp +contextual -implicitDefEqProofs (disch := first | assumption | omega | (simp -implicitDefEqProofs only [go_sem]; try omega)) only [↓reduceIte, go_sem, iP, iN, w64, w8, w32, b_Z21_1, j_Z21_1, h1, hs, h3, h4, hlt, c1, c2, c3, c4, c5, c6, urlC, Tok.v]
                  | false =>
                    by_cases c7 : l.getD k.toNat 0 = 92
                    · rw [c7] at h4 c6
                      cases c8 : escB l k with
                      | true =>
                        have h6 := fun σ hσ => d_Value l hl k (by omega) σ hσ
                        have hv := valS_pos l k (by omega)
                        have ih := IH (valS l k).2 (out ++ [(valS l k).1]) (.gr 1) (by omega) (.inr rfl) (chs_snoc ho (valS_val l hl k)) (by simp; omega)
                        simp +contextual -implicitDefEqProofs (disch := first | assumption | omega | (simp -implicitDefEqProofs only [go_sem]; try omega)) only [↓reduceIte, go_sem, iP, iN, w64, w8, w32, b_Z21_1, j_Z21_0, h1, hs, h4, h5, h6, hlt, c2, c6, c7, c8, urlC, ih]
                      | false => simp +contextual -implicitDefEqProofs (disch := first | assumption | omega | (simp -implicitDefEqProofs only [go_sem]; try omega)) only [↓reduceIte, go_sem, iP, iN, w64, w8, w32, b_Z21_1, j_Z21_1, h1, hs, h3, h4, h5, hlt, c2, c6, c7, c8, urlC, Tok.v]
                    · have hg := hl.get k.toNat
                      have ih := IH (k + 1) (out ++ [l.getD k.toNat 0]) (.gr 1) (by omega) (.inr rfl) (chs_snoc ho hg) (by simp; omega)
                      simp +contextual -implicitDefEqProofs (disch := first | assumption | omega | (simp -implicitDefEqProofs only [go_sem]; try omega)) only [↓reduceIte, go_sem, iP, iN, w64, w8, w32, b_Z21_1, j_Z21_0, h1, hs, h4, h5, hlt, c1, c2, c3, c4, c5, c6, c7, urlC, ih]
theorem d_url0 (fr : Int) : ∀ (f : Nat) (i : Int) (out : List Int) (cap : Cap), (l.length : Int) - i < f → 0 ≤ i ∧ i ≤ l.length → (cap = .fx ∨ cap = .gr 1) → (∀ c ∈ out, 0 ≤ c ∧ c ≤ 1114111) → (out.length : Int) ≤ i →
    l_Z21_0 (Mi cx) 0 1 [.sl (ints l) .no, .int .i64 fr, .ptr 0 0, .sl (ints out) cap, .int .i64 i] [.cells [.int .i64 0, .int .i64 0, .int .i64 0, .str [], .str [], .bool false]] = some ((urlF l fr f i out).v, [])
  | 0, i, out, cap, hf, ha, hc, ho, hn => by omega
  | f + 1, i, out, cap, hf, ha, hc, ho, hn => by
    have hl2 := hl.2
    have h := d_url1 hl fr (l_Z21_0 (Mi cx) 0 1) (urlF l fr f) i out cap hc ho hn (by omega)
      (fun i' out' cap' hi' hc' ho' hn' => d_url0 fr f i' out' cap' (by omega) (by omega) hc' ho' hn') (l.length + 1) i (by omega) (by omega)
    rw [u_Z21_0]
    simp +contextual -implicitDefEqProofs (disch := first | assumption | omega | (simp -implicitDefEqProofs only [go_sem]; try omega)) only [↓reduceIte, go_sem, iP, iN, w64, w8, w32, b_Z21_0, h, urlF]
theorem d_url (fr a : Int) (ha : 0 ≤ a ∧ a ≤ l.length) (σ : Objs) (hσ : Wf σ) : E cx 100 [.sl (ints l) .no, .int .i64 fr, .int .i64 a] σ = some ((urlS l fr a).v, σ) := by
  refine E_any cx_cl ?_ (by rw [rbs_cons, ints_rb]; rfl) rfl σ hσ
  have hl2 := hl.2
  have h := d_url0 hl fr (l.length + 1) a [] .fx (by omega) ha (.inl rfl) (by simp) (by simp; omega)
  rw [ints_nil] at h
  rw [e_Z21]
  simp +contextual -implicitDefEqProofs (disch := first | assumption | omega | (simp -implicitDefEqProofs only [go_sem]; try omega)) only [↓reduceIte, go_sem, iP, iN, w64, w8, w32, s_Z21, h, urlS]
end
end Go.Proofs.YtkgkmlhljeidhaaGreatDoor
set_option linter.unusedSimpArgs false
set_option linter.unusedVariables false
set_option linter.unusedSectionVars false
namespace Go.Proofs.YtkgkmlhljeidhaaGreatDoor
open Go.Ev
set_option maxRecDepth 100000
def lowB (b : UInt8) : UInt8 := putB (smallZ b.toNat)
def lowS (s : List UInt8) : List UInt8 := s.map lowB
theorem smallZ_le {c : Int} (h : 0 ≤ c ∧ c ≤ 255) : 0 ≤ smallZ c ∧ smallZ c ≤ 255 := by
  unfold smallZ
  split <;> omega
theorem app_b1 {l : List UInt8} {x : Int} {c c' : Cap} {σ : Objs} (hc : c = .fx ∨ c = .gr 1) (hx : 0 ≤ x ∧ x ≤ 255) (hl : l.length + 1 ≤ rowMax) : appV false false 1 1 σ (.sl (ofBytes l) c) (.sl [.int .u8 x] c') = some (.sl (ofBytes (l ++ [putB x])) (.gr 1)) := by
  have h := app_bytes (l := l) (m := [putB x]) (c := c) (c' := c') (σ := σ) hc (by simp) (by simpa using hl)
  have e : ofBytes [putB x] = [.int .u8 x] := by
    show [V.int .u8 (putB x).toNat] = _
    rw [putB_nat hx]
  rw [e] at h
  exact h
theorem d_lowloop (s : List UInt8) (hs : s.length ≤ 100000000000) : ∀ (r p : List UInt8) (cap : Cap) (i : Int), s = p ++ r → i = p.length → cap = .fx ∨ cap = .gr 1 →
    l_Z1b_0 (Mi cx) 0 0 [.str s, .sl (ofBytes (lowS p)) cap, .int .i64 i] [] = some (.str (lowS s), [])
  | [], p, cap, i, hp, hi, hc => by
    have hlen : s.length = p.length := by rw [hp]; simp
    have hsp : s = p := by rw [hp]; simp
    rw [u_Z1b_0]
    simp +contextual -implicitDefEqProofs (disch := first | assumption | omega | (simp -implicitDefEqProofs only [go_sem]; try omega)) only [↓reduceIte, go_sem, iP, iN, w64, w8, w32, b_Z1b_0, hsp]
  | b :: r, p, cap, i, hp, hi, hc => by
    have hlen : s.length = p.length + r.length + 1 := by rw [hp]; simp; omega
    have hm : rowMax = 140737488355328 := rfl
    have hg : s.getD i.toNat 0 = b := by rw [hp, hi]; simp
    have hb := UInt8.toNat_lt b
    have hz := smallZ_le (c := (b.toNat : Int)) (by omega)
    have h1 := fun σ hσ => d_Small (b.toNat : Int) (by omega) σ hσ
    have hll : (lowS p).length = p.length := by simp [lowS]
    have h2 : appV false false 1 1 [] (.sl (ofBytes (lowS p)) cap) (.sl [.int .u8 (smallZ b.toNat)] .no) = some (.sl (ofBytes (lowS (p ++ [b]))) (.gr 1)) := by
      rw [app_b1 hc hz (by omega)]
      simp [lowS, lowB]
    have ih := d_lowloop s hs r (p ++ [b]) (.gr 1) (i + 1) (by rw [hp]; simp) (by simp; omega) (.inr rfl)
    rw [u_Z1b_0]
    simp +contextual -implicitDefEqProofs (disch := first | assumption | omega | (simp -implicitDefEqProofs only [go_sem]; try omega)) only [↓reduceIte, go_sem, iP, iN, w64, w8, w32, b_Z1b_0, hg, h1, h2, ih]
theorem d_Lower (s : List UInt8) (hs : s.length ≤ 100000000000) (σ : Objs) (hσ : Wf σ) : E cx 60 [.str s] σ = some (.str (lowS s), σ) := by
  refine E_any cx_cl ?_ rfl rfl σ hσ
  have h := d_lowloop s hs s [] .fx 0 rfl rfl (.inl rfl)
  have e : ofBytes (lowS []) = [] := rfl
  rw [e] at h
  rw [e_Z1b]
  simp +contextual -implicitDefEqProofs (disch := first | assumption | omega | (simp -implicitDefEqProofs only [go_sem]; try omega)) only [↓reduceIte, go_sem, iP, iN, w64, w8, w32, s_Z1b, h]
end Go.Proofs.YtkgkmlhljeidhaaGreatDoor
set_option linter.unusedSimpArgs false
set_option linter.unusedVariables false
set_option linter.unusedSectionVars false
namespace Go.Ev
theorem lockS_e {ag : Bool} {sz off : Nat} {cs : List V} {σ : Objs} : lockS [rdLoad ag sz (.eptr cs off)] σ = some σ := rfl
theorem openS_e {ag : Bool} {sz off : Nat} {cs : List V} {σ σ1 : Objs} : openS [rdLoad ag sz (.eptr cs off)] σ σ1 = some σ1 := rfl
attribute [go_sem] lockS_e openS_e
end Go.Ev
namespace Go.Proofs.YtkgkmlhljeidhaaGreatDoor
open Go.Ev
set_option maxRecDepth 100000
def quoF (l : List Int) (fr m : Int) : Nat → Int → List Int → Tok
  | 0, i, out => ⟨0, 0, 0, [], [], false⟩
  | f + 1, i, out =>
    if (l.length : Int) ≤ i then ⟨5, fr, i, textS out, [], false⟩
    else if l.getD i.toNat 0 = m then ⟨5, fr, i + 1, textS out, [], false⟩
    else if l.getD i.toNat 0 = 10 then ⟨6, fr, i, [], [], false⟩
    else if l.getD i.toNat 0 ≠ 92 then quoF l fr m f (i + 1) (out ++ [l.getD i.toNat 0])
    else if i + 1 = l.length then quoF l fr m f (i + 1) out
    else if l.getD (i + 1).toNat 0 = 10 then quoF l fr m f (i + 2) out
    else quoF l fr m f (valS l i).2 (out ++ [(valS l i).1])
def quoS (l : List Int) (a : Int) : Tok := quoF l a (l.getD a.toNat 0) (l.length + 1) (a + 1) []
section
variable {l : List Int} (hl : Chs l)
include hl
theorem d_quo0 (fr m : Int) : ∀ (f : Nat) (i : Int) (out : List Int) (cap : Cap), (l.length : Int) - i < f → 0 ≤ i ∧ i ≤ l.length → (cap = .fx ∨ cap = .gr 1) → (∀ c ∈ out, 0 ≤ c ∧ c ≤ 1114111) → (out.length : Int) ≤ i →
    l_Z1w_0 (Mi cx) 0 2 [.sl (ints l) .no, .int .i64 fr, .ptr 0 0, .ptr 1 0, .int .i64 m, .sl (ints out) cap, .int .i64 i] [.cells [.int .i64 0, .int .i64 0, .int .i64 0, .str [], .str [], .bool false], .cells [.int .i64 5, .int .i64 fr, .int .i64 0, .str [], .str [], .bool false]] = some ((quoF l fr m f i out).v, [])
  | 0, i, out, cap, hf, ha, hc, ho, hn => by omega
  | f + 1, i, out, cap, hf, ha, hc, ho, hn => by
    have hl2 := hl.2
    have hm : rowMax = 140737488355328 := rfl
    have h2 := fun σ hσ => d_text out ⟨ho, by omega⟩ .no σ hσ
    rw [u_Z1w_0]
    by_cases c0 : (l.length : Int) ≤ i
    · simp +contextual -implicitDefEqProofs (disch := first | assumption | omega | (simp -implicitDefEqProofs only [go_sem]; try omega)) only [↓reduceIte, go_sem, iP, iN, w64, w8, w32, b_Z1w_0, j_Z1w_1, h2, c0, quoF, Tok.v]
    · by_cases c1 : l.getD i.toNat 0 = m
      · simp +contextual -implicitDefEqProofs (disch := first | assumption | omega | (simp -implicitDefEqProofs only [go_sem]; try omega)) only [↓reduceIte, go_sem, iP, iN, w64, w8, w32, b_Z1w_0, j_Z1w_1, h2, c0, c1, quoF, Tok.v]
      · by_cases c2 : l.getD i.toNat 0 = 10
        · simp +contextual -implicitDefEqProofs (disch := first | assumption | omega | (simp -implicitDefEqProofs only [go_sem]; try omega)) only [↓reduceIte, go_sem, iP, iN, w64, w8, w32, b_Z1w_0, j_Z1w_1, h2, c0, c1, c2, quoF, Tok.v]
        · by_cases c3 : l.getD i.toNat 0 = 92
          · by_cases c4 : i + 1 = l.length
            · have ih := d_quo0 fr m f (i + 1) out cap (by omega) (by omega) hc ho (by omega)
              rw [c4] at ih
              simp +contextual -implicitDefEqProofs (disch := first | assumption | omega | (simp -implicitDefEqProofs only [go_sem]; try omega)) only [↓reduceIte, go_sem, iP, iN, w64, w8, w32, b_Z1w_0, j_Z1w_0, c0, c1, c2, c3, c4, quoF, ih]
            · by_cases c5 : l.getD (i + 1).toNat 0 = 10
              · have ih := d_quo0 fr m f (i + 2) out cap (by omega) (by omega) hc ho (by omega)
                simp +contextual -implicitDefEqProofs (disch := first | assumption | omega | (simp -implicitDefEqProofs only [go_sem]; try omega)) only [↓reduceIte, go_sem, iP, iN, w64, w8, w32, b_Z1w_0, j_Z1w_0, c0, c1, c2, c3, c4, c5, quoF, ih]
              · have h6 := fun σ hσ => d_Value l hl i (by omega) σ hσ
                have hv := valS_pos l i (by omega)
                have ih := d_quo0 fr m f (valS l i).2 (out ++ [(valS l i).1]) (.gr 1) (by omega) (by omega) (.inr rfl) (chs_snoc ho (valS_val l hl i)) (by simp; omega)
                simp +contextual -implicitDefEqProofs (disch := first | assumption | omega | (simp -implicitDefEqProofs only [go_sem]; try omega)) only [↓reduceIte, go_sem, iP, iN, w64, w8, w32, b_Z1w_0, j_Z1w_0, c0, c1, c2, c3, c4, c5, h6, quoF, ih]
          · have hg := hl.get i.toNat
            have ih := d_quo0 fr m f (i + 1) (out ++ [l.getD i.toNat 0]) (.gr 1) (by omega) (by omega) (.inr rfl) (chs_snoc ho hg) (by simp; omega)
            simp +contextual -implicitDefEqProofs (disch := first | assumption | omega | (simp -implicitDefEqProofs only [go_sem]; try omega)) only [↓reduceIte, go_sem, iP, iN, w64, w8, w32, b_Z1w_0, j_Z1w_0, c0, c1, c2, c3, quoF, ih]
theorem d_quoted (a : Int) (ha : 0 ≤ a ∧ a < l.length) (σ : Objs) (hσ : Wf σ) : E cx 76 [.sl (ints l) .no, .int .i64 a] σ = some ((quoS l a).v, σ) := by
  refine E_any cx_cl ?_ (by rw [rbs_cons, ints_rb]; rfl) rfl σ hσ
  have hl2 := hl.2
  have h := d_quo0 hl a (l.getD a.toNat 0) (l.length + 1) (a + 1) [] .fx (by omega) (by omega) (.inl rfl) (by simp) (by simp; omega)
  rw [ints_nil] at h
  rw [e_Z1w]
  simp +contextual -implicitDefEqProofs (disch := first | assumption | omega | (simp -implicitDefEqProofs only [go_sem]; try omega)) only [↓reduceIte, go_sem, iP, iN, w64, w8, w32, s_Z1w, h, quoS]
end
end Go.Proofs.YtkgkmlhljeidhaaGreatDoor
set_option linter.unusedSimpArgs false
set_option linter.unusedVariables false
set_option linter.unusedSectionVars false
namespace Go.Proofs.YtkgkmlhljeidhaaGreatDoor
open Go.Ev
set_option maxRecDepth 100000
theorem textR_len : ∀ (l : List Int), (textR l).length ≤ 4 * l.length
  | [] => Nat.le_refl _
  | c :: l => by
    have h1 := (putS_len (if rightB c then c else 65533)).2
    have h2 := textR_len l
    rw [textR_cons, List.length_append, List.length_cons]
    omega
theorem textS_len (l : List Int) : (textS l).length ≤ 4 * l.length := by
  have := textR_len (l.map nz)
  rw [List.length_map] at this
  exact this
theorem namesF_pos (l : List Int) : ∀ (f : Nat) (a : Int) (out : List Int), a ≤ l.length → (out.length : Int) ≤ a →
    a ≤ (namesF l f a out).2 ∧ (namesF l f a out).2 ≤ l.length ∧ ((namesF l f a out).1.length : Int) ≤ (namesF l f a out).2
  | 0, a, out, h, ho => by unfold namesF; exact ⟨Int.le_refl _, h, ho⟩
  | f + 1, a, out, h, ho => by
    unfold namesF
    split
    · rename_i hc
      have h1 := inB_lt hc
      have := namesF_pos l f (a + 1) (out ++ [l.getD a.toNat 0]) (by omega) (by simp; omega)
      omega
    · split
      · rename_i hc
        have h1 := valS_pos l a (escB_lt hc)
        have := namesF_pos l f (valS l a).2 (out ++ [(valS l a).1]) (by omega) (by simp; omega)
        omega
      · exact ⟨Int.le_refl _, h, ho⟩
theorem namesS_pos (l : List Int) (a : Int) (h : 0 ≤ a ∧ a ≤ l.length) : a ≤ (namesS l a).2 ∧ (namesS l a).2 ≤ l.length ∧ (namesS l a).1.length ≤ 4 * l.length := by
  have h1 := namesF_pos l (l.length + 1) a [] h.2 (by simp; omega)
  have h2 := textS_len (namesF l (l.length + 1) a []).1
  unfold namesS
  refine ⟨h1.1, h1.2.1, ?_⟩
  show (textS _).length ≤ _
  omega
def calB (l : List Int) (s : List UInt8) (k : Int) : Bool := decide (lowS s = [117, 114, 108]) && !isB l k 34 && !isB l k 39
def calC (l : List Int) (a : Int) (s : List UInt8) (to k : Int) : Tok := if calB l s k then urlS l a k else ⟨2, a, to + 1, s, [], false⟩
def calS (l : List Int) (a : Int) : Tok :=
  if isB l (namesS l a).2 40 then calC l a (namesS l a).1 (namesS l a).2 (spE l (l.length + 1) ((namesS l a).2 + 1))
  else ⟨1, a, (namesS l a).2, (namesS l a).1, [], false⟩
section
variable {l : List Int} (hl : Chs l)
include hl
theorem d_cal0 (a to : Int) (s : List UInt8) (hs : s.length ≤ 100000000000) (ht : 0 ≤ to ∧ to ≤ l.length) : ∀ (g : Nat) (k : Int), (l.length : Int) - k < g → 0 ≤ k ∧ k ≤ l.length →
    l_Z1n_0 (Mi cx) 0 1 [.sl (ints l) .no, .int .i64 a, .ptr 0 0, .str s, .int .i64 to, .int .i64 k] [.cells [.int .i64 0, .int .i64 0, .int .i64 0, .str [], .str [], .bool false]] = some ((calC l a s to (spE l g k)).v, [])
  | 0, k, hf, ha => by omega
  | g + 1, k, hf, ha => by
    have hl2 := hl.2
    have h1 := fun σ hσ => d_space hl (i := k) (by omega) σ hσ
    rw [u_Z1n_0]
    cases hsp : spB l k with
    | true =>
      have hlt := spB_lt hsp
      have ih := d_cal0 a to s hs ht g (k + 1) (by omega) (by omega)
      simp +contextual -implicitDefEqProofs (disch := first | assumption | omega | (simp -implicitDefEqProofs only [go_sem]; try omega)) only [↓reduceIte, go_sem, iP, iN, w64, w8, w32, b_Z1n_0, h1, hsp, spE, ih]
    | false =>
      have h2 := fun σ hσ => d_Lower s hs σ hσ
      have h3 := fun σ hσ => d_is hl (i := k) (by omega) σ hσ 34
      have h4 := fun σ hσ => d_is hl (i := k) (by omega) σ hσ 39
      have h5 := fun σ hσ => d_url hl a k (by omega) σ hσ
      have e : spE l (g + 1) k = k := by unfold spE; rw [hsp]; rfl
      rw [e]
      unfold calC calB
      by_cases c1 : lowS s = [117, 114, 108]
      · cases c2 : isB l k 34 with
        | true => simp +contextual -implicitDefEqProofs (disch := first | assumption | omega | (simp -implicitDefEqProofs only [go_sem]; try omega)) only [↓reduceIte, go_sem, iP, iN, w64, w8, w32, b_Z1n_0, h1, hsp, h2, h3, h4, c1, c2, Tok.v]
        | false =>
          cases c3 : isB l k 39 with
          | true => simp +contextual -implicitDefEqProofs (disch := first | assumption | omega | (simp -implicitDefEqProofs only [go_sem]; try omega)) only [↓reduceIte, go_sem, iP, iN, w64, w8, w32, b_Z1n_0, h1, hsp, h2, h3, h4, c1, c2, c3, Tok.v]
          | false => simp +contextual -implicitDefEqProofs (disch := first | assumption | omega | (simp -implicitDefEqProofs only [go_sem]; try omega)) only [↓reduceIte, go_sem, iP, iN, w64, w8, w32, b_Z1n_0, h1, hsp, h2, h3, h4, h5, c1, c2, c3, Tok.v]
      · simp +contextual -implicitDefEqProofs (disch := first | assumption | omega | (simp -implicitDefEqProofs only [go_sem]; try omega)) only [↓reduceIte, go_sem, iP, iN, w64, w8, w32, b_Z1n_0, h1, hsp, h2, h3, h4, c1, Tok.v]
theorem d_called (a : Int) (ha : 0 ≤ a ∧ a ≤ l.length) (σ : Objs) (hσ : Wf σ) : E cx 81 [.sl (ints l) .no, .int .i64 a] σ = some ((calS l a).v, σ) := by
  refine E_any cx_cl ?_ (by rw [rbs_cons, ints_rb]; rfl) ?_ σ hσ
  · have hl2 := hl.2
    have hp := namesS_pos l a ha
    have h1 := fun σ hσ => d_names l hl a ha σ hσ
    have h2 := fun σ hσ => d_is hl (i := (namesS l a).2) (by omega) σ hσ 40
    rw [e_Z1n]
    unfold calS
    cases c1 : isB l (namesS l a).2 40 with
    | true =>
      have hlt := isB_lt c1
      have h := d_cal0 hl a (namesS l a).2 (namesS l a).1 (by omega) (by omega) (l.length + 1) ((namesS l a).2 + 1) (by omega) (by omega)
      simp +contextual -implicitDefEqProofs (disch := first | assumption | omega | (simp -implicitDefEqProofs only [go_sem]; try omega)) only [↓reduceIte, go_sem, iP, iN, w64, w8, w32, s_Z1n, h1, h2, c1, h]
    | false => simp +contextual -implicitDefEqProofs (disch := first | assumption | omega | (simp -implicitDefEqProofs only [go_sem]; try omega)) only [↓reduceIte, go_sem, iP, iN, w64, w8, w32, s_Z1n, h1, h2, c1, Tok.v]
  · rfl
end
end Go.Proofs.YtkgkmlhljeidhaaGreatDoor
set_option linter.unusedSimpArgs false
set_option linter.unusedVariables false
set_option linter.unusedSectionVars false
namespace Go.Proofs.YtkgkmlhljeidhaaGreatDoor
open Go.Ev
set_option maxRecDepth 100000
def sgnF (l : List Int) (i c : Int) : List (Int × Int) → Tok
  | [] => ⟨9, i, i + 1, textS (cutL l i (i + 1)), [], false⟩
  | (s, k) :: r => if c = s then ⟨k, i, i + 1, [], [], false⟩ else sgnF l i c r
section
variable {l : List Int} (hl : Chs l)
include hl
theorem d_spc (i : Int) : ∀ (g : Nat) (k : Int), (l.length : Int) - k < g → 0 ≤ k ∧ k ≤ l.length →
    l_Z1j_0 (Mi cx) 0 1 [.sl (ints l) .no, .ptr 0 0, .int .i64 i, .int .i64 k] [.cells [.int .i64 0, .int .i64 0, .int .i64 0, .str [], .str [], .bool false]] = some ((Tok.mk 13 i (spE l g k) [] [] false).v, [])
  | 0, k, hf, ha => by omega
  | g + 1, k, hf, ha => by
    have hl2 := hl.2
    have h1 := fun σ hσ => d_space hl (i := k) (by omega) σ hσ
    rw [u_Z1j_0]
    cases hsp : spB l k with
    | true =>
      have hlt := spB_lt hsp
      have ih := d_spc i g (k + 1) (by omega) (by omega)
      simp +contextual -implicitDefEqProofs (disch := first | assumption | omega | (simp -implicitDefEqProofs only [go_sem]; try omega)) only [↓reduceIte, go_sem, iP, iN, w64, w8, w32, b_Z1j_0, h1, hsp, spE, ih]
    | false => simp +contextual -implicitDefEqProofs (disch := first | assumption | omega | (simp -implicitDefEqProofs only [go_sem]; try omega)) only [↓reduceIte, go_sem, iP, iN, w64, w8, w32, b_Z1j_0, h1, hsp, spE, Tok.v]
theorem d_sgn9 (i c : Int) (hi : 0 ≤ i ∧ i < l.length) : l_Z1j_1 (Mi cx) 0 1 [.sl (ints l) .no, .ptr 0 0, .int .i64 i, .int .i64 c, .str [40, 41, 91, 93, 123, 125, 44, 58, 59], .sl [.int .i64 21, .int .i64 22, .int .i64 19, .int .i64 20, .int .i64 23, .int .i64 24, .int .i64 18, .int .i64 16, .int .i64 17] .fx, .int .i64 9] [.cells [.int .i64 0, .int .i64 0, .int .i64 0, .str [], .str [], .bool false]] = some ((sgnF l i c []).v, []) := by
  have hl2 := hl.2
  have h1 := fun σ hσ => d_text (cutL l i (i + 1)) (hl.cut _ _) .no σ hσ
  have h2 : evCut 1 (.sl (ints l) .no) (some (.int .i64 i)) (some (.int .i64 (i + 1))) none = some (.sl (ints (cutL l i (i + 1))) .no) := cut_ints (by omega)
  rw [u_Z1j_1]
  simp +contextual -implicitDefEqProofs (disch := first | assumption | omega | (simp -implicitDefEqProofs only [go_sem]; try omega)) only [↓reduceIte, go_sem, iP, iN, w64, w8, w32, b_Z1j_1, h1, h2, sgnF, Tok.v]
theorem d_sgn8 (i c : Int) (hi : 0 ≤ i ∧ i < l.length) : l_Z1j_1 (Mi cx) 0 1 [.sl (ints l) .no, .ptr 0 0, .int .i64 i, .int .i64 c, .str [40, 41, 91, 93, 123, 125, 44, 58, 59], .sl [.int .i64 21, .int .i64 22, .int .i64 19, .int .i64 20, .int .i64 23, .int .i64 24, .int .i64 18, .int .i64 16, .int .i64 17] .fx, .int .i64 8] [.cells [.int .i64 0, .int .i64 0, .int .i64 0, .str [], .str [], .bool false]] = some ((sgnF l i c [(59, 17)]).v, []) := by
  have hl2 := hl.2
  have h1 := d_sgn9 hl i c hi
  rw [u_Z1j_1]
  have h3 : evIdx (.int .i64 8) (.str [40, 41, 91, 93, 123, 125, 44, 58, 59]) = some (.int .u8 59) := by rfl
  have h4 : eI 1 (.int .i64 8) (.sl [.int .i64 21, .int .i64 22, .int .i64 19, .int .i64 20, .int .i64 23, .int .i64 24, .int .i64 18, .int .i64 16, .int .i64 17] .fx) = some (.eptr [.int .i64 17] 0) := by rfl
  have h5 : eI 1 (.int .i64 8) (.sl [.int .i64 21, .int .i64 22, .int .i64 19, .int .i64 20, .int .i64 23, .int .i64 24, .int .i64 18, .int .i64 16, .int .i64 17] .no) = some (.eptr [.int .i64 17] 0) := by rfl
  by_cases e : (59 : Int) = c
  · subst e
    simp +contextual -implicitDefEqProofs (disch := first | assumption | omega | (simp -implicitDefEqProofs only [go_sem]; try omega)) only [↓reduceIte, go_sem, iP, iN, w64, w8, w32, b_Z1j_1, h1, h3, h4, h5, sgnF, Tok.v]
  · have e' : ¬ c = 59 := fun x => e x.symm
    have e2 : sgnF l i c [(59, 17)] = sgnF l i c [] := if_neg e'
    rw [e2]
    simp +contextual -implicitDefEqProofs (disch := first | assumption | omega | (simp -implicitDefEqProofs only [go_sem]; try omega)) only [↓reduceIte, go_sem, iP, iN, w64, w8, w32, b_Z1j_1, h1, h3, h4, h5, e]
theorem d_sgn7 (i c : Int) (hi : 0 ≤ i ∧ i < l.length) : l_Z1j_1 (Mi cx) 0 1 [.sl (ints l) .no, .ptr 0 0, .int .i64 i, .int .i64 c, .str [40, 41, 91, 93, 123, 125, 44, 58, 59], .sl [.int .i64 21, .int .i64 22, .int .i64 19, .int .i64 20, .int .i64 23, .int .i64 24, .int .i64 18, .int .i64 16, .int .i64 17] .fx, .int .i64 7] [.cells [.int .i64 0, .int .i64 0, .int .i64 0, .str [], .str [], .bool false]] = some ((sgnF l i c [(58, 16), (59, 17)]).v, []) := by
  have hl2 := hl.2
  have h1 := d_sgn8 hl i c hi
  rw [u_Z1j_1]
  have h3 : evIdx (.int .i64 7) (.str [40, 41, 91, 93, 123, 125, 44, 58, 59]) = some (.int .u8 58) := by rfl
  have h4 : eI 1 (.int .i64 7) (.sl [.int .i64 21, .int .i64 22, .int .i64 19, .int .i64 20, .int .i64 23, .int .i64 24, .int .i64 18, .int .i64 16, .int .i64 17] .fx) = some (.eptr [.int .i64 16] 0) := by rfl
  have h5 : eI 1 (.int .i64 7) (.sl [.int .i64 21, .int .i64 22, .int .i64 19, .int .i64 20, .int .i64 23, .int .i64 24, .int .i64 18, .int .i64 16, .int .i64 17] .no) = some (.eptr [.int .i64 16] 0) := by rfl
  by_cases e : (58 : Int) = c
  · subst e
    simp +contextual -implicitDefEqProofs (disch := first | assumption | omega | (simp -implicitDefEqProofs only [go_sem]; try omega)) only [↓reduceIte, go_sem, iP, iN, w64, w8, w32, b_Z1j_1, h1, h3, h4, h5, sgnF, Tok.v]
  · have e' : ¬ c = 58 := fun x => e x.symm
    have e2 : sgnF l i c [(58, 16), (59, 17)] = sgnF l i c [(59, 17)] := if_neg e'
    rw [e2]
    simp +contextual -implicitDefEqProofs (disch := first | assumption | omega | (simp -implicitDefEqProofs only [go_sem]; try omega)) only [↓reduceIte, go_sem, iP, iN, w64, w8, w32, b_Z1j_1, h1, h3, h4, h5, e]
theorem d_sgn6 (i c : Int) (hi : 0 ≤ i ∧ i < l.length) : l_Z1j_1 (Mi cx) 0 1 [.sl (ints l) .no, .ptr 0 0, .int .i64 i, .int .i64 c, .str [40, 41, 91, 93, 123, 125, 44, 58, 59], .sl [.int .i64 21, .int .i64 22, .int .i64 19, .int .i64 20, .int .i64 23, .int .i64 24, .int .i64 18, .int .i64 16, .int .i64 17] .fx, .int .i64 6] [.cells [.int .i64 0, .int .i64 0, .int .i64 0, .str [], .str [], .bool false]] = some ((sgnF l i c [(44, 18), (58, 16), (59, 17)]).v, []) := by
  have hl2 := hl.2
  have h1 := d_sgn7 hl i c hi
  rw [u_Z1j_1]
  have h3 : evIdx (.int .i64 6) (.str [40, 41, 91, 93, 123, 125, 44, 58, 59]) = some (.int .u8 44) := by rfl
  have h4 : eI 1 (.int .i64 6) (.sl [.int .i64 21, .int .i64 22, .int .i64 19, .int .i64 20, .int .i64 23, .int .i64 24, .int .i64 18, .int .i64 16, .int .i64 17] .fx) = some (.eptr [.int .i64 18] 0) := by rfl
  have h5 : eI 1 (.int .i64 6) (.sl [.int .i64 21, .int .i64 22, .int .i64 19, .int .i64 20, .int .i64 23, .int .i64 24, .int .i64 18, .int .i64 16, .int .i64 17] .no) = some (.eptr [.int .i64 18] 0) := by rfl
  by_cases e : (44 : Int) = c
  · subst e
    simp +contextual -implicitDefEqProofs (disch := first | assumption | omega | (simp -implicitDefEqProofs only [go_sem]; try omega)) only [↓reduceIte, go_sem, iP, iN, w64, w8, w32, b_Z1j_1, h1, h3, h4, h5, sgnF, Tok.v]
  · have e' : ¬ c = 44 := fun x => e x.symm
    have e2 : sgnF l i c [(44, 18), (58, 16), (59, 17)] = sgnF l i c [(58, 16), (59, 17)] := if_neg e'
    rw [e2]
    simp +contextual -implicitDefEqProofs (disch := first | assumption | omega | (simp -implicitDefEqProofs only [go_sem]; try omega)) only [↓reduceIte, go_sem, iP, iN, w64, w8, w32, b_Z1j_1, h1, h3, h4, h5, e]
theorem d_sgn5 (i c : Int) (hi : 0 ≤ i ∧ i < l.length) : l_Z1j_1 (Mi cx) 0 1 [.sl (ints l) .no, .ptr 0 0, .int .i64 i, .int .i64 c, .str [40, 41, 91, 93, 123, 125, 44, 58, 59], .sl [.int .i64 21, .int .i64 22, .int .i64 19, .int .i64 20, .int .i64 23, .int .i64 24, .int .i64 18, .int .i64 16, .int .i64 17] .fx, .int .i64 5] [.cells [.int .i64 0, .int .i64 0, .int .i64 0, .str [], .str [], .bool false]] = some ((sgnF l i c [(125, 24), (44, 18), (58, 16), (59, 17)]).v, []) := by
  have hl2 := hl.2
  have h1 := d_sgn6 hl i c hi
  rw [u_Z1j_1]
  have h3 : evIdx (.int .i64 5) (.str [40, 41, 91, 93, 123, 125, 44, 58, 59]) = some (.int .u8 125) := by rfl
  have h4 : eI 1 (.int .i64 5) (.sl [.int .i64 21, .int .i64 22, .int .i64 19, .int .i64 20, .int .i64 23, .int .i64 24, .int .i64 18, .int .i64 16, .int .i64 17] .fx) = some (.eptr [.int .i64 24] 0) := by rfl
  have h5 : eI 1 (.int .i64 5) (.sl [.int .i64 21, .int .i64 22, .int .i64 19, .int .i64 20, .int .i64 23, .int .i64 24, .int .i64 18, .int .i64 16, .int .i64 17] .no) = some (.eptr [.int .i64 24] 0) := by rfl
  by_cases e : (125 : Int) = c
  · subst e
    simp +contextual -implicitDefEqProofs (disch := first | assumption | omega | (simp -implicitDefEqProofs only [go_sem]; try omega)) only [↓reduceIte, go_sem, iP, iN, w64, w8, w32, b_Z1j_1, h1, h3, h4, h5, sgnF, Tok.v]
  · have e' : ¬ c = 125 := fun x => e x.symm
    have e2 : sgnF l i c [(125, 24), (44, 18), (58, 16), (59, 17)] = sgnF l i c [(44, 18), (58, 16), (59, 17)] := if_neg e'
    rw [e2]
    simp +contextual -implicitDefEqProofs (disch := first | assumption | omega | (simp -implicitDefEqProofs only [go_sem]; try omega)) only [↓reduceIte, go_sem, iP, iN, w64, w8, w32, b_Z1j_1, h1, h3, h4, h5, e]
theorem d_sgn4 (i c : Int) (hi : 0 ≤ i ∧ i < l.length) : l_Z1j_1 (Mi cx) 0 1 [.sl (ints l) .no, .ptr 0 0, .int .i64 i, .int .i64 c, .str [40, 41, 91, 93, 123, 125, 44, 58, 59], .sl [.int .i64 21, .int .i64 22, .int .i64 19, .int .i64 20, .int .i64 23, .int .i64 24, .int .i64 18, .int .i64 16, .int .i64 17] .fx, .int .i64 4] [.cells [.int .i64 0, .int .i64 0, .int .i64 0, .str [], .str [], .bool false]] = some ((sgnF l i c [(123, 23), (125, 24), (44, 18), (58, 16), (59, 17)]).v, []) := by
  have hl2 := hl.2
  have h1 := d_sgn5 hl i c hi
  rw [u_Z1j_1]
  have h3 : evIdx (.int .i64 4) (.str [40, 41, 91, 93, 123, 125, 44, 58, 59]) = some (.int .u8 123) := by rfl
  have h4 : eI 1 (.int .i64 4) (.sl [.int .i64 21, .int .i64 22, .int .i64 19, .int .i64 20, .int .i64 23, .int .i64 24, .int .i64 18, .int .i64 16, .int .i64 17] .fx) = some (.eptr [.int .i64 23] 0) := by rfl
  have h5 : eI 1 (.int .i64 4) (.sl [.int .i64 21, .int .i64 22, .int .i64 19, .int .i64 20, .int .i64 23, .int .i64 24, .int .i64 18, .int .i64 16, .int .i64 17] .no) = some (.eptr [.int .i64 23] 0) := by rfl
  by_cases e : (123 : Int) = c
  · subst e
    simp +contextual -implicitDefEqProofs (disch := first | assumption | omega | (simp -implicitDefEqProofs only [go_sem]; try omega)) only [↓reduceIte, go_sem, iP, iN, w64, w8, w32, b_Z1j_1, h1, h3, h4, h5, sgnF, Tok.v]
  · have e' : ¬ c = 123 := fun x => e x.symm
    have e2 : sgnF l i c [(123, 23), (125, 24), (44, 18), (58, 16), (59, 17)] = sgnF l i c [(125, 24), (44, 18), (58, 16), (59, 17)] := if_neg e'
    rw [e2]
    simp +contextual -implicitDefEqProofs (disch := first | assumption | omega | (simp -implicitDefEqProofs only [go_sem]; try omega)) only [↓reduceIte, go_sem, iP, iN, w64, w8, w32, b_Z1j_1, h1, h3, h4, h5, e]
theorem d_sgn3 (i c : Int) (hi : 0 ≤ i ∧ i < l.length) : l_Z1j_1 (Mi cx) 0 1 [.sl (ints l) .no, .ptr 0 0, .int .i64 i, .int .i64 c, .str [40, 41, 91, 93, 123, 125, 44, 58, 59], .sl [.int .i64 21, .int .i64 22, .int .i64 19, .int .i64 20, .int .i64 23, .int .i64 24, .int .i64 18, .int .i64 16, .int .i64 17] .fx, .int .i64 3] [.cells [.int .i64 0, .int .i64 0, .int .i64 0, .str [], .str [], .bool false]] = some ((sgnF l i c [(93, 20), (123, 23), (125, 24), (44, 18), (58, 16), (59, 17)]).v, []) := by
  have hl2 := hl.2
  have h1 := d_sgn4 hl i c hi
  rw [u_Z1j_1]
  have h3 : evIdx (.int .i64 3) (.str [40, 41, 91, 93, 123, 125, 44, 58, 59]) = some (.int .u8 93) := by rfl
  have h4 : eI 1 (.int .i64 3) (.sl [.int .i64 21, .int .i64 22, .int .i64 19, .int .i64 20, .int .i64 23, .int .i64 24, .int .i64 18, .int .i64 16, .int .i64 17] .fx) = some (.eptr [.int .i64 20] 0) := by rfl
  have h5 : eI 1 (.int .i64 3) (.sl [.int .i64 21, .int .i64 22, .int .i64 19, .int .i64 20, .int .i64 23, .int .i64 24, .int .i64 18, .int .i64 16, .int .i64 17] .no) = some (.eptr [.int .i64 20] 0) := by rfl
  by_cases e : (93 : Int) = c
  · subst e
    simp +contextual -implicitDefEqProofs (disch := first | assumption | omega | (simp -implicitDefEqProofs only [go_sem]; try omega)) only [↓reduceIte, go_sem, iP, iN, w64, w8, w32, b_Z1j_1, h1, h3, h4, h5, sgnF, Tok.v]
  · have e' : ¬ c = 93 := fun x => e x.symm
    have e2 : sgnF l i c [(93, 20), (123, 23), (125, 24), (44, 18), (58, 16), (59, 17)] = sgnF l i c [(123, 23), (125, 24), (44, 18), (58, 16), (59, 17)] := if_neg e'
    rw [e2]
    simp +contextual -implicitDefEqProofs (disch := first | assumption | omega | (simp -implicitDefEqProofs only [go_sem]; try omega)) only [↓reduceIte, go_sem, iP, iN, w64, w8, w32, b_Z1j_1, h1, h3, h4, h5, e]
theorem d_sgn2 (i c : Int) (hi : 0 ≤ i ∧ i < l.length) : l_Z1j_1 (Mi cx) 0 1 [.sl (ints l) .no, .ptr 0 0, .int .i64 i, .int .i64 c, .str [40, 41, 91, 93, 123, 125, 44, 58, 59], .sl [.int .i64 21, .int .i64 22, .int .i64 19, .int .i64 20, .int .i64 23, .int .i64 24, .int .i64 18, .int .i64 16, .int .i64 17] .fx, .int .i64 2] [.cells [.int .i64 0, .int .i64 0, .int .i64 0, .str [], .str [], .bool false]] = some ((sgnF l i c [(91, 19), (93, 20), (123, 23), (125, 24), (44, 18), (58, 16), (59, 17)]).v, []) := by
  have hl2 := hl.2
  have h1 := d_sgn3 hl i c hi
  rw [u_Z1j_1]
  have h3 : evIdx (.int .i64 2) (.str [40, 41, 91, 93, 123, 125, 44, 58, 59]) = some (.int .u8 91) := by rfl
  have h4 : eI 1 (.int .i64 2) (.sl [.int .i64 21, .int .i64 22, .int .i64 19, .int .i64 20, .int .i64 23, .int .i64 24, .int .i64 18, .int .i64 16, .int .i64 17] .fx) = some (.eptr [.int .i64 19] 0) := by rfl
  have h5 : eI 1 (.int .i64 2) (.sl [.int .i64 21, .int .i64 22, .int .i64 19, .int .i64 20, .int .i64 23, .int .i64 24, .int .i64 18, .int .i64 16, .int .i64 17] .no) = some (.eptr [.int .i64 19] 0) := by rfl
  by_cases e : (91 : Int) = c
  · subst e
    simp +contextual -implicitDefEqProofs (disch := first | assumption | omega | (simp -implicitDefEqProofs only [go_sem]; try omega)) only [↓reduceIte, go_sem, iP, iN, w64, w8, w32, b_Z1j_1, h1, h3, h4, h5, sgnF, Tok.v]
  · have e' : ¬ c = 91 := fun x => e x.symm
    have e2 : sgnF l i c [(91, 19), (93, 20), (123, 23), (125, 24), (44, 18), (58, 16), (59, 17)] = sgnF l i c [(93, 20), (123, 23), (125, 24), (44, 18), (58, 16), (59, 17)] := if_neg e'
    rw [e2]
    simp +contextual -implicitDefEqProofs (disch := first | assumption | omega | (simp -implicitDefEqProofs only [go_sem]; try omega)) only [↓reduceIte, go_sem, iP, iN, w64, w8, w32, b_Z1j_1, h1, h3, h4, h5, e]
theorem d_sgn1 (i c : Int) (hi : 0 ≤ i ∧ i < l.length) : l_Z1j_1 (Mi cx) 0 1 [.sl (ints l) .no, .ptr 0 0, .int .i64 i, .int .i64 c, .str [40, 41, 91, 93, 123, 125, 44, 58, 59], .sl [.int .i64 21, .int .i64 22, .int .i64 19, .int .i64 20, .int .i64 23, .int .i64 24, .int .i64 18, .int .i64 16, .int .i64 17] .fx, .int .i64 1] [.cells [.int .i64 0, .int .i64 0, .int .i64 0, .str [], .str [], .bool false]] = some ((sgnF l i c [(41, 22), (91, 19), (93, 20), (123, 23), (125, 24), (44, 18), (58, 16), (59, 17)]).v, []) := by
  have hl2 := hl.2
  have h1 := d_sgn2 hl i c hi
  rw [u_Z1j_1]
  have h3 : evIdx (.int .i64 1) (.str [40, 41, 91, 93, 123, 125, 44, 58, 59]) = some (.int .u8 41) := by rfl
  have h4 : eI 1 (.int .i64 1) (.sl [.int .i64 21, .int .i64 22, .int .i64 19, .int .i64 20, .int .i64 23, .int .i64 24, .int .i64 18, .int .i64 16, .int .i64 17] .fx) = some (.eptr [.int .i64 22] 0) := by rfl
  have h5 : eI 1 (.int .i64 1) (.sl [.int .i64 21, .int .i64 22, .int .i64 19, .int .i64 20, .int .i64 23, .int .i64 24, .int .i64 18, .int .i64 16, .int .i64 17] .no) = some (.eptr [.int .i64 22] 0) := by rfl
  by_cases e : (41 : Int) = c
  · subst e
    simp +contextual -implicitDefEqProofs (disch := first | assumption | omega | (simp -implicitDefEqProofs only [go_sem]; try omega)) only [↓reduceIte, go_sem, iP, iN, w64, w8, w32, b_Z1j_1, h1, h3, h4, h5, sgnF, Tok.v]
  · have e' : ¬ c = 41 := fun x => e x.symm
    have e2 : sgnF l i c [(41, 22), (91, 19), (93, 20), (123, 23), (125, 24), (44, 18), (58, 16), (59, 17)] = sgnF l i c [(91, 19), (93, 20), (123, 23), (125, 24), (44, 18), (58, 16), (59, 17)] := if_neg e'
    rw [e2]
    simp +contextual -implicitDefEqProofs (disch := first | assumption | omega | (simp -implicitDefEqProofs only [go_sem]; try omega)) only [↓reduceIte, go_sem, iP, iN, w64, w8, w32, b_Z1j_1, h1, h3, h4, h5, e]
theorem d_sgn0 (i c : Int) (hi : 0 ≤ i ∧ i < l.length) : l_Z1j_1 (Mi cx) 0 1 [.sl (ints l) .no, .ptr 0 0, .int .i64 i, .int .i64 c, .str [40, 41, 91, 93, 123, 125, 44, 58, 59], .sl [.int .i64 21, .int .i64 22, .int .i64 19, .int .i64 20, .int .i64 23, .int .i64 24, .int .i64 18, .int .i64 16, .int .i64 17] .fx, .int .i64 0] [.cells [.int .i64 0, .int .i64 0, .int .i64 0, .str [], .str [], .bool false]] = some ((sgnF l i c [(40, 21), (41, 22), (91, 19), (93, 20), (123, 23), (125, 24), (44, 18), (58, 16), (59, 17)]).v, []) := by
  have hl2 := hl.2
  have h1 := d_sgn1 hl i c hi
  rw [u_Z1j_1]
  have h3 : evIdx (.int .i64 0) (.str [40, 41, 91, 93, 123, 125, 44, 58, 59]) = some (.int .u8 40) := by rfl
  have h4 : eI 1 (.int .i64 0) (.sl [.int .i64 21, .int .i64 22, .int .i64 19, .int .i64 20, .int .i64 23, .int .i64 24, .int .i64 18, .int .i64 16, .int .i64 17] .fx) = some (.eptr [.int .i64 21] 0) := by rfl
  have h5 : eI 1 (.int .i64 0) (.sl [.int .i64 21, .int .i64 22, .int .i64 19, .int .i64 20, .int .i64 23, .int .i64 24, .int .i64 18, .int .i64 16, .int .i64 17] .no) = some (.eptr [.int .i64 21] 0) := by rfl
  by_cases e : (40 : Int) = c
  · subst e
    simp +contextual -implicitDefEqProofs (disch := first | assumption | omega | (simp -implicitDefEqProofs only [go_sem]; try omega)) only [↓reduceIte, go_sem, iP, iN, w64, w8, w32, b_Z1j_1, h1, h3, h4, h5, sgnF, Tok.v]
  · have e' : ¬ c = 40 := fun x => e x.symm
    have e2 : sgnF l i c [(40, 21), (41, 22), (91, 19), (93, 20), (123, 23), (125, 24), (44, 18), (58, 16), (59, 17)] = sgnF l i c [(41, 22), (91, 19), (93, 20), (123, 23), (125, 24), (44, 18), (58, 16), (59, 17)] := if_neg e'
    rw [e2]
    simp +contextual -implicitDefEqProofs (disch := first | assumption | omega | (simp -implicitDefEqProofs only [go_sem]; try omega)) only [↓reduceIte, go_sem, iP, iN, w64, w8, w32, b_Z1j_1, h1, h3, h4, h5, e]
end
end Go.Proofs.YtkgkmlhljeidhaaGreatDoor
