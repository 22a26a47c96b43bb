/- For any An+B and any number, of any integers, NthOver answers true, and its arguments read as they did. Condition: the row's listed variable errors.errorType reads as the program's text lays it; the card ties that. -/
import Derived.Test.YtlbffpojdfhefaaDoorNthOver
import Derived.Test.YtlbffpojdfhefaaDoorLaw
import Derived.ChangeVars
import Derived.JoinedOf
import Derived.LaidLaws
import Derived.LaidHandle
import Derived.Stop.Joined
import Derived.Test.YtlbffpojdfhefaaDoorTie
import Derived.Test.YtlbffpojdfhefaaDoorCards
import Derived.SevenTiedAt
namespace Go.Proofs.YtlbffpojdfhefaaDoor
open Go.ChangeShapes Go.WideShapes Go.RowKit Go.Joins

theorem Tryd.cellsAB : Tryd.prog.cellsOf 23 = 2 := by kernel_rfl
theorem Tryd.et : Tryd.prog.globalNamed "errors.errorType" = some 0 := by kernel_rfl
theorem Tryd.rt : (Tryd.prog.cutTypes.find? (·.1 == "internal/reflectlite.rtype")).map (·.2) = some 71 := by kernel_rfl
theorem Tryd.oneRow : ((List.range 113).filter fun t => Tryd.prog.rowNamed t [101, 114, 114, 111, 114]) = [30] := by kernel_rfl
theorem Tryd.ntypes : Tryd.prog.types.size = 113 := by kernel_rfl
theorem errVar_of {W : World} (h : laidMetH Tryd.prog Rows.nthOverRow.laid W) : ErrVar W := by
  have h' : laidMet Tryd.prog [] W ∧ handlesMet Tryd.prog Rows.nthOverRow.laid W := h
  obtain ⟨name, u, ty, e1, e2, e3, e4, e5⟩ := h'.2 _ (List.mem_singleton.2 rfl)
  have en : name = [101, 114, 114, 111, 114] := (Option.some.inj e1).symm
  subst en
  obtain rfl := Option.some.inj (Tryd.rt.symm.trans e2)
  have hm : ty ∈ (List.range 113).filter fun t => Tryd.prog.rowNamed t [101, 114, 114, 111, 114] := List.mem_filter.2 ⟨List.mem_range.2 (by rw [← Tryd.ntypes]; exact e3), e4⟩
  rw [Tryd.oneRow] at hm
  obtain rfl := List.mem_singleton.1 hm
  have hh : typeHandle Tryd.prog 30 = .pointer (some ⟨1, 30, none⟩) := by kernel_rfl
  rw [hh] at e5
  simpa [ErrVar] using World.var?_cell Tryd.et e5 0
noncomputable def laidWorld (os : Os) : World :=
  let w0 := World.holding Tryd.prog os ⟨#[], #[], []⟩
  { w0 with heap := w0.heap.modify 0 fun
      | .cells _ t frozen => .cells #[.iface 71 (.agg #[.pointer (some ⟨1, 30, none⟩)])] t frozen
      | o => o }
theorem laidWorld_met (os : Os) (args : Array Value) : laidMetH Tryd.prog Rows.nthOverRow.laid ((laidWorld os).forCall (fun _ _ => 0) ⟨#[], args, []⟩).memory :=
  laidMetH_of_parts (laidMet_nil _ _) (by kernel_rfl)

set_option maxRecDepth 100000 in
theorem nthOver_lifted (os : Os) (started : os.Started) (H : Type) (enc : TypeId × Value → H) :
    ReturnsInHanded {} Tryd.checked os 3 .any (fun w args => (Rows.nthOverSpec.pre enc Tryd.prog Tryd.f3 [] false w args ∧ laidMetH Tryd.prog Rows.nthOverRow.laid w) ∧ sizedMet enc Tryd.prog Tryd.f3 (OpenSpec.ofChange Rows.nthOverSpec) false w args)
      (Rows.nthOverSpec.post enc Tryd.prog Tryd.f3 false true false false) := by
  refine returnsInHanded_of_change_and (C := Tryd.checked) (X := fun w _ => laidMetH Tryd.prog Rows.nthOverRow.laid w) (fun _ _ _ hh h => h.of_heap hh) Tryd.ownKnob started (by kernel_rfl) Tryd.func3
    (ChangeSpec.witness_at (enc := enc) (C := Tryd.checked) (os := os) (X := fun w _ => laidMetH Tryd.prog Rows.nthOverRow.laid w) false (laidWorld os) #[.agg #[.int .i64 0, .int .i64 0], .int .i64 0] 8 rfl (by kernel_rfl) (by kernel_rfl) (by kernel_rfl) (by kernel_rfl) (by kernel_rfl) (laidWorld_met os _)) ?_
  intro W base args ds gs before hval0 hW _ _ hL _
  have hval : ∀ (j : Nat) t v, Tryd.f3.params[j]? = some t → args[j]? = some v → Value.okWide Tryd.prog W .any base t v := hval0
  have hW' := hW
  obtain ⟨p, q, hA0, hV0, rfl, hfz, hnd⟩ := hW
  have hA : DataW.TrodAll enc Tryd.prog W 0 (fun _ => true) true Tryd.f3.params.toList args.toList ds p := hA0
  have hV : DataW.TrodVars enc Tryd.prog W (fun _ => true) [] gs q := hV0
  rw [Tryd.params3] at hA hval
  obtain ⟨v0, v1, d0, d1, p0, p1, rfl, rfl, rfl, h0, h1⟩ := trodAll_two hA
  obtain ⟨rfl, rfl⟩ := trodVars_none hV
  obtain ⟨c0, c1, y0, y1, m, rfl, hd0, hp0, hy0, hy1⟩ := open_agg2 Tryd.underlying23 (by kernel_rfl) Tryd.cellsAB (hval 0 23 v0 rfl rfl) h0
  obtain ⟨a, e0, ea, wa⟩ := DataW.trod_int Tryd.underlying3 hy0
  obtain ⟨b, e1, eb, wb⟩ := DataW.trod_int Tryd.underlying3 hy1
  simp at e0 e1
  subst e0 e1
  obtain ⟨n, rfl, hd1, hp1, w1⟩ := open_int Tryd.underlying3 (hval 1 3 v1 rfl rfl) h1
  have hn : -9223372036854775808 ≤ n := by simp [Lit.wf, IntKind.min, IntKind.max, IntKind.signed, IntKind.bits] at w1; omega
  have hg := errVar_of hL
  refine (nthOver_any W a b n hg hn).mono fun e W' ⟨he, hb⟩ => ?_
  subst he
  exact ⟨_, rfl, law_post (tb := 4) Tryd.laidOut (by rw [Tryd.params3]; intro t ht; simp only [List.mem_cons, List.not_mem_nil, or_false] at ht; rcases ht with rfl | rfl <;> exact ⟨by kernel_rfl, of_decide_eq_true (by kernel_rfl)⟩) hW' rfl rfl Tryd.underlying4 rfl hb⟩
theorem nthOver_holds : Rows.NthOverSaid :=
  OpenClaim.holds_of_wide 3 Tryd.f3 rfl rfl rfl rfl rfl rfl rfl ⟨rfl, rfl, rfl, rfl, rfl⟩ rfl rfl rfl rfl rfl (by kernel_rfl) Tryd.func3 (by kernel_rfl)
    (of_decide_eq_true (by kernel_rfl)) (by unfold Func.isWrapper; rw [if_neg (of_decide_eq_false (by kernel_rfl))]; exact ⟨rfl, rfl⟩)
    (fun os started H enc _ => nthOver_lifted os started H enc)
theorem nthOver_card : Rows.NthOverCardSaid :=
  Claim7.holds_tied_plain_at .later [] _ _ _ _
    nthOver_holds (fun _ h => by cases h) (by kernel_rfl) (fun _ h => by cases h) nthOver_row_tie rfl ⟨rfl, rfl⟩ (by kernel_rfl) rfl
    (fun f fn hf hfn => by
      obtain rfl : f = 3 := Option.some.inj ((show Tryd.prog.funcNamed "wattle/wattlelaw05.NthOver" = some 3 by kernel_rfl).symm.trans hf) |>.symm
      obtain rfl : fn = Tryd.f3 := (Option.some.inj (Tryd.func3.symm.trans hfn)).symm
      exact ⟨by kernel_rfl, fun j t ht => by
        rw [Tryd.params3] at ht
        have h3 : t = 23 ∨ t = 3 := by
          rcases j with _ | _ | j
          · left; simpa using ht.symm
          · right; simpa using ht.symm
          · simp at ht
        rcases h3 with rfl | rfl
        · exact (show Tryd.prog.wantsStandIn 23 = false by kernel_rfl)
        · exact (show Tryd.prog.wantsStandIn 3 = false by kernel_rfl)⟩)
    (by kernel_rfl)
#print axioms nthOver_card
end Go.Proofs.YtlbffpojdfhefaaDoor
