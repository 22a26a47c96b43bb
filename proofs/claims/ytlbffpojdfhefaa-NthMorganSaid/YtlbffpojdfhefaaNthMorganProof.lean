/- For any two An+B, of any integers, NthMorgan answers true, and its arguments read as they did. No condition. -/
import Derived.Test.YtlbffpojdfhefaaNthMorganX
import Derived.Test.YtlbffpojdfhefaaLaw
namespace Go.Proofs.Ytlbffpojdfhefaa
open Go.ChangeShapes Go.WideShapes Go.ChangeAt Go.RowKit Go.Joins
open Go.ChangeMaps (open_string)

theorem Try.cellsAB_nthMorgan : Try.prog.cellsOf 25 = 2 := by kernel_rfl
set_option maxRecDepth 100000 in
theorem nthMorgan_lifted (os : Os) (started : os.Started) (H : Type) (enc : TypeId × Value → H) :
    ReturnsInHanded {} Try.checked os 4 .any (Rows.nthMorganSpec.pre6 enc Try.prog Try.f4 Rows.nthMorganRow.domain false) (Rows.nthMorganSpec.post enc Try.prog Try.f4 false true false false) := by
  refine returnsInHanded_of_change (C := Try.checked) Try.ownKnob started (by kernel_rfl) Try.func4
    (ChangeSpec.witness6 (enc := enc) (C := Try.checked) false ⟨#[], #[.agg #[.int .i64 0, .int .i64 0], .agg #[.int .i64 0, .int .i64 0]], []⟩ 8 (by kernel_rfl) (by kernel_rfl) (by kernel_rfl) (by kernel_rfl)) ?_
  intro W base args ds gs before hval0 hW hcnd _
  have hval : ∀ (j : Nat) t v, Try.f4.params[j]? = some t → args[j]? = some v → Value.okWide Try.prog W .any base t v := hval0
  have hW' := hW
  obtain ⟨p, q, hA0, hV, rfl, hfz, hnd⟩ := hW
  have hA : DataW.TrodAll enc Try.prog W 0 (fun _ => true) true Try.f4.params.toList args.toList ds p := hA0
  rw [Try.params4] at hA hval
  obtain ⟨v0, v1, d0, d1, p0, p1, rfl, rfl, rfl, h0, h1⟩ := trodAll_two hA
  obtain ⟨rfl, rfl⟩ := trodVars_none hV
  obtain ⟨c0, c1, y0, y1, m, rfl, hd0, hp0, hy0, hy1⟩ := open_agg2 Try.underlying25 (by kernel_rfl) Try.cellsAB_nthMorgan (hval 0 25 v0 rfl rfl) h0
  obtain ⟨xa, e0, ea, wa0⟩ := DataW.trod_int Try.underlying3 hy0
  obtain ⟨xb, e1, eb, wb0⟩ := DataW.trod_int Try.underlying3 hy1
  simp at e0 e1
  subst e0 e1
  clear hy0 hy1 ea eb
  obtain ⟨c0, c1, y0, y1, m, rfl, hd1, hp1, hy0, hy1⟩ := open_agg2 Try.underlying25 (by kernel_rfl) Try.cellsAB_nthMorgan (hval 1 25 v1 rfl rfl) h1
  obtain ⟨ya, e0, ea, wa1⟩ := DataW.trod_int Try.underlying3 hy0
  obtain ⟨yb, e1, eb, wb1⟩ := DataW.trod_int Try.underlying3 hy1
  simp at e0 e1
  subst e0 e1
  clear hy0 hy1 ea eb
  clear hA0 hval0
  refine (nthMorgan_any W xa xb ya yb).mono fun e W' ⟨he, hb⟩ => ?_
  subst he
  exact ⟨_, rfl, law_post (tb := 4) Try.laidOut (by rw [Try.params4]; intro t ht; simp only [List.mem_cons, List.not_mem_nil, or_false] at ht; (repeat' (rcases ht with rfl | ht)); all_goals first | exact ⟨by kernel_rfl, of_decide_eq_true (by kernel_rfl)⟩ | (subst ht; exact ⟨by kernel_rfl, of_decide_eq_true (by kernel_rfl)⟩)) hW' rfl rfl Try.underlying4 rfl hb⟩

theorem nthMorgan_holds : Rows.NthMorganSaid :=
  OpenClaim.holds_of_wide 4 Try.f4 rfl rfl rfl rfl rfl rfl rfl ⟨rfl, rfl, rfl, rfl, rfl⟩ rfl rfl rfl rfl rfl (by kernel_rfl) Try.func4 (by kernel_rfl)
    (of_decide_eq_true (by kernel_rfl)) (by unfold Func.isWrapper; rw [if_neg (of_decide_eq_false (by kernel_rfl))]; exact ⟨rfl, rfl⟩)
    (fun os started H enc _ => nthMorgan_lifted os started H enc)
#print axioms nthMorgan_holds
end Go.Proofs.Ytlbffpojdfhefaa
