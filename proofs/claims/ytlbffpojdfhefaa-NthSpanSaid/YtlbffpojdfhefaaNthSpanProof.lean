/- For any list of An+B, of any length and integers, and any number, NthSpan answers true, and its arguments read as they did. No condition. -/
import Derived.Test.YtlbffpojdfhefaaNthY
import Derived.Test.YtlbffpojdfhefaaOpen
namespace Go.Proofs.Ytlbffpojdfhefaa
open Go.ChangeShapes Go.WideShapes Go.ChangeAt Go.RowKit Go.Joins Go.Deep

theorem Try.cellsABs : Try.prog.cellsOf 25 = 2 := by kernel_rfl
theorem decAB {H : Type} {enc : TypeId × Value → H} {w : World} (n : Nat) (cs : List Value) (y : DataW H × List MemPlace) (hl : cs.length = 2) (h : DataW.trod enc Try.prog w 0 (fun _ => true) true n 25 cs = some y) : ∃ x : Int × Int, gAB x = cs ∧ True := by
  match cs, hl with
  | [u, v], _ =>
    obtain ⟨m0, z0, h0⟩ := struct_fields Try.underlying25 (by kernel_rfl) h 0 _ u rfl rfl
    obtain ⟨m1, z1, h1⟩ := struct_fields Try.underlying25 (by kernel_rfl) h 1 _ v rfl rfl
    obtain ⟨a, e0, _, _⟩ := DataW.trod_int Try.underlying3 h0
    obtain ⟨b, e1, _, _⟩ := DataW.trod_int Try.underlying3 h1
    simp only [List.cons.injEq, and_true] at e0 e1
    subst e0 e1
    exact ⟨(a, b), rfl, trivial⟩
set_option maxRecDepth 100000 in
theorem nthSpan_lifted (os : Os) (started : os.Started) (H : Type) (enc : TypeId × Value → H) :
    ReturnsInHanded {} Try.checked os 3 .any (Rows.nthSpanSpec.pre6 enc Try.prog Try.f3 Rows.nthSpanRow.domain false) (Rows.nthSpanSpec.post enc Try.prog Try.f3 false true false false) := by
  refine returnsInHanded_of_change (C := Try.checked) Try.ownKnob started (by kernel_rfl) Try.func3
    (ChangeSpec.witness6 (enc := enc) (C := Try.checked) false ⟨#[], #[.slice none 0 0, .int .i64 0], []⟩ 8 (by kernel_rfl) (by kernel_rfl) (by kernel_rfl) (by kernel_rfl)) ?_
  intro W base args ds gs before hval0 hW hcnd _
  have hval : ∀ (j : Nat) t v, Try.f3.params[j]? = some t → args[j]? = some v → Value.okWide Try.prog W .any base t v := hval0
  have hW' := hW
  obtain ⟨p, q, hA0, hV, rfl, hfz, hnd⟩ := hW
  have hA : DataW.TrodAll enc Try.prog W 0 (fun _ => true) true Try.f3.params.toList args.toList ds p := hA0
  rw [Try.params3] at hA hval
  obtain ⟨v0, v1, d0, d1, p0, p1, rfl, rfl, rfl, h0, h1⟩ := trodAll_two hA
  obtain ⟨rfl, rfl⟩ := trodVars_none hV
  obtain ⟨a, m, c, xs, rfl, hr, -⟩ := open_rowG (g := gAB) (sz := 2) (d0 := (0, 0)) (Q := fun _ => True) Try.underlying22 Try.cellsABs (by omega) decAB (hval 0 22 v0 rfl rfl) h0
  obtain ⟨n, rfl, hd1, hp1, w1⟩ := open_int Try.underlying3 (hval 1 3 v1 rfl rfl) h1
  clear hA0 hval0
  refine (nthSpan_any a m c xs n W hr).mono fun e W' ⟨he, hb⟩ => ?_
  subst he
  exact ⟨_, rfl, law_post (tb := 4) Try.laidOut (by rw [Try.params3]; intro t ht; simp only [List.mem_cons, List.not_mem_nil, or_false] at ht; rcases ht with rfl | rfl <;> exact ⟨by kernel_rfl, of_decide_eq_true (by kernel_rfl)⟩) hW' rfl rfl Try.underlying4 rfl hb⟩
theorem nthSpan_holds : Rows.NthSpanSaid :=
  OpenClaim.holds_of_wide 3 Try.f3 rfl rfl rfl rfl rfl rfl rfl ⟨rfl, rfl, rfl, rfl, rfl⟩ rfl rfl rfl rfl rfl (by kernel_rfl) Try.func3 (by kernel_rfl)
    (of_decide_eq_true (by kernel_rfl)) (by unfold Func.isWrapper; rw [if_neg (of_decide_eq_false (by kernel_rfl))]; exact ⟨rfl, rfl⟩)
    (fun os started H enc _ => nthSpan_lifted os started H enc)
#print axioms nthSpan_holds
end Go.Proofs.Ytlbffpojdfhefaa
