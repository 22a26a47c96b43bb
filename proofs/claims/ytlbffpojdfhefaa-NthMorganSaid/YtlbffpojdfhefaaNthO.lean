/- Walks of both, Union, Inter. -/
import Derived.Test.YtlbffpojdfhefaaNthN
namespace Go.Proofs.Ytlbffpojdfhefaa
open Go.RowKit
attribute [local go_sem ↓] Go.wp_at_zero Go.wp_at_succ

theorem Try.callBoth1 : ∀ args W, (callFunc 45 args).run Try.prog W = .ok (.enter 45 args) W := fun _ _ => by kernel_rfl
theorem Try.callUnion1 : ∀ args W, (callFunc 33 args).run Try.prog W = .ok (.enter 33 args) W := fun _ _ => by kernel_rfl
theorem Try.callInter1 : ∀ args W, (callFunc 34 args).run Try.prog W = .ok (.enter 34 args) W := fun _ _ => by kernel_rfl
theorem union1_any (x y : Bool) (W : World) : Calls Try.prog 33 #[.bool x, .bool y] W (RetB W (x || y)) := by
  cases x <;> cases y <;>
  (go_enter Try.func33, Try.ntmps33
   go_wp2
   go_ret
   exact ⟨rfl, Below.refl _ _⟩)
theorem inter1_any (x y : Bool) (W : World) : Calls Try.prog 34 #[.bool x, .bool y] W (RetB W (x && y)) := by
  cases x <;> cases y <;>
  (go_enter Try.func34, Try.ntmps34
   go_wp2
   go_ret
   exact ⟨rfl, Below.refl _ _⟩)

set_option maxHeartbeats 1000000 in
theorem bothF_any (tid : FuncId) (hcf : ∀ args W, (callFunc tid args).run Try.prog W = .ok (.enter tid args) W) (g : Bool → Bool → Bool) (hg : ∀ x y W, Calls Try.prog tid #[.bool x, .bool y] W (RetB W (g x y)))
    (bt bs bu : Nat) (v0 v1 u0 u1 : Value) (base base' : Nat) (h r h' r' : List Bool) (k : Nat) (W : World) (s : SetAt base W (.agg #[v0, v1]) h r) (s' : SetAt base' W (.agg #[u0, u1]) h' r') (hk : k ≤ 1000000000)
    (hh : h.length ≤ 1000000) (hr : r.length ≤ 1000000) (hh' : h'.length ≤ 1000000) (hr' : r'.length ≤ 1000000)
    (ct : W.cell? ⟨bt, 0, none⟩ = some (.func (.func tid) #[] #[])) (c0 : W.cell? ⟨bs, 0, none⟩ = some v0) (c1 : W.cell? ⟨bs, 1, none⟩ = some v1) (d0 : W.cell? ⟨bu, 0, none⟩ = some u0) (d1 : W.cell? ⟨bu, 1, none⟩ = some u1)
    (l1 : bt < W.heap.size) (l2 : bs < W.heap.size) (l3 : bu < W.heap.size) :
    Calls Try.prog 45 #[.int .i64 ((k : Int) + 1), .pointer (some ⟨bt, 0, none⟩), .pointer (some ⟨bs, 0, none⟩), .pointer (some ⟨bu, 0, none⟩)] W (RetB W (g (sq h r k) (sq h' r' k))) := by
  obtain ⟨a0, m0, x0, a1, m1, x1, r0, e, -, -, -⟩ := s.open
  simp only [Value.agg.injEq, Array.mk.injEq, List.cons.injEq, and_true] at e
  obtain ⟨rfl, rfl⟩ := e
  obtain ⟨a2, m2, x2, a3, m3, x3, r2, e, -, -, -⟩ := s'.open
  simp only [Value.agg.injEq, Array.mk.injEq, List.cons.injEq, and_true] at e
  obtain ⟨rfl, rfl⟩ := e
  have hk' : (k : Int) ≤ 1000000000 := by omega
  have e2 : ∀ a b, (decide (1 ≤ (k : Int) + 1) && sq a b ((k : Int) + 1 - 1).toNat) = sq a b k := by
    intro a b
    rw [decide_eq_true (by omega), Bool.true_and]; congr 1; omega
  have HC : Hid (∀ W', Below W.heap.size W W' → Calls Try.prog 20 #[.agg #[.slice a0 m0 x0, .slice a1 m1 x1], .int .i64 ((k : Int) + 1)] W' (RetB W' (sq h r k))) := fun W' hb => by
    have := hasSet_any _ base h r ((k : Int) + 1) W' (s.keep hb) (by omega) (by omega) hh hr
    rw [e2] at this; exact this
  have HD : Hid (∀ W', Below W.heap.size W W' → Calls Try.prog 20 #[.agg #[.slice a2 m2 x2, .slice a3 m3 x3], .int .i64 ((k : Int) + 1)] W' (RetB W' (sq h' r' k))) := fun W' hb => by
    have := hasSet_any _ base' h' r' ((k : Int) + 1) W' (s'.keep hb) (by omega) (by omega) hh' hr'
    rw [e2] at this; exact this
  have KK : Hid (∀ w' : World, Below W.heap.size W w' → (w'.cell? ⟨bt, 0, none⟩ = some (.func (.func tid) #[] #[]) ∧ w'.cell? ⟨bs, 0, none⟩ = some (.slice a0 m0 x0) ∧ w'.cell? ⟨bs, 1, none⟩ = some (.slice a1 m1 x1) ∧ w'.cell? ⟨bu, 0, none⟩ = some (.slice a2 m2 x2) ∧ w'.cell? ⟨bu, 1, none⟩ = some (.slice a3 m3 x3))) := by
    intro w' hb
    refine ⟨?_, ?_, ?_, ?_, ?_⟩
    · rw [hb.cell l1]; exact ct
    · rw [hb.cell l2]; exact c0
    · rw [hb.cell l2]; exact c1
    · rw [hb.cell l3]; exact d0
    · rw [hb.cell l3]; exact d1
  have HG := Lib.hid hg
  clear s s' e2 ct c0 c1 d0 d1 hg
  generalize sq h r k = p at HC
  generalize sq h' r' k = q at HD
  go_enter Try.func45, Try.ntmps45
  go_wp2_with fail
  go_region_held3 (fun w' => (w'.cell? ⟨bt, 0, none⟩ = some (.func (.func tid) #[] #[]) ∧ w'.cell? ⟨bs, 0, none⟩ = some (.slice a0 m0 x0) ∧ w'.cell? ⟨bs, 1, none⟩ = some (.slice a1 m1 x1) ∧ w'.cell? ⟨bu, 0, none⟩ = some (.slice a2 m2 x2) ∧ w'.cell? ⟨bu, 1, none⟩ = some (.slice a3 m3 x3)))
    (first | exact KK.out _ (Below.refl _ _).drew | exact KK.out _ ‹Below W.heap.size W _›)
    (first
     | (go_at_call 20; (with_reducible (refine (HC.out _ (Below.refl _ _).drew).mono ?_)); rintro e w1 ⟨rfl, hb1⟩; have HB1 := below_step (Below.refl W.heap.size W).drew (Nat.le_refl _) hb1)
     | (go_at_call 20; (with_reducible (refine (HD.out _ (Below.refl _ _).drew).mono ?_)); rintro e w1 ⟨rfl, hb1⟩; have HB1 := below_step (Below.refl W.heap.size W).drew (Nat.le_refl _) hb1)
     | (go_at_call 20; (with_reducible (refine (HC.out _ HB1).mono ?_)); rintro e w2 ⟨rfl, hb2⟩; have HB2 := below_step HB1 (Nat.le_refl _) hb2)
     | (go_at_call 20; (with_reducible (refine (HD.out _ HB1).mono ?_)); rintro e w2 ⟨rfl, hb2⟩; have HB2 := below_step HB1 (Nat.le_refl _) hb2)
     | ((with_reducible (refine (HG.out p q _).mono ?_)); rintro e w3 ⟨rfl, hb3⟩; have HB3 := below_step HB2 (Nat.le_refl _) hb3))
  all_goals go_wp2
  all_goals go_ret
  all_goals exact ⟨rfl, HB3⟩
end Go.Proofs.Ytlbffpojdfhefaa
