/- For any two ints AnbTexts answers true, and its arguments read as they did. Condition: the row's listed variables (tables of Go's library, and errors.errorType) read as the program's text lays them; the card ties that. -/
import Derived.Test.YtkgkmlhljeidhaaGreatDoorTxe
import Derived.ProofKit
import Derived.Lib.SmallJoins
import Derived.ChangeVars
import Derived.JoinedOf
import Derived.LaidLaws
import Derived.LaidHandle
import Derived.Stop.LaidErr
import Derived.Lib.LaidTab
import Derived.Lib.ItoaNum
import Derived.LaidSub
import Derived.Stop.Joined
import Derived.Lay
import Derived.SevenTiedAt
import Derived.LaidOnce
import Derived.Test.YtkgkmlhljeidhaaGreatDoorTie
import Derived.Test.YtkgkmlhljeidhaaGreatDoorCards
set_option linter.unusedSimpArgs false
set_option linter.unusedVariables false
set_option linter.unusedSectionVars false
namespace Go.Ev
theorem bytesStrN_sl {σ : Objs} {xs : List V} {c : Cap} : eC σ .bytesStrN (.sl xs c) = (bytesOf xs).map V.str := rfl
attribute [go_sem] bytesStrN_sl
end Go.Ev
namespace Go.Proofs.YtkgkmlhljeidhaaGreatDoor
open Go.Ev
set_option maxRecDepth 100000
set_option maxHeartbeats 4000000
def toldF : List UInt8 → Int → Int
  | [], n => n
  | x :: r, n => toldF r (64 * n + x.toNat - 128)
def headI (k : Nat) : Int := if k = 2 then 192 else if k = 3 then 224 else if k = 4 then 240 else 0
def toldS (b : List UInt8) : Int := toldF b.tail ((b.getD 0 0).toNat - headI b.length)
theorem d_toldloop (b : List UInt8) (hb : b.length ≤ 4) : ∀ (r p : List UInt8) (n i N : Int), b = p ++ r → i = p.length → -N ≤ n ∧ n ≤ N → (N + 3) * 64 ^ r.length ≤ 1099511627776 →
    l_Z1g_0 (Mi cx) 0 0 [.sl (ofBytes b) .no, .int .i64 n, .int .i64 i] [] = some (.int .i64 (toldF r n), [])
  | [], p, n, i, N, hp, hi, hn, hN => by
    have hlen : b.length = p.length := by rw [hp]; simp
    rw [u_Z1g_0]
    simp +contextual -implicitDefEqProofs (disch := first | assumption | omega | (simp -implicitDefEqProofs only [go_sem]; try omega)) only [↓reduceIte, go_sem, iP, iN, w64, w8, w32, b_Z1g_0, toldF]
  | x :: r, p, n, i, N, hp, hi, hn, hN => by
    have hlen : b.length = p.length + r.length + 1 := by rw [hp]; simp; omega
    have hg : b.getD i.toNat 0 = x := by rw [hp, hi]; simp
    have hx := UInt8.toNat_lt x
    have hpow : (N + 3) * 64 ^ r.length * 64 ≤ 1099511627776 := by
      rw [List.length_cons, Int.pow_succ, ← Int.mul_assoc] at hN
      exact hN
    have hone : (1 : Int) ≤ 64 ^ r.length := Int.pow_pos (by decide)
    have hle : (N + 3) * 1 ≤ (N + 3) * 64 ^ r.length := Int.mul_le_mul_of_nonneg_left hone (by omega)
    have ih := d_toldloop b hb r (p ++ [x]) (64 * n + x.toNat - 128) (i + 1) (64 * N + 128) (by rw [hp]; simp) (by simp; omega) (by omega) (by
      have h1 : (64 * N + 128 + 3) * 64 ^ r.length ≤ (64 * (N + 3)) * 64 ^ r.length := Int.mul_le_mul_of_nonneg_right (by omega) (by omega)
      have h2 : (64 * (N + 3)) * 64 ^ r.length = (N + 3) * 64 ^ r.length * 64 := by rw [Int.mul_comm 64 (N + 3), Int.mul_assoc, Int.mul_comm 64, ← Int.mul_assoc]
      omega)
    rw [u_Z1g_0]
    simp +contextual -implicitDefEqProofs (disch := first | assumption | omega | (simp -implicitDefEqProofs only [go_sem]; try omega)) only [↓reduceIte, go_sem, iP, iN, w64, w8, w32, b_Z1g_0, toldF, hg, ih]
theorem d_told (b : List UInt8) (hb : 1 ≤ b.length ∧ b.length ≤ 4) (σ : Objs) (hσ : Wf σ) : E cx 87 [.sl (ofBytes b) .no] σ = some (.int .i64 (toldS b), σ) := by
  refine E_any cx_cl ?_ (by rw [rbs_cons, ofBytes_rb]; rfl) rfl σ hσ
  have hb0 := UInt8.toNat_lt (b.getD 0 0)
  have hh : 0 ≤ headI b.length ∧ headI b.length ≤ 240 := by unfold headI; repeat' split; all_goals omega
  have h1 : l_Z1g_0 (Mi cx) 0 0 [.sl (ofBytes b) .no, .int .i64 ((b.getD 0 0).toNat - headI b.length), .int .i64 1] [] = some (.int .i64 (toldS b), []) := by
    obtain ⟨x, r, rfl⟩ : ∃ x r, b = x :: r := by
      cases b with
      | nil => simp at hb
      | cons x r => exact ⟨x, r, rfl⟩
    refine d_toldloop (x :: r) hb.2 r [x] _ 1 255 rfl rfl (by omega) ?_
    have : r.length ≤ 3 := by simp at hb; omega
    have h3 : r.length = 0 ∨ r.length = 1 ∨ r.length = 2 ∨ r.length = 3 := by omega
    rcases h3 with h | h | h | h <;> rw [h] <;> decide
  have h2 : eI 1 (.int .i64 b.length) (.sl [.int .i64 0, .int .i64 0, .int .i64 192, .int .i64 224, .int .i64 240] .fx) = some (.eptr [.int .i64 (headI b.length)] 0) := by
    have h3 : b.length = 1 ∨ b.length = 2 ∨ b.length = 3 ∨ b.length = 4 := by omega
    rcases h3 with h | h | h | h <;> rw [h] <;> rfl
  have h4 : eI 1 (.int .i64 b.length) (.sl [.int .i64 0, .int .i64 0, .int .i64 192, .int .i64 224, .int .i64 240] .no) = some (.eptr [.int .i64 (headI b.length)] 0) := by
    have h3 : b.length = 1 ∨ b.length = 2 ∨ b.length = 3 ∨ b.length = 4 := by omega
    rcases h3 with h | h | h | h <;> rw [h] <;> rfl
  rw [e_Z1g]
  simp +contextual -implicitDefEqProofs (disch := first | assumption | omega | (simp -implicitDefEqProofs only [go_sem]; try omega)) only [↓reduceIte, go_sem, iP, iN, w64, w8, w32, s_Z1g, h1, h2, h4]
def wholeS (b : List UInt8) : Bool := rightB (toldS b) && decide (putS (toldS b) = b)
theorem d_whole (b : List UInt8) (hb : 1 ≤ b.length ∧ b.length ≤ 4) (σ : Objs) (hσ : Wf σ) : E cx 86 [.sl (ofBytes b) .no] σ = some (.bool (wholeS b), σ) := by
  have h1 := fun σ hσ => d_told b hb σ hσ
  have h2 := fun σ hσ => d_Right (toldS b) σ hσ
  rw [e_Z1h]
  unfold wholeS
  cases hr : rightB (toldS b) with
  | true =>
    have h3 := fun σ hσ => d_Put (toldS b) (rightB_le hr) σ hσ
    by_cases he : putS (toldS b) = b
    · simp +contextual -implicitDefEqProofs (disch := first | assumption | omega | (simp -implicitDefEqProofs only [go_sem]; try omega)) only [↓reduceIte, go_sem, iP, iN, w64, w8, w32, s_Z1h, h1, h2, h3, hr, he]
    · simp +contextual -implicitDefEqProofs (disch := first | assumption | omega | (simp -implicitDefEqProofs only [go_sem]; try omega)) only [↓reduceIte, go_sem, iP, iN, w64, w8, w32, s_Z1h, h1, h2, h3, hr, he]
  | false => simp +contextual -implicitDefEqProofs (disch := first | assumption | omega | (simp -implicitDefEqProofs only [go_sem]; try omega)) only [↓reduceIte, go_sem, iP, iN, w64, w8, w32, s_Z1h, h1, h2, hr]
theorem d_filloop (c : UInt8) : ∀ (g : Nat) (out : List UInt8) (cap : Cap) (n : Int), n = out.length + g → n ≤ 100 → (cap = .fx ∨ cap = .gr 1) →
    l_Z1f_0 (Mi cx) 0 0 [.int .u8 c.toNat, .int .i64 n, .sl (ofBytes out) cap] [] = some (.sl (ofBytes (out ++ List.replicate g c)) .no, [])
  | 0, out, cap, n, hn, hl, hc => by
    rw [u_Z1f_0]
    simp +contextual -implicitDefEqProofs (disch := first | assumption | omega | (simp -implicitDefEqProofs only [go_sem]; try omega)) only [↓reduceIte, go_sem, iP, iN, w64, w8, w32, b_Z1f_0, List.replicate, List.append_nil]
  | g + 1, out, cap, n, hn, hl, hc => by
    have hm : rowMax = 140737488355328 := rfl
    have hx := UInt8.toNat_lt c
    have h2 : appV false false 1 1 [] (.sl (ofBytes out) cap) (.sl [.int .u8 c.toNat] .no) = some (.sl (ofBytes (out ++ [c])) (.gr 1)) := app_bytes (m := [c]) hc (by simp) (by simp; omega)
    have ih := d_filloop c g (out ++ [c]) (.gr 1) n (by simp; omega) hl (.inr rfl)
    rw [List.append_assoc] at ih
    rw [u_Z1f_0]
    simp +contextual -implicitDefEqProofs (disch := first | assumption | omega | (simp -implicitDefEqProofs only [go_sem]; try omega)) only [↓reduceIte, go_sem, iP, iN, w64, w8, w32, b_Z1f_0, h2, ih, List.replicate_succ]
def filS (b : List UInt8) (c : UInt8) (n : Int) : List UInt8 := b ++ List.replicate (n.toNat - b.length) c
theorem d_filled (b : List UInt8) (c : UInt8) (n : Int) (hb : 1 ≤ b.length ∧ (b.length : Int) ≤ n ∧ n ≤ 100) (σ : Objs) (hσ : Wf σ) : E cx 104 [.sl (ofBytes b) .no, .int .u8 c.toNat, .int .i64 n] σ = some (.sl (ofBytes (filS b c n)) .no, σ) := by
  refine E_any cx_cl ?_ (by rw [rbs_cons, ofBytes_rb]; rfl) (ofBytes_rb _) σ hσ
  have hm : rowMax = 140737488355328 := rfl
  have h1 := d_filloop c (n.toNat - b.length) b (.gr 1) n (by omega) hb.2.2 (.inr rfl)
  have h2 : ∀ σ, appV false false 1 1 σ (.sl [] .fx) (.sl (ofBytes b) .no) = some (.sl (ofBytes b) (.gr 1)) := fun σ => app_bytes (l := []) (m := b) (.inl rfl) (by intro h; rw [h] at hb; simp at hb) (by simp; omega)
  rw [e_Z1f]
  unfold filS
  simp +contextual -implicitDefEqProofs (disch := first | assumption | omega | (simp -implicitDefEqProofs only [go_sem]; try omega)) only [↓reduceIte, go_sem, iP, iN, w64, w8, w32, s_Z1f, h1, h2]
theorem filS_len (b : List UInt8) (c : UInt8) (n : Int) (h : (b.length : Int) ≤ n) : ((filS b c n).length : Int) = n := by
  unfold filS
  simp; omega
def begF (b : List UInt8) : Nat → Int → Bool
  | 0, s => false
  | f + 1, s => if s ≤ 4 then (if wholeS (filS b 128 s) then true else if wholeS (filS b 191 s) then true else begF b f (s + 1)) else false
def begS (b : List UInt8) : Bool := begF b 4 (b.length + 1)
theorem d_begloop (b : List UInt8) (hb : 1 ≤ b.length ∧ b.length ≤ 4) : ∀ (f : Nat) (s : Int), 5 - s < f → (b.length : Int) < s →
    l_Z1e_0 (Mi cx) 0 0 [.sl (ofBytes b) .no, .int .i64 s] [] = some (.bool (begF b f s), [])
  | 0, s, hf, hs => by
    rw [u_Z1e_0]
    have : ¬ s ≤ 4 := by omega
    simp +contextual -implicitDefEqProofs (disch := first | assumption | omega | (simp -implicitDefEqProofs only [go_sem]; try omega)) only [↓reduceIte, go_sem, iP, iN, w64, w8, w32, b_Z1e_0, begF, this]
  | f + 1, s, hf, hs => by
    rw [u_Z1e_0]
    by_cases h4 : s ≤ 4
    · have e1 := filS_len b 128 s (by omega)
      have e2 := filS_len b 191 s (by omega)
      have h1 : ∀ σ, Wf σ → E cx 104 [.sl (ofBytes b) .no, .int .u8 128, .int .i64 s] σ = some (.sl (ofBytes (filS b 128 s)) .no, σ) := fun σ hσ => d_filled b 128 s (by omega) σ hσ
      have h2 : ∀ σ, Wf σ → E cx 104 [.sl (ofBytes b) .no, .int .u8 191, .int .i64 s] σ = some (.sl (ofBytes (filS b 191 s)) .no, σ) := fun σ hσ => d_filled b 191 s (by omega) σ hσ
      have h3 := fun σ hσ => d_whole (filS b 128 s) (by omega) σ hσ
      have h5 := fun σ hσ => d_whole (filS b 191 s) (by omega) σ hσ
      have ih := d_begloop b hb f (s + 1) (by omega) (by omega)
      cases c1 : wholeS (filS b 128 s) with
      | true => simp +contextual -implicitDefEqProofs (disch := first | assumption | omega | (simp -implicitDefEqProofs only [go_sem]; try omega)) only [↓reduceIte, go_sem, iP, iN, w64, w8, w32, b_Z1e_0, begF, h4, h1, h3, c1]
      | false =>
        cases c2 : wholeS (filS b 191 s) with
        | true => simp +contextual -implicitDefEqProofs (disch := first | assumption | omega | (simp -implicitDefEqProofs only [go_sem]; try omega)) only [↓reduceIte, go_sem, iP, iN, w64, w8, w32, b_Z1e_0, begF, h4, h1, h2, h3, h5, c1, c2]
        | false => simp +contextual -implicitDefEqProofs (disch := first | assumption | omega | (simp -implicitDefEqProofs only [go_sem]; try omega)) only [↓reduceIte, go_sem, iP, iN, w64, w8, w32, b_Z1e_0, begF, h4, h1, h2, h3, h5, c1, c2, ih]
    · simp +contextual -implicitDefEqProofs (disch := first | assumption | omega | (simp -implicitDefEqProofs only [go_sem]; try omega)) only [↓reduceIte, go_sem, iP, iN, w64, w8, w32, b_Z1e_0, begF, h4]
theorem d_begins (b : List UInt8) (hb : 1 ≤ b.length ∧ b.length ≤ 4) (σ : Objs) (hσ : Wf σ) : E cx 88 [.sl (ofBytes b) .no] σ = some (.bool (begS b), σ) := by
  refine E_any cx_cl ?_ (by rw [rbs_cons, ofBytes_rb]; rfl) rfl σ hσ
  have h1 := d_begloop b hb 5 (b.length + 1) (by omega) (by omega)
  have e : begF b 5 (b.length + 1) = begS b := by
    have key : ∀ (f : Nat) (s : Int), 4 - s < f → begF b (f + 1) s = begF b f s := by
      intro f
      induction f with
      | zero => intro s hs; show (if s ≤ 4 then _ else false) = false; rw [if_neg (by omega)]
      | succ f ih =>
        intro s hs
        show (if s ≤ 4 then (if wholeS (filS b 128 s) then true else if wholeS (filS b 191 s) then true else begF b (f + 1) (s + 1)) else false) = (if s ≤ 4 then (if wholeS (filS b 128 s) then true else if wholeS (filS b 191 s) then true else begF b f (s + 1)) else false)
        rw [ih (s + 1) (by omega)]
    exact key 4 _ (by omega)
  rw [e] at h1
  rw [e_Z1e]
  simp +contextual -implicitDefEqProofs (disch := first | assumption | omega | (simp -implicitDefEqProofs only [go_sem]; try omega)) only [↓reduceIte, go_sem, iP, iN, w64, w8, w32, s_Z1e, h1]
def cut8 (b : List UInt8) (a c : Int) : List UInt8 := (b.drop a.toNat).take (c.toNat - a.toNat)
theorem cut8_len (b : List UInt8) (a c : Int) (h : 0 ≤ a ∧ a ≤ c ∧ c ≤ b.length) : ((cut8 b a c).length : Int) = c - a := by
  unfold cut8
  simp only [List.length_take, List.length_drop]; omega
def fir1 (b : List UInt8) (a : Int) : Nat → Int → Int × Int
  | 0, s => (65533, 1)
  | f + 1, s => if 1 < s then (if a + s ≤ b.length then (if begS (cut8 b a (a + s)) then (65533, s) else fir1 b a f (s - 1)) else fir1 b a f (s - 1)) else (65533, 1)
def fir0 (b : List UInt8) (a : Int) : Nat → Int → Int × Int
  | 0, s => fir1 b a 3 3
  | f + 1, s => if s ≤ 4 then (if a + s ≤ b.length then (if wholeS (cut8 b a (a + s)) then (toldS (cut8 b a (a + s)), s) else fir0 b a f (s + 1)) else fir1 b a 3 3) else fir1 b a 3 3
def firS (b : List UInt8) (a : Int) : Int × Int := fir0 b a 4 1
theorem d_firloop1 (b : List UInt8) (hb : b.length ≤ 1000000000) (a : Int) (ha : 0 ≤ a ∧ a < b.length) : ∀ (f : Nat) (s : Int), s - 1 ≤ f → s ≤ 3 →
    l_Z19_1 (Mi cx) 0 0 [.sl (ofBytes b) .no, .int .i64 a, .int .i64 s] [] = some (.tup [.int .i64 (fir1 b a f s).1, .int .i64 (fir1 b a f s).2], [])
  | 0, s, hf, hs => by
    have : ¬ 1 < s := by omega
    rw [u_Z19_1]
    simp +contextual -implicitDefEqProofs (disch := first | assumption | omega | (simp -implicitDefEqProofs only [go_sem]; try omega)) only [↓reduceIte, go_sem, iP, iN, w64, w8, w32, b_Z19_1, fir1, this]
  | f + 1, s, hf, hs => by
    rw [u_Z19_1]
    by_cases c1 : 1 < s
    · have ih := d_firloop1 b hb a ha f (s - 1) (by omega) (by omega)
      by_cases c2 : a + s ≤ b.length
      · have hl := cut8_len b a (a + s) (by omega)
        have h1 := fun σ hσ => d_begins (cut8 b a (a + s)) (by omega) σ hσ
        have h2 : ∀ c, evCut 1 (.sl (ofBytes b) c) (some (.int .i64 a)) (some (.int .i64 (a + s))) none = some (.sl (ofBytes (cut8 b a (a + s))) .no) := fun c => cut_bytes (by omega)
        cases c3 : begS (cut8 b a (a + s)) with
        | true => simp +contextual -implicitDefEqProofs (disch := first | assumption | omega | (simp -implicitDefEqProofs only [go_sem]; try omega)) only [↓reduceIte, go_sem, iP, iN, w64, w8, w32, b_Z19_1, fir1, c1, c2, c3, h1, h2]
        | false => simp +contextual -implicitDefEqProofs (disch := first | assumption | omega | (simp -implicitDefEqProofs only [go_sem]; try omega)) only [↓reduceIte, go_sem, iP, iN, w64, w8, w32, b_Z19_1, fir1, c1, c2, c3, h1, h2, ih]
      · simp +contextual -implicitDefEqProofs (disch := first | assumption | omega | (simp -implicitDefEqProofs only [go_sem]; try omega)) only [↓reduceIte, go_sem, iP, iN, w64, w8, w32, b_Z19_1, fir1, c1, c2, ih]
    · simp +contextual -implicitDefEqProofs (disch := first | assumption | omega | (simp -implicitDefEqProofs only [go_sem]; try omega)) only [↓reduceIte, go_sem, iP, iN, w64, w8, w32, b_Z19_1, fir1, c1]
theorem d_firloop0 (b : List UInt8) (hb : b.length ≤ 1000000000) (a : Int) (ha : 0 ≤ a ∧ a < b.length) : ∀ (f : Nat) (s : Int), 5 - s = f → 1 ≤ s →
    l_Z19_0 (Mi cx) 0 0 [.sl (ofBytes b) .no, .int .i64 a, .int .i64 s] [] = some (.tup [.int .i64 (fir0 b a f s).1, .int .i64 (fir0 b a f s).2], [])
  | 0, s, hf, hs => by
    have c1 : ¬ s ≤ 4 := by omega
    have h3 := d_firloop1 b hb a ha 3 3 (by omega) (by omega)
    rw [u_Z19_0]
    simp +contextual -implicitDefEqProofs (disch := first | assumption | omega | (simp -implicitDefEqProofs only [go_sem]; try omega)) only [↓reduceIte, go_sem, iP, iN, w64, w8, w32, b_Z19_0, fir0, c1, h3]
  | f + 1, s, hf, hs => by
    have h3 := d_firloop1 b hb a ha 3 3 (by omega) (by omega)
    have ih := d_firloop0 b hb a ha f (s + 1) (by omega) (by omega)
    have c1 : s ≤ 4 := by omega
    rw [u_Z19_0]
    by_cases c2 : a + s ≤ b.length
    · have hl := cut8_len b a (a + s) (by omega)
      have h1 := fun σ hσ => d_whole (cut8 b a (a + s)) (by omega) σ hσ
      have h4 := fun σ hσ => d_told (cut8 b a (a + s)) (by omega) σ hσ
      have h2 : ∀ c, evCut 1 (.sl (ofBytes b) c) (some (.int .i64 a)) (some (.int .i64 (a + s))) none = some (.sl (ofBytes (cut8 b a (a + s))) .no) := fun c => cut_bytes (by omega)
      cases c3 : wholeS (cut8 b a (a + s)) with
      | true => simp +contextual -implicitDefEqProofs (disch := first | assumption | omega | (simp -implicitDefEqProofs only [go_sem]; try omega)) only [↓reduceIte, go_sem, iP, iN, w64, w8, w32, b_Z19_0, fir0, c1, c2, c3, h1, h2, h4]
      | false => simp +contextual -implicitDefEqProofs (disch := first | assumption | omega | (simp -implicitDefEqProofs only [go_sem]; try omega)) only [↓reduceIte, go_sem, iP, iN, w64, w8, w32, b_Z19_0, fir0, c1, c2, c3, h1, h2, h4, ih]
    · simp +contextual -implicitDefEqProofs (disch := first | assumption | omega | (simp -implicitDefEqProofs only [go_sem]; try omega)) only [↓reduceIte, go_sem, iP, iN, w64, w8, w32, b_Z19_0, fir0, c1, c2, h3]
theorem d_First (b : List UInt8) (hb : b.length ≤ 1000000000) (a : Int) (ha : 0 ≤ a ∧ a < b.length) (σ : Objs) (hσ : Wf σ) : E cx 52 [.sl (ofBytes b) .no, .int .i64 a] σ = some (.tup [.int .i64 (firS b a).1, .int .i64 (firS b a).2], σ) := by
  refine E_any cx_cl ?_ (by rw [rbs_cons, ofBytes_rb]; rfl) rfl σ hσ
  have h := d_firloop0 b hb a ha 4 1 (by omega) (by omega)
  rw [e_Z19]
  simp +contextual -implicitDefEqProofs (disch := first | assumption | omega | (simp -implicitDefEqProofs only [go_sem]; try omega)) only [↓reduceIte, go_sem, iP, iN, w64, w8, w32, s_Z19, h, firS]
theorem fir1_ok (b : List UInt8) (a : Int) (ha : 0 ≤ a ∧ a < b.length) : ∀ (f : Nat) (s : Int), (fir1 b a f s).1 = 65533 ∧ 1 ≤ (fir1 b a f s).2 ∧ a + (fir1 b a f s).2 ≤ b.length
  | 0, s => ⟨rfl, Int.le_refl _, show a + 1 ≤ _ by omega⟩
  | f + 1, s => by
    have ih := fir1_ok b a ha f (s - 1)
    unfold fir1
    split
    · split
      · split
        · exact ⟨rfl, show 1 ≤ s by omega, show a + s ≤ _ by omega⟩
        · exact ih
      · exact ih
    · exact ⟨rfl, Int.le_refl _, show a + 1 ≤ _ by omega⟩
theorem fir0_ok (b : List UInt8) (a : Int) (ha : 0 ≤ a ∧ a < b.length) : ∀ (f : Nat) (s : Int), 1 ≤ s → (0 ≤ (fir0 b a f s).1 ∧ (fir0 b a f s).1 ≤ 1114111) ∧ 1 ≤ (fir0 b a f s).2 ∧ a + (fir0 b a f s).2 ≤ b.length
  | 0, s, hs => by
    have h := fir1_ok b a ha 3 3
    unfold fir0
    omega
  | f + 1, s, hs => by
    have ih := fir0_ok b a ha f (s + 1) (by omega)
    have h := fir1_ok b a ha 3 3
    unfold fir0
    split
    · split
      · split
        · rename_i hc
          have := rightB_le (Bool.and_eq_true _ _ ▸ hc).1
          exact ⟨this, hs, by assumption⟩
        · exact ih
      · omega
    · omega
theorem firS_ok (b : List UInt8) (a : Int) (ha : 0 ≤ a ∧ a < b.length) : (0 ≤ (firS b a).1 ∧ (firS b a).1 ≤ 1114111) ∧ 1 ≤ (firS b a).2 ∧ a + (firS b a).2 ≤ b.length := fir0_ok b a ha 4 1 (by omega)
end Go.Proofs.YtkgkmlhljeidhaaGreatDoor
set_option linter.unusedSimpArgs false
set_option linter.unusedVariables false
set_option linter.unusedSectionVars false
namespace Go.Proofs.YtkgkmlhljeidhaaGreatDoor
open Go.Ev
set_option maxRecDepth 100000
set_option maxHeartbeats 4000000
def chaF (b : List UInt8) : Nat → Int → List Int
  | 0, a => []
  | f + 1, a => if a < b.length then (if 0 < a ∨ (firS b a).1 ≠ 65279 then (firS b a).1 :: chaF b f (a + (firS b a).2) else chaF b f (a + (firS b a).2)) else []
def chaS (b : List UInt8) : List Int := chaF b (b.length + 1) 0
theorem d_chaloop (b : List UInt8) (hb : b.length ≤ 1000000000) : ∀ (f : Nat) (a : Int) (out : List Int) (cap : Cap), (b.length : Int) - a < f → 0 ≤ a ∧ a ≤ b.length → (cap = .fx ∨ cap = .gr 1) → (out.length : Int) ≤ a →
    l_Z18_0 (Mi cx) 0 0 [.sl (ofBytes b) .no, .sl (ints out) cap, .int .i64 a] [] = some (.sl (ints (out ++ chaF b f a)) .no, [])
  | 0, a, out, cap, hf, ha, hc, ho => by omega
  | f + 1, a, out, cap, hf, ha, hc, ho => by
    have hm : rowMax = 140737488355328 := rfl
    rw [u_Z18_0]
    by_cases c1 : a < b.length
    · have h1 := fun σ hσ => d_First b hb a (by omega) σ hσ
      have h2 := firS_ok b a (by omega)
      unfold chaF
      generalize firS b a = x at h1 h2 ⊢
      by_cases c2 : 0 < a
      · have ih := d_chaloop b hb f (a + x.2) (out ++ [x.1]) (.gr 1) (by omega) (by omega) (.inr rfl) (by simp; omega)
        rw [List.append_assoc] at ih
        simp +contextual -implicitDefEqProofs (disch := first | assumption | omega | (simp -implicitDefEqProofs only [go_sem]; try omega)) only [↓reduceIte, go_sem, iP, iN, w64, w8, w32, b_Z18_0, j_Z18_0, h1, c1, c2, ih, true_or]
      · by_cases c3 : x.1 = 65279
        · have ih := d_chaloop b hb f (a + x.2) out cap (by omega) (by omega) hc (by omega)
          rw [c3] at h1
          have e : (0 < a ∨ x.1 ≠ 65279) = False := by simp [c2, c3]
          simp only [e]
          simp +contextual -implicitDefEqProofs (disch := first | assumption | omega | (simp -implicitDefEqProofs only [go_sem]; try omega)) only [↓reduceIte, go_sem, iP, iN, w64, w8, w32, b_Z18_0, j_Z18_0, h1, c1, c2, ih]
        · have ih := d_chaloop b hb f (a + x.2) (out ++ [x.1]) (.gr 1) (by omega) (by omega) (.inr rfl) (by simp; omega)
          rw [List.append_assoc] at ih
          have e : (0 < a ∨ x.1 ≠ 65279) = True := by simp [c2, c3]
          simp only [e]
          simp +contextual -implicitDefEqProofs (disch := first | assumption | omega | (simp -implicitDefEqProofs only [go_sem]; try omega)) only [↓reduceIte, go_sem, iP, iN, w64, w8, w32, b_Z18_0, j_Z18_0, h1, c1, c2, c3, ih]
    · unfold chaF
      simp +contextual -implicitDefEqProofs (disch := first | assumption | omega | (simp -implicitDefEqProofs only [go_sem]; try omega)) only [↓reduceIte, go_sem, iP, iN, w64, w8, w32, b_Z18_0, c1, List.append_nil]
theorem d_Chars (b : List UInt8) (hb : b.length ≤ 1000000000) (σ : Objs) (hσ : Wf σ) : E cx 32 [.sl (ofBytes b) .no] σ = some (.sl (ints (chaS b)) .no, σ) := by
  refine E_any cx_cl ?_ (by rw [rbs_cons, ofBytes_rb]; rfl) (ints_rb _) σ hσ
  have h := d_chaloop b hb (b.length + 1) 0 [] .fx (by omega) (by omega) (.inl rfl) (by simp)
  simp only [List.nil_append] at h
  have h' : l_Z18_0 (Mi cx) 0 0 [.sl (ofBytes b) .no, .sl [] .fx, .int .i64 0] [] = some (.sl (ints (chaS b)) .no, []) := h
  rw [e_Z18]
  simp +contextual -implicitDefEqProofs (disch := first | assumption | omega | (simp -implicitDefEqProofs only [go_sem]; try omega)) only [↓reduceIte, go_sem, iP, iN, w64, w8, w32, s_Z18, h']
theorem chaF_ok (b : List UInt8) : ∀ (f : Nat) (a : Int), 0 ≤ a → (∀ c ∈ chaF b f a, 0 ≤ c ∧ c ≤ 1114111) ∧ ((chaF b f a).length : Int) ≤ max 0 (b.length - a)
  | 0, a, ha => ⟨fun c hc => absurd hc (List.not_mem_nil), by unfold chaF; simp; omega⟩
  | f + 1, a, ha => by
    unfold chaF
    split
    · rename_i c1
      have h1 := firS_ok b a (by omega)
      have ih := chaF_ok b f (a + (firS b a).2) (by omega)
      split
      · refine ⟨fun c hc => ?_, by rw [List.length_cons]; omega⟩
        rcases List.mem_cons.1 hc with hc | hc
        · rw [hc]; exact h1.1
        · exact ih.1 c hc
      · exact ⟨ih.1, by omega⟩
    · exact ⟨fun c hc => absurd hc (List.not_mem_nil), by simp; omega⟩
theorem chaS_ok (b : List UInt8) : (∀ c ∈ chaS b, 0 ≤ c ∧ c ≤ 1114111) ∧ (chaS b).length ≤ b.length := by
  have h := chaF_ok b (b.length + 1) 0 (by omega)
  unfold chaS
  exact ⟨h.1, by omega⟩
def fixC (c : Int) : Int := if c = 0 ∨ rightB c = false then 65533 else c
def nlC (c : Int) : Int := if c = 13 ∨ c = 12 then 10 else c
def preF (l : List Int) : Nat → Int → List Int
  | 0, i => []
  | f + 1, i => if i < l.length then (if l.getD i.toNat 0 = 13 ∧ isB l (i + 1) 10 = true then preF l f (i + 1) else fixC (nlC (l.getD i.toNat 0)) :: preF l f (i + 1)) else []
def preS (l : List Int) : List Int := preF l (l.length + 1) 0
theorem fixC_le {c : Int} (h : 0 ≤ c ∧ c ≤ 1114111) : 0 ≤ fixC c ∧ fixC c ≤ 1114111 := by unfold fixC; split <;> omega
section
variable {l : List Int} (hl : Chs l)
include hl
theorem d_pre1 (i c : Int) (r1 : Rk) (out : List Int) (cap : Cap) (hc : cap = .fx ∨ cap = .gr 1) (hi : 0 ≤ i ∧ i < l.length) (ho : (out.length : Int) ≤ i) :
    j_Z1a_1 (Mi cx) 0 0 r1 (.sl (ints l) .no) (.sl (ints out) cap) (.int .i64 i) (.int .i64 c) [] = r1 [.sl (ints l) .no, .sl (ints (out ++ [fixC c])) (.gr 1), .int .i64 (i + 1)] [] := by
  have hl2 := hl.2
  have hm : rowMax = 140737488355328 := rfl
  have h1 := fun σ hσ => d_Right c σ hσ
  by_cases c1 : c = 0
  · have e : fixC c = 65533 := if_pos (.inl c1)
    rw [e]
    simp +contextual -implicitDefEqProofs (disch := first | assumption | omega | (simp -implicitDefEqProofs only [go_sem]; try omega)) only [↓reduceIte, go_sem, iP, iN, w64, w8, w32, j_Z1a_1, j_Z1a_2, j_Z1a_0, h1, c1]
  · cases c2 : rightB c with
    | true =>
      have e : fixC c = c := by unfold fixC; simp [c1, c2]
      rw [e]
      simp +contextual -implicitDefEqProofs (disch := first | assumption | omega | (simp -implicitDefEqProofs only [go_sem]; try omega)) only [↓reduceIte, go_sem, iP, iN, w64, w8, w32, j_Z1a_1, j_Z1a_2, j_Z1a_0, h1, c1, c2]
    | false =>
      have e : fixC c = 65533 := if_pos (.inr c2)
      rw [e]
      simp +contextual -implicitDefEqProofs (disch := first | assumption | omega | (simp -implicitDefEqProofs only [go_sem]; try omega)) only [↓reduceIte, go_sem, iP, iN, w64, w8, w32, j_Z1a_1, j_Z1a_2, j_Z1a_0, h1, c1, c2]
theorem d_pre0 : ∀ (f : Nat) (i : Int) (out : List Int) (cap : Cap), (l.length : Int) - i < f → 0 ≤ i ∧ i ≤ l.length → (cap = .fx ∨ cap = .gr 1) → (out.length : Int) ≤ i →
    l_Z1a_0 (Mi cx) 0 0 [.sl (ints l) .no, .sl (ints out) cap, .int .i64 i] [] = some (.sl (ints (out ++ preF l f i)) .no, [])
  | 0, i, out, cap, hf, ha, hc, ho => by omega
  | f + 1, i, out, cap, hf, ha, hc, ho => by
    have hl2 := hl.2
    rw [u_Z1a_0]
    unfold preF
    by_cases c1 : i < l.length
    · generalize hgc : l.getD i.toNat 0 = c
      have ih := d_pre0 f (i + 1) (out ++ [fixC (nlC c)]) (.gr 1) (by omega) (by omega) (.inr rfl) (by simp; omega)
      rw [List.append_assoc] at ih
      have ih2 := d_pre0 f (i + 1) out cap (by omega) (by omega) hc (by omega)
      have h1 := d_pre1 hl i (nlC c) (l_Z1a_0 (Mi cx) 0 0) out cap hc (by omega) ho
      by_cases c2 : c = 13
      · subst c2
        have e : nlC 13 = 10 := rfl
        rw [e] at h1 ih ⊢
        by_cases c3 : i + 1 < l.length
        · by_cases c4 : l.getD (i + 1).toNat 0 = 10
          · have e2 : isB l (i + 1) 10 = true := by unfold isB; rw [decide_eq_true c3, c4]; rfl
            simp +contextual -implicitDefEqProofs (disch := first | assumption | omega | (simp -implicitDefEqProofs only [go_sem]; try omega)) only [↓reduceIte, go_sem, iP, iN, w64, w8, w32, b_Z1a_0, j_Z1a_0, hgc, h1, c1, c3, c4, e2, ih2]
          · have e2 : isB l (i + 1) 10 = false := by unfold isB; rw [decide_eq_false c4, Bool.and_false]
            simp +contextual -implicitDefEqProofs (disch := first | assumption | omega | (simp -implicitDefEqProofs only [go_sem]; try omega)) only [↓reduceIte, go_sem, iP, iN, w64, w8, w32, b_Z1a_0, hgc, h1, c1, c3, c4, e2, ih]
        · have e2 : isB l (i + 1) 10 = false := by unfold isB; rw [decide_eq_false c3, Bool.false_and]
          simp +contextual -implicitDefEqProofs (disch := first | assumption | omega | (simp -implicitDefEqProofs only [go_sem]; try omega)) only [↓reduceIte, go_sem, iP, iN, w64, w8, w32, b_Z1a_0, hgc, h1, c1, c3, e2, ih]
      · by_cases c3 : c = 12
        · subst c3
          have e : nlC 12 = 10 := rfl
          rw [e] at h1 ih ⊢
          simp +contextual -implicitDefEqProofs (disch := first | assumption | omega | (simp -implicitDefEqProofs only [go_sem]; try omega)) only [↓reduceIte, go_sem, iP, iN, w64, w8, w32, b_Z1a_0, hgc, h1, c1, ih]
        · have e : nlC c = c := if_neg (by omega)
          rw [e] at h1 ih ⊢
          simp +contextual -implicitDefEqProofs (disch := first | assumption | omega | (simp -implicitDefEqProofs only [go_sem]; try omega)) only [↓reduceIte, go_sem, iP, iN, w64, w8, w32, b_Z1a_0, hgc, h1, c1, c2, c3, ih]
    · simp +contextual -implicitDefEqProofs (disch := first | assumption | omega | (simp -implicitDefEqProofs only [go_sem]; try omega)) only [↓reduceIte, go_sem, iP, iN, w64, w8, w32, b_Z1a_0, c1, List.append_nil]
theorem d_Prepare (σ : Objs) (hσ : Wf σ) : E cx 31 [.sl (ints l) .no] σ = some (.sl (ints (preS l)) .no, σ) := by
  refine E_any cx_cl ?_ (by rw [rbs_cons, ints_rb]; rfl) (ints_rb _) σ hσ
  have h := d_pre0 hl (l.length + 1) 0 [] .fx (by omega) (by omega) (.inl rfl) (by simp)
  simp only [List.nil_append] at h
  have h' : l_Z1a_0 (Mi cx) 0 0 [.sl (ints l) .no, .sl [] .fx, .int .i64 0] [] = some (.sl (ints (preS l)) .no, []) := h
  rw [e_Z1a]
  simp +contextual -implicitDefEqProofs (disch := first | assumption | omega | (simp -implicitDefEqProofs only [go_sem]; try omega)) only [↓reduceIte, go_sem, iP, iN, w64, w8, w32, s_Z1a, h']
theorem preF_ok : ∀ (f : Nat) (i : Int), 0 ≤ i → (∀ c ∈ preF l f i, 0 ≤ c ∧ c ≤ 1114111) ∧ ((preF l f i).length : Int) ≤ max 0 (l.length - i)
  | 0, i, hi => ⟨fun c hc => absurd hc (List.not_mem_nil), by unfold preF; simp; omega⟩
  | f + 1, i, hi => by
    have hg := hl.get i.toNat
    have ih := preF_ok f (i + 1) (by omega)
    unfold preF
    split
    · rename_i c1
      split
      · exact ⟨ih.1, by omega⟩
      · refine ⟨fun c hc => ?_, by rw [List.length_cons]; omega⟩
        rcases List.mem_cons.1 hc with hc | hc
        · rw [hc]; exact fixC_le (by unfold nlC; split <;> omega)
        · exact ih.1 c hc
    · exact ⟨fun c hc => absurd hc (List.not_mem_nil), by simp; omega⟩
end
def readS (b : List UInt8) : List Tok := allS (preS (chaS b))
theorem chaS_chs (b : List UInt8) (hb : b.length ≤ 1000000000) : Chs (chaS b) := ⟨(chaS_ok b).1, by have := (chaS_ok b).2; omega⟩
theorem preS_chs (b : List UInt8) (hb : b.length ≤ 1000000000) : Chs (preS (chaS b)) := by
  have h := preF_ok (chaS_chs b hb) ((chaS b).length + 1) 0 (by omega)
  have h2 := (chaS_ok b).2
  exact ⟨h.1, by unfold preS; omega⟩
theorem preS_len (b : List UInt8) (hb : b.length ≤ 1000000000) : (preS (chaS b)).length ≤ b.length := by
  have h := preF_ok (chaS_chs b hb) ((chaS b).length + 1) 0 (by omega)
  have h2 := (chaS_ok b).2
  unfold preS; omega
theorem d_Read (b : List UInt8) (hb : b.length ≤ 1000000000) (σ : Objs) (hσ : Wf σ) : E cx 14 [.sl (ofBytes b) .no] σ = some (.sl (toks (readS b)) .no, σ) := by
  have h1 := fun σ hσ => d_Chars b hb σ hσ
  have h2 := fun σ hσ => d_Prepare (chaS_chs b hb) σ hσ
  have h3 := fun σ hσ => d_All (preS_chs b hb) σ hσ
  rw [e_Z1u]
  simp +contextual -implicitDefEqProofs (disch := first | assumption | omega | (simp -implicitDefEqProofs only [go_sem]; try omega)) only [↓reduceIte, go_sem, iP, iN, w64, w8, w32, s_Z1u, h1, h2, h3, readS]
theorem readS_is (b : List UInt8) (hb : b.length ≤ 1000000000) : (∀ t ∈ readS b, TokIs (4 * b.length) t) ∧ (readS b).length ≤ b.length + 1 := by
  have h1 := preS_len b hb
  refine ⟨fun t ht => ?_, ?_⟩
  · have h := all_is (preS (chaS b)) _ 0 (by omega) t ht
    exact ⟨by have := h.ls; omega, by have := h.ln; omega, h.num⟩
  · have := all_len (preS (chaS b)) ((preS (chaS b)).length + 1) 0
    unfold readS allS; omega
end Go.Proofs.YtkgkmlhljeidhaaGreatDoor
set_option linter.unusedSimpArgs false
set_option linter.unusedVariables false
set_option linter.unusedSectionVars false
namespace Go.Proofs.YtkgkmlhljeidhaaGreatDoor
open Go.Ev
set_option maxRecDepth 100000
set_option maxHeartbeats 4000000
def tkZ : Tok := ⟨0, 0, 0, [], [], false⟩
def tk (L : List Tok) (i : Int) : Tok := L.getD i.toNat tkZ
theorem tk_out {L : List Tok} {i : Int} (h : (L.length : Int) ≤ i) : tk L i = tkZ := by
  unfold tk
  rw [List.getD_eq_getElem?_getD, List.getElem?_eq_none (by omega)]
  rfl
theorem tk_k {L : List Tok} {i : Int} (h : (tk L i).k ≠ 0) : i < L.length := by
  by_cases h1 : i < L.length
  · exact h1
  · exact absurd (by rw [tk_out (by omega)]; rfl) h
theorem len_toks {l : List Tok} : (toks l).length = l.length := by
  unfold toks
  rw [List.length_map]
theorem iaddr_toks {l : List Tok} {c : Cap} {k : IntKind} {i : Int} (h : 0 ≤ i ∧ i < l.length) : eI 6 (.int k i) (.sl (toks l) c) = some (.eptr [.int .i64 (tk l i).k, .int .i64 (tk l i).f, .int .i64 (tk l i).t, .str (tk l i).s, .str (tk l i).n, .bool (tk l i).w] 0) := iaddr_map (f := Tok.v) (fun _ => rfl) tkZ h
attribute [go_sem] len_toks iaddr_toks
def skF (L : List Tok) : Nat → Int → Int
  | 0, i => i
  | f + 1, i => if (tk L i).k = 13 then skF L f (i + 1) else i
def skS (L : List Tok) (i : Int) : Int := skF L (L.length + 1) i
theorem skF_le (L : List Tok) : ∀ (f : Nat) (i : Int), i ≤ skF L f i ∧ skF L f i ≤ max i L.length
  | 0, i => by unfold skF; omega
  | f + 1, i => by
    have ih := skF_le L f (i + 1)
    unfold skF
    split
    · rename_i h
      have := tk_k (L := L) (i := i) (by omega)
      omega
    · omega
theorem skS_le (L : List Tok) (i : Int) : i ≤ skS L i ∧ skS L i ≤ max i L.length := skF_le L _ i
def sgT (n : List UInt8) : Bool := decide (((n.getD 0 0).toNat : Int) = 43) || decide (((n.getD 0 0).toNat : Int) = 45)
def numT (L : List Tok) (i : Int) (s : Bool) : Bool := decide ((tk L i).k = 10) && (tk L i).w && decide ((tk L i).n ≠ []) && (sgT (tk L i).n == s)
def Toks (L : List Tok) : Prop := L.length ≤ 1000000000 ∧ ∀ t ∈ L, t.s.length ≤ 10000000000 ∧ t.n.length ≤ 10000000000
theorem Toks.get {L : List Tok} (h : Toks L) (i : Int) : (tk L i).s.length ≤ 10000000000 ∧ (tk L i).n.length ≤ 10000000000 := by
  unfold tk
  rw [List.getD_eq_getElem?_getD]
  cases hg : L[i.toNat]? with
  | none => exact ⟨Nat.zero_le _, Nat.zero_le _⟩
  | some t => exact h.2 t (List.mem_of_getElem? hg)
section
variable {L : List Tok} (hL : Toks L)
include hL
end
end Go.Proofs.YtkgkmlhljeidhaaGreatDoor
set_option linter.unusedSimpArgs false
set_option linter.unusedVariables false
set_option linter.unusedSectionVars false
namespace Go.Proofs.YtkgkmlhljeidhaaGreatDoor
open Go.Ev
set_option maxRecDepth 100000
set_option maxHeartbeats 8000000
theorem lowS_len (s : List UInt8) : (lowS s).length = s.length := by unfold lowS; rw [List.length_map]
section
variable {L : List Tok} (hL : Toks L)
include hL
end
end Go.Proofs.YtkgkmlhljeidhaaGreatDoor
set_option linter.unusedSimpArgs false
set_option linter.unusedVariables false
set_option linter.unusedSectionVars false
namespace Go.Proofs.YtkgkmlhljeidhaaGreatDoor
open Go.Ev
set_option maxRecDepth 100000
set_option maxHeartbeats 8000000
theorem numT_lt {L : List Tok} {i : Int} {s : Bool} (h : numT L i s = true) : i < L.length := by
  unfold numT at h
  simp only [Bool.and_eq_true, decide_eq_true_eq] at h
  exact tk_k (by omega)
section
variable {L : List Tok} (hL : Toks L)
include hL
end
end Go.Proofs.YtkgkmlhljeidhaaGreatDoor
set_option linter.unusedSimpArgs false
set_option linter.unusedVariables false
set_option linter.unusedSectionVars false
namespace Go.Proofs.YtkgkmlhljeidhaaGreatDoor
open Go.Ev
set_option maxRecDepth 100000
set_option maxHeartbeats 8000000
section
variable {L : List Tok} (hL : Toks L)
include hL
end
end Go.Proofs.YtkgkmlhljeidhaaGreatDoor
set_option linter.unusedSimpArgs false
set_option linter.unusedVariables false
set_option linter.unusedSectionVars false
namespace Go.Ev
theorem iaddr_hs {k : IntKind} {i : Int} {o len : Nat} {ag : Bool} (h : 0 ≤ i ∧ i < len) : eI 1 (.int k i) (.hs o 0 len 1 ag) = some (.ptr o i.toNat) := by
  simp only [eI, index, if_pos h, Option.bind_eq_bind, Option.bind_some, if_true, Nat.mul_one, Nat.zero_add]
theorem part_bytes {s : List UInt8} {i : Nat} (h : i < s.length) : part false 1 (ofBytes s) i = some (.int .u8 (s.getD i 0).toNat) := by
  simp only [part, Bool.false_eq_true, if_false, if_true, ofBytes, List.getElem?_map, List.getElem?_eq_getElem h, Option.map_some, List.getD_eq_getElem?_getD, Option.getD_some]
  rfl
theorem chunks_bytes : ∀ (r p : List UInt8), chunks false 1 (ofBytes (p ++ r)) r.length p.length = some (ofBytes r)
  | [], p => rfl
  | b :: r, p => by
    have h := chunks_bytes r (p ++ [b])
    rw [List.append_assoc] at h
    simp only [List.length_append, List.length_cons, List.length_nil, List.cons_append, List.nil_append, Nat.zero_add] at h
    have h2 : part false 1 (ofBytes (p ++ b :: r)) p.length = some (.int .u8 b.toNat) := by
      rw [part_bytes (by simp)]
      simp
    rw [List.length_cons]
    simp only [chunks, h2, h, Option.bind_eq_bind, Option.bind_some, Option.pure_def]
    rfl
theorem bytesStr_hs {s : List UInt8} {τ : Objs} : eC (.cells (ofBytes s) :: τ) .bytesStr (.hs 0 0 s.length 1 false) = (bytesOf (ofBytes s)).map V.str := by
  have h := chunks_bytes s []
  simp only [List.nil_append, List.length_nil] at h
  show (rowOf (.cells (ofBytes s) :: τ) (.hs 0 0 s.length 1 false)).bind (fun xs => (bytesOf xs).map V.str) = _
  have h2 : rowOf (.cells (ofBytes s) :: τ) (.hs 0 0 s.length 1 false) = some (ofBytes s) := h
  rw [h2]
  rfl
theorem set_bytes {p r : List UInt8} {b c : UInt8} : (ofBytes (p ++ b :: r)).set p.length (.int .u8 c.toNat) = ofBytes (p ++ c :: r) := by
  unfold ofBytes
  rw [List.map_append, List.map_append, List.map_cons, List.map_cons, List.set_append_right _ _ (by simp)]
  simp
theorem bytesHV_nil {s : List UInt8} : bytesHV [] (.str s) = some (.hs 0 0 s.length 1 false, [.cells (ofBytes s)]) := rfl
theorem bytes_len {s : List UInt8} : (ofBytes s).length = s.length := by unfold ofBytes; rw [List.length_map]
attribute [go_sem] iaddr_hs part_bytes bytesHV_nil bytes_len
end Go.Ev
namespace Go.Proofs.YtkgkmlhljeidhaaGreatDoor
open Go.Ev
set_option maxRecDepth 100000
set_option maxHeartbeats 4000000
theorem d_cSmall (c : Int) (hc : -1000000000 ≤ c ∧ c ≤ 1000000000) (σ : Objs) (hσ : Wf σ) : E cx 70 [.int .i64 c] σ = some (.int .i64 (smallZ c), σ) := by
  rw [e_Zk]
  unfold smallZ
  by_cases h1 : 65 ≤ c
  · by_cases h2 : c ≤ 90
    · have e : c + 97 - 65 = c + 32 := by omega
      simp +contextual -implicitDefEqProofs (disch := first | assumption | omega | (simp -implicitDefEqProofs only [go_sem]; try omega)) only [↓reduceIte, go_sem, iP, iN, w64, w8, w32, s_Zk, h1, h2, e, true_and]
    · simp +contextual -implicitDefEqProofs (disch := first | assumption | omega | (simp -implicitDefEqProofs only [go_sem]; try omega)) only [↓reduceIte, go_sem, iP, iN, w64, w8, w32, s_Zk, h1, h2, and_false]
  · simp +contextual -implicitDefEqProofs (disch := first | assumption | omega | (simp -implicitDefEqProofs only [go_sem]; try omega)) only [↓reduceIte, go_sem, iP, iN, w64, w8, w32, s_Zk, h1, false_and]
theorem lowB_nat (b : UInt8) : ((lowB b).toNat : Int) = smallZ b.toNat := by
  have hb := UInt8.toNat_lt b
  exact putB_nat (smallZ_le (by omega))
theorem d_clow0 (n : Nat) (hn : n ≤ 100000000000) : ∀ (r p : List UInt8), n = p.length + r.length →
    l_Zi_0 (Mi cx) 0 1 [.hs 0 0 n 1 false, .hs 0 0 n 1 false, .int .i64 n, .int .i64 p.length] [.cells (ofBytes (p ++ r))] = some (.str (p ++ lowS r), [])
  | [], p, hp => by
    have hlen : n = (p ++ ([] : List UInt8)).length := by rw [hp]; simp
    have hc : ¬ p.length < n := by rw [hp]; simp
    have h1 : eC [.cells (ofBytes (p ++ ([] : List UInt8)))] .bytesStr (.hs 0 0 n 1 false) = some (.str (p ++ [])) := by
      rw [hlen, bytesStr_hs, bytesOf_of]; rfl
    have e : lowS [] = [] := rfl
    rw [u_Zi_0, e]
    simp only [List.append_nil] at h1 ⊢
    simp +contextual -implicitDefEqProofs (disch := first | assumption | omega | (simp -implicitDefEqProofs only [go_sem]; try omega)) only [↓reduceIte, go_sem, iP, iN, w64, w8, w32, b_Zi_0, hc, h1]
  | b :: r, p, hp => by
    have hlen : n = p.length + r.length + 1 := by rw [hp]; simp; omega
    have hb := UInt8.toNat_lt b
    have hz := smallZ_le (c := (b.toNat : Int)) (by omega)
    have h1 := fun σ hσ => d_cSmall (b.toNat : Int) (by omega) σ hσ
    have h2 : (ofBytes (p ++ b :: r)).set p.length (.int .u8 (smallZ b.toNat)) = ofBytes (p ++ lowB b :: r) := by
      rw [← lowB_nat, set_bytes]
    have ih := d_clow0 n hn r (p ++ [lowB b]) (by simp; omega)
    simp only [List.append_assoc, List.cons_append, List.nil_append, List.length_append, List.length_cons, List.length_nil, Nat.zero_add] at ih
    have e : lowS (b :: r) = lowB b :: lowS r := rfl
    have e2 : (p.length + 1 : Nat) = ((p.length : Nat) : Int) + 1 := by omega
    rw [e2] at ih
    have h3 : (p ++ b :: r).getD p.length 0 = b := by simp
    have hl : p.length < (p ++ b :: r).length := by simp
    have e3 : ((p.length : Nat) : Int).toNat = p.length := by omega
    rw [u_Zi_0, e]
    simp +contextual -implicitDefEqProofs (disch := first | assumption | omega | (simp -implicitDefEqProofs only [go_sem]; try omega)) only [↓reduceIte, go_sem, iP, iN, w64, w8, w32, b_Zi_0, h1, h2, h3, ih, e3]
theorem d_cLower (s : List UInt8) (hs : s.length ≤ 100000000000) (σ : Objs) (hσ : Wf σ) : E cx 44 [.str s] σ = some (.str (lowS s), σ) := by
  refine E_any cx_cl ?_ rfl rfl σ hσ
  have h := d_clow0 s.length hs s [] (by simp)
  simp only [List.nil_append, List.length_nil] at h
  have h' : l_Zi_0 (Mi cx) 0 1 [.hs 0 0 s.length 1 false, .hs 0 0 s.length 1 false, .int .i64 s.length, .int .i64 0] [.cells (ofBytes s)] = some (.str (lowS s), []) := h
  rw [e_Zi]
  simp +contextual -implicitDefEqProofs (disch := first | assumption | omega | (simp -implicitDefEqProofs only [go_sem]; try omega)) only [↓reduceIte, go_sem, iP, iN, w64, w8, w32, s_Zi, h']
theorem d_Same (s t : List UInt8) (hs : s.length ≤ 100000000000) (ht : t.length ≤ 100000000000) (σ : Objs) (hσ : Wf σ) : E cx 42 [.str s, .str t] σ = some (.bool (decide (lowS s = lowS t)), σ) := by
  have h1 := fun σ hσ => d_cLower s hs σ hσ
  have h2 := fun σ hσ => d_cLower t ht σ hσ
  rw [e_Zj]
  simp +contextual -implicitDefEqProofs (disch := first | assumption | omega | (simp -implicitDefEqProofs only [go_sem]; try omega)) only [↓reduceIte, go_sem, iP, iN, w64, w8, w32, s_Zj, h1, h2]
def preB (s p : List UInt8) : Bool := decide (s.take p.length = p)
theorem d_HasP (s p : List UInt8) (hs : s.length ≤ 100000000000) (hp : p.length ≤ 100000000000) (σ : Objs) (hσ : Wf σ) : E cx 72 [.str s, .str p] σ = some (.bool (preB s p), σ) := by
  rw [e_Zt]
  unfold preB
  by_cases h : p.length ≤ s.length
  · have h1 : evCutS (.str s) none (some (.int .i64 p.length)) = some (.str (s.take p.length)) := cutS_hi (by omega)
    simp +contextual -implicitDefEqProofs (disch := first | assumption | omega | (simp -implicitDefEqProofs only [go_sem]; try omega)) only [↓reduceIte, go_sem, iP, iN, w64, w8, w32, s_Zt, h, h1]
  · have h2 : ¬ s.take p.length = p := fun e => h (by rw [← e, List.length_take]; omega)
    simp +contextual -implicitDefEqProofs (disch := first | assumption | omega | (simp -implicitDefEqProofs only [go_sem]; try omega)) only [↓reduceIte, go_sem, iP, iN, w64, w8, w32, s_Zt, h, h2]
theorem d_HasPrefix (s p : List UInt8) (hs : s.length ≤ 100000000000) (hp : p.length ≤ 100000000000) (σ : Objs) (hσ : Wf σ) : E cx 46 [.str s, .str p] σ = some (.bool (preB s p), σ) := by
  have h1 := fun σ hσ => d_HasP s p hs hp σ hσ
  rw [e_Zy]
  simp +contextual -implicitDefEqProofs (disch := first | assumption | omega | (simp -implicitDefEqProofs only [go_sem]; try omega)) only [↓reduceIte, go_sem, iP, iN, w64, w8, w32, s_Zy, h1]
theorem d_CutP (s p : List UInt8) (hs : s.length ≤ 100000000000) (hp : p.length ≤ 100000000000) (σ : Objs) (hσ : Wf σ) : E cx 71 [.str s, .str p] σ = some (.tup [.str (if preB s p then s.drop p.length else s), .bool (preB s p)], σ) := by
  have h1 := fun σ hσ => d_HasP s p hs hp σ hσ
  rw [e_Zs]
  cases hb : preB s p with
  | true =>
    rw [hb] at h1
    have h2 : p.length ≤ s.length := by
      have := of_decide_eq_true hb
      have h3 : (s.take p.length).length = p.length := by rw [this]
      rw [List.length_take] at h3; omega
    have h4 : evCutS (.str s) (some (.int .i64 p.length)) none = some (.str (s.drop p.length)) := cutS_lo (by omega)
    simp +contextual -implicitDefEqProofs (disch := first | assumption | omega | (simp -implicitDefEqProofs only [go_sem]; try omega)) only [↓reduceIte, go_sem, iP, iN, w64, w8, w32, s_Zs, h1, h4]
  | false => simp +contextual -implicitDefEqProofs (disch := first | assumption | omega | (simp -implicitDefEqProofs only [go_sem]; try omega)) only [↓reduceIte, go_sem, iP, iN, w64, w8, w32, s_Zs, h1, hb, Bool.false_eq_true]
theorem d_CutPrefix (s p : List UInt8) (hs : s.length ≤ 100000000000) (hp : p.length ≤ 100000000000) (σ : Objs) (hσ : Wf σ) : E cx 45 [.str s, .str p] σ = some (.tup [.str (if preB s p then s.drop p.length else s), .bool (preB s p)], σ) := by
  have h1 := fun σ hσ => d_CutP s p hs hp σ hσ
  rw [e_Zx]
  simp +contextual -implicitDefEqProofs (disch := first | assumption | omega | (simp -implicitDefEqProofs only [go_sem]; try omega)) only [↓reduceIte, go_sem, iP, iN, w64, w8, w32, s_Zx, h1]
theorem E_on {f : FuncId} {args : List V} {cs cs' : List V} {r : V} (h : E cx f (.ptr 0 0 :: args) [.cells cs] = some (r, [.cells cs'])) (ha : V.rbs 0 args = true) (hc : V.rbs 0 cs = true) (hc' : V.rbs 0 cs' = true) (hr : V.rb 0 r = true)
    (τ : Objs) (hτ : FrW 1 τ) : E cx f (.ptr 0 0 :: args) (.cells cs :: τ) = some (r, .cells cs' :: τ) := by
  have h1 := E_frame cx_cl (b := 1) hτ (Nat.le_refl _) h
  rw [List.map_cons, ← shs_map, shs_closed ha, sh_closed hr] at h1
  have e : ∀ ds : List V, V.rbs 0 ds = true → ins 1 τ [.cells ds] = .cells ds :: τ := by
    intro ds hd
    show (List.take 1 [O.sh 1 τ.length (.cells ds)] ++ τ) ++ List.drop 1 [O.sh 1 τ.length (.cells ds)] = _
    have : O.sh 1 τ.length (.cells ds) = .cells ds := by show O.cells (ds.map (V.sh 1 τ.length)) = _; rw [← shs_map, shs_closed hd]
    rw [this]
    simp
  rw [e _ hc, e _ hc'] at h1
  exact h1
end Go.Proofs.YtkgkmlhljeidhaaGreatDoor
set_option linter.unusedSimpArgs false
set_option linter.unusedVariables false
set_option linter.unusedSectionVars false
namespace Go.Proofs.YtkgkmlhljeidhaaGreatDoor
open Go.Ev
set_option maxRecDepth 100000
set_option maxHeartbeats 4000000
def smT : List UInt8 := [48, 48, 48, 49, 48, 50, 48, 51, 48, 52, 48, 53, 48, 54, 48, 55, 48, 56, 48, 57, 49, 48, 49, 49, 49, 50, 49, 51, 49, 52, 49, 53, 49, 54, 49, 55, 49, 56, 49, 57, 50, 48, 50, 49, 50, 50, 50, 51, 50, 52, 50, 53, 50, 54, 50, 55, 50, 56, 50, 57, 51, 48, 51, 49, 51, 50, 51, 51, 51, 52, 51, 53, 51, 54, 51, 55, 51, 56, 51, 57, 52, 48, 52, 49, 52, 50, 52, 51, 52, 52, 52, 53, 52, 54, 52, 55, 52, 56, 52, 57, 53, 48, 53, 49, 53, 50, 53, 51, 53, 52, 53, 53, 53, 54, 53, 55, 53, 56, 53, 57, 54, 48, 54, 49, 54, 50, 54, 51, 54, 52, 54, 53, 54, 54, 54, 55, 54, 56, 54, 57, 55, 48, 55, 49, 55, 50, 55, 51, 55, 52, 55, 53, 55, 54, 55, 55, 55, 56, 55, 57, 56, 48, 56, 49, 56, 50, 56, 51, 56, 52, 56, 53, 56, 54, 56, 55, 56, 56, 56, 57, 57, 48, 57, 49, 57, 50, 57, 51, 57, 52, 57, 53, 57, 54, 57, 55, 57, 56, 57, 57]
def len8T : List UInt8 := [0, 1, 2, 2, 3, 3, 3, 3, 4, 4, 4, 4, 4, 4, 4, 4, 5, 5, 5, 5, 5, 5, 5, 5, 5, 5, 5, 5, 5, 5, 5, 5, 6, 6, 6, 6, 6, 6, 6, 6, 6, 6, 6, 6, 6, 6, 6, 6, 6, 6, 6, 6, 6, 6, 6, 6, 6, 6, 6, 6, 6, 6, 6, 6, 7, 7, 7, 7, 7, 7, 7, 7, 7, 7, 7, 7, 7, 7, 7, 7, 7, 7, 7, 7, 7, 7, 7, 7, 7, 7, 7, 7, 7, 7, 7, 7, 7, 7, 7, 7, 7, 7, 7, 7, 7, 7, 7, 7, 7, 7, 7, 7, 7, 7, 7, 7, 7, 7, 7, 7, 7, 7, 7, 7, 7, 7, 7, 7, 8, 8, 8, 8, 8, 8, 8, 8, 8, 8, 8, 8, 8, 8, 8, 8, 8, 8, 8, 8, 8, 8, 8, 8, 8, 8, 8, 8, 8, 8, 8, 8, 8, 8, 8, 8, 8, 8, 8, 8, 8, 8, 8, 8, 8, 8, 8, 8, 8, 8, 8, 8, 8, 8, 8, 8, 8, 8, 8, 8, 8, 8, 8, 8, 8, 8, 8, 8, 8, 8, 8, 8, 8, 8, 8, 8, 8, 8, 8, 8, 8, 8, 8, 8, 8, 8, 8, 8, 8, 8, 8, 8, 8, 8, 8, 8, 8, 8, 8, 8, 8, 8, 8, 8, 8, 8, 8, 8, 8, 8, 8, 8, 8, 8, 8, 8, 8, 8, 8, 8, 8, 8, 8, 8, 8, 8, 8, 8]
theorem len8_eq : len8T = (List.range 256).map fun x => UInt8.ofNat (blS x) := by kernel_rfl
theorem sm_eq : smT = (List.range 200).map fun x => UInt8.ofNat (48 + if x % 2 = 0 then x / 2 / 10 else x / 2 % 10) := by kernel_rfl
theorem getD_range {f : Nat → UInt8} {n x : Nat} (h : x < n) : ((List.range n).map f).getD x 0 = f x := by
  rw [List.getD_eq_getElem?_getD, List.getElem?_map, List.getElem?_range h]; rfl
theorem len8_idx (x : Nat) (h : x < 256) : evIdx (.int .u8 x) (.str len8T) = some (.int .u8 (blS x)) := by
  have hl : len8T.length = 256 := by kernel_rfl
  have hb : blS x ≤ 8 := bl_le h
  rw [idx_str (by omega), len8_eq]
  show some (V.int .u8 ((((List.range 256).map fun x => UInt8.ofNat (blS x)).getD ((x : Int).toNat) 0).toNat : Int)) = _
  rw [Int.toNat_natCast, getD_range h]
  congr 2
  rw [UInt8.toNat_ofNat']
  omega
theorem sm0 (y : Int) (h : 0 ≤ y ∧ y < 100) : evIdx (.int .u32 (y * 2)) (.str smT) = some (.int .u8 (48 + y / 10)) := by
  have hl : smT.length = 200 := by kernel_rfl
  rw [idx_str (by omega), sm_eq]
  rw [getD_range (by omega), UInt8.toNat_ofNat']
  congr 2
  have : (y * 2).toNat % 2 = 0 := by omega
  rw [if_pos this]
  omega
theorem sm1 (y : Int) (h : 0 ≤ y ∧ y < 100) : evIdx (.int .u32 (y * 2 + 1)) (.str smT) = some (.int .u8 (48 + y % 10)) := by
  have hl : smT.length = 200 := by kernel_rfl
  rw [idx_str (by omega), sm_eq]
  rw [getD_range (by omega), UInt8.toNat_ofNat']
  congr 2
  have : ¬ (y * 2 + 1).toNat % 2 = 0 := by omega
  rw [if_neg this]
  omega
theorem shr_n (n k : Nat) (hk : k ≤ 63) : eB .shr .no (.int .u64 (n : Int)) (.int .u64 (k : Int)) = some (.int .u64 ((n / 2 ^ k : Nat) : Int)) := by
  show (if (k : Int) < 0 then none else some (V.int .u64 ((n : Int).fdiv (2 ^ (min (k : Int).toNat IntKind.u64.bits))))) = _
  rw [if_neg (by omega)]
  have e : min (k : Int).toNat IntKind.u64.bits = k := by
    have : IntKind.u64.bits = 64 := rfl
    omega
  rw [e, Int.fdiv_eq_ediv_of_nonneg _ (Int.pow_nonneg (by omega)), Int.natCast_ediv, Int.natCast_pow]
  rfl
theorem shr_i (n k : Nat) (hk : k ≤ 63) : eB .shr .no (.int .i64 (n : Int)) (.int .u64 (k : Int)) = some (.int .i64 ((n / 2 ^ k : Nat) : Int)) := by
  show (if (k : Int) < 0 then none else some (V.int .i64 ((n : Int).fdiv (2 ^ (min (k : Int).toNat IntKind.i64.bits))))) = _
  rw [if_neg (by omega)]
  have e : min (k : Int).toNat IntKind.i64.bits = k := by
    have : IntKind.i64.bits = 64 := rfl
    omega
  rw [e, Int.fdiv_eq_ediv_of_nonneg _ (Int.pow_nonneg (by omega)), Int.natCast_ediv, Int.natCast_pow]
  rfl
theorem len_2 (x k : Nat) (hx : x < 256) (hk : k ≤ 100) : j_Zu_2 (Mi cx) 0 (.int .u64 x) (.int .i64 k) [] = some (.int .i64 ((k : Int) + blS x), []) := by
  have h := len8_idx x hx
  have hb : blS x ≤ 8 := bl_le hx
  unfold len8T at h
  simp +contextual -implicitDefEqProofs (disch := first | assumption | omega | (simp -implicitDefEqProofs only [go_sem]; try omega)) only [↓reduceIte, go_sem, iP, iN, w64, w8, w32, j_Zu_2, h]
theorem len_1 (x k : Nat) (hx : x < 65536) (hk : k ≤ 90) : j_Zu_1 (Mi cx) 0 (.int .u64 x) (.int .i64 k) [] = some (.int .i64 ((k : Int) + blS x), []) := by
  have hb : blS x ≤ 16 := bl_le hx
  by_cases c : 256 ≤ x
  · have h1 := len_2 (x / 2 ^ 8) (k + 8) (by omega) (by omega)
    have h2 := shr_n x 8 (by omega)
    have h3 := bl_shift (n := x) (k := 8) (by omega)
    have e : ((k + 8 : Nat) : Int) + blS (x / 2 ^ 8) = (k : Int) + blS x := by omega
    have e2 : ((k + 8 : Nat) : Int) = (k : Int) + 8 := by omega
    have e3 : ((8 : Nat) : Int) = 8 := rfl
    rw [e] at h1
    rw [e2] at h1
    rw [e3] at h2
    simp +contextual -implicitDefEqProofs (disch := first | assumption | omega | (simp -implicitDefEqProofs only [go_sem]; try omega)) only [↓reduceIte, go_sem, iP, iN, w64, w8, w32, j_Zu_1, h1, h2]
  · have h1 := len_2 x k (by omega) (by omega)
    simp +contextual -implicitDefEqProofs (disch := first | assumption | omega | (simp -implicitDefEqProofs only [go_sem]; try omega)) only [↓reduceIte, go_sem, iP, iN, w64, w8, w32, j_Zu_1, h1, c]
theorem len_0 (x k : Nat) (hx : x < 4294967296) (hk : k ≤ 64) : j_Zu_0 (Mi cx) 0 (.int .u64 x) (.int .i64 k) [] = some (.int .i64 ((k : Int) + blS x), []) := by
  have hb : blS x ≤ 32 := bl_le hx
  by_cases c : 65536 ≤ x
  · have h1 := len_1 (x / 2 ^ 16) (k + 16) (by omega) (by omega)
    have h2 := shr_n x 16 (by omega)
    have h3 := bl_shift (n := x) (k := 16) (by omega)
    have e : ((k + 16 : Nat) : Int) + blS (x / 2 ^ 16) = (k : Int) + blS x := by omega
    have e2 : ((k + 16 : Nat) : Int) = (k : Int) + 16 := by omega
    have e3 : ((16 : Nat) : Int) = 16 := rfl
    rw [e] at h1
    rw [e2] at h1
    rw [e3] at h2
    simp +contextual -implicitDefEqProofs (disch := first | assumption | omega | (simp -implicitDefEqProofs only [go_sem]; try omega)) only [↓reduceIte, go_sem, iP, iN, w64, w8, w32, j_Zu_0, h1, h2]
  · have h1 := len_1 x k (by omega) (by omega)
    simp +contextual -implicitDefEqProofs (disch := first | assumption | omega | (simp -implicitDefEqProofs only [go_sem]; try omega)) only [↓reduceIte, go_sem, iP, iN, w64, w8, w32, j_Zu_0, h1, c]
theorem d_Len64 (x : Nat) (hx : x < 18446744073709551616) (σ : Objs) (hσ : Wf σ) : E cx 120 [.int .u64 x] σ = some (.int .i64 (blS x), σ) := by
  refine E_any cx_cl ?_ rfl rfl σ hσ
  rw [e_Zu]
  by_cases c : 4294967296 ≤ x
  · have h1 := len_0 (x / 2 ^ 32) 32 (by omega) (by omega)
    have h2 := shr_n x 32 (by omega)
    have h3 := bl_shift (n := x) (k := 32) (by omega)
    have e : ((32 : Nat) : Int) + blS (x / 2 ^ 32) = blS x := by omega
    have e3 : ((32 : Nat) : Int) = 32 := rfl
    rw [e] at h1
    rw [e3] at h1 h2
    simp +contextual -implicitDefEqProofs (disch := first | assumption | omega | (simp -implicitDefEqProofs only [go_sem]; try omega)) only [↓reduceIte, go_sem, iP, iN, w64, w8, w32, s_Zu, h1, h2]
  · have h1 := len_0 x 0 (by omega) (by omega)
    have e : ((0 : Nat) : Int) + blS x = blS x := by omega
    have e3 : ((0 : Nat) : Int) = 0 := rfl
    rw [e] at h1
    rw [e3] at h1
    simp +contextual -implicitDefEqProofs (disch := first | assumption | omega | (simp -implicitDefEqProofs only [go_sem]; try omega)) only [↓reduceIte, go_sem, iP, iN, w64, w8, w32, s_Zu, h1, c]
theorem d_log10 (m : Nat) (hm : m ≤ 100) (σ : Objs) (hσ : Wf σ) : E cx 119 [.int .i64 m] σ = some (.int .i64 ((m * 78913 / 262144 : Nat) : Int), σ) := by
  have h := shr_i (m * 78913) 18 (by omega)
  have e : ((m * 78913 : Nat) : Int) = (m : Int) * 78913 := by omega
  have e2 : ((18 : Nat) : Int) = 18 := rfl
  have e3 : (2 : Nat) ^ 18 = 262144 := rfl
  rw [e, e2, e3] at h
  rw [e_Zp]
  simp +contextual -implicitDefEqProofs (disch := first | assumption | omega | (simp -implicitDefEqProofs only [go_sem]; try omega)) only [↓reduceIte, go_sem, iP, iN, w64, w8, w32, s_Zp, h]
theorem d_bool2 (b : Bool) (σ : Objs) (hσ : Wf σ) : E cx 121 [.bool b] σ = some (.int .i64 (if b then 1 else 0), σ) := by
  rw [e_Zn]
  cases b with
  | true => simp +contextual -implicitDefEqProofs (disch := first | assumption | omega | (simp -implicitDefEqProofs only [go_sem]; try omega)) only [↓reduceIte, go_sem, iP, iN, w64, w8, w32, s_Zn]
  | false => simp +contextual -implicitDefEqProofs (disch := first | assumption | omega | (simp -implicitDefEqProofs only [go_sem]; try omega)) only [↓reduceIte, go_sem, iP, iN, w64, w8, w32, s_Zn, Bool.false_eq_true]
theorem g_pow : (Mi cx).G.g 3 = .eptr pow10V 0 := by kernel_rfl
theorem pow_idx (t : Nat) (h : t < 20) : (evIaddrA 20 1 (.int .i64 t) (.eptr pow10V 0)) = some (.eptr pow10V t) := by
  have : (0 : Int) ≤ t ∧ (t : Int) < (20 : Nat) := by omega
  simp only [evIaddrA, index, if_pos this, Option.bind_eq_bind, Option.bind_some, Int.toNat_natCast, Nat.mul_one, Nat.zero_add]
theorem pow_get (t : Nat) (h : t < 20) (σ : Objs) : eL σ false 1 (.eptr pow10V t) = some (.int .u64 ((10 ^ t : Nat) : Int)) := by
  have e : eL σ false 1 (.eptr pow10V t) = pow10V[t]?.map V.ng := rfl
  rw [e]
  unfold pow10V
  rw [List.getElem?_map, List.getElem?_range h]
  rfl
theorem d_numDigits (u : Nat) (h1 : 1 ≤ u) (h2 : u ≤ 2199023255552) (σ : Objs) (hσ : Wf σ) : E cx 108 [.int .u64 u] σ = some (.int .i64 (ndS u), σ) := by
  have hn := nd_ok u h1 h2
  have hb : blS u ≤ 42 := bl_le (by omega)
  have g1 := fun σ hσ => d_Len64 u (by omega) σ hσ
  have g2 := fun σ hσ => d_log10 (blS u) (by omega) σ hσ
  have g3 := fun b σ hσ => d_bool2 b σ hσ
  have g4 := g_pow
  have g5 := pow_idx (tnS u) (by omega)
  have g6 := fun σ => pow_get (tnS u) (by omega) σ
  have et : blS u * 78913 / 262144 = tnS u := rfl
  rw [et] at g2
  have hg : (V.eptr pow10V 0).ng = .eptr pow10V 0 := rfl
  rw [e_Zq]
  unfold ndS
  by_cases c : 10 ^ tnS u ≤ u
  · have c' : ((10 ^ tnS u : Nat) : Int) ≤ u := by omega
    generalize 10 ^ tnS u = q at g6 c c' ⊢
    rw [if_pos c]
    simp +contextual -implicitDefEqProofs (disch := first | assumption | omega | (simp -implicitDefEqProofs only [go_sem]; try omega)) only [↓reduceIte, go_sem, iP, iN, w64, w8, w32, s_Zq, g1, g2, g3, g4, g5, g6, c', Int.natCast_add]
    rfl
  · have c' : ¬ ((10 ^ tnS u : Nat) : Int) ≤ u := by omega
    generalize 10 ^ tnS u = q at g6 c c' ⊢
    rw [if_neg c]
    simp +contextual -implicitDefEqProofs (disch := first | assumption | omega | (simp -implicitDefEqProofs only [go_sem]; try omega)) only [↓reduceIte, go_sem, iP, iN, w64, w8, w32, s_Zq, g1, g2, g3, g4, g5, g6, c', Bool.false_eq_true, Nat.add_zero, Int.add_zero]
end Go.Proofs.YtkgkmlhljeidhaaGreatDoor
set_option linter.unusedSimpArgs false
set_option linter.unusedVariables false
set_option linter.unusedSectionVars false
namespace Go.Ev
theorem cutS_both {k k' : IntKind} {a b : Int} {s : List UInt8} (h : 0 ≤ a ∧ a ≤ b ∧ b ≤ s.length) : evCutS (.str s) (some (.int k a)) (some (.int k' b)) = some (.str ((s.drop a.toNat).take (b.toNat - a.toNat))) := by
  have hb : bound (.int k' b) s.length = some b.toNat := by simp [bound]; omega
  have ha : bound (.int k a) b.toNat = some a.toNat := by simp [bound]; omega
  simp [evCutS, bounds, hb, ha]
end Go.Ev
namespace Go.Proofs.YtkgkmlhljeidhaaGreatDoor
open Go.Ev
set_option maxRecDepth 100000
set_option maxHeartbeats 4000000
def sgnS (n : Int) : List UInt8 := if n < 0 then 45 :: digs (-n).toNat else digs n.toNat
theorem dig_cut : ∀ r : Fin 10, (([48, 49, 50, 51, 52, 53, 54, 55, 56, 57, 97, 98, 99, 100, 101, 102] : List UInt8).drop r.val).take 1 = [UInt8.ofNat (48 + r.val)] := by decide
theorem d_rdloop : ∀ (f n : Nat) (acc : List UInt8), n < f → n < 4611686018427387904 → acc.length + f < 4611686018427387904 →
    l_Z1j_0 (Mi cx) 0 0 [.int .i64 n, .int .i64 10, .str [48, 49, 50, 51, 52, 53, 54, 55, 56, 57, 97, 98, 99, 100, 101, 102], .str acc] [] = some (.str (digF f n acc), [])
  | 0, n, acc, hf, hn, ha => by omega
  | f + 1, n, acc, hf, hn, ha => by
    have hm : strMax = 4611686018427387904 := rfl
    have hc := cutS_both (k := .i64) (k' := .i64) (a := ((n % 10 : Nat) : Int)) (b := ((n % 10 : Nat) : Int) + 1) (s := [48, 49, 50, 51, 52, 53, 54, 55, 56, 57, 97, 98, 99, 100, 101, 102]) (by simp only [List.length_cons, List.length_nil]; omega)
    have e1 : (((n % 10 : Nat) : Int) + 1).toNat - ((n % 10 : Nat) : Int).toNat = 1 := by omega
    have e2 : ((n % 10 : Nat) : Int).toNat = n % 10 := by omega
    rw [e1, e2] at hc
    have hc2 := dig_cut ⟨n % 10, by omega⟩
    simp only at hc2
    rw [hc2] at hc
    have e3 : ((n % 10 : Nat) : Int) = (n : Int) % 10 := by omega
    rw [e3] at hc
    have hadd : eB .add .no (.str [UInt8.ofNat (48 + n % 10)]) (.str acc) = some (.str (UInt8.ofNat (48 + n % 10) :: acc)) := bs_add (by simp only [List.length_cons, List.length_nil]; omega)
    rw [u_Z1j_0]
    unfold digF
    by_cases h : n / 10 = 0
    · have h' : (n : Int) / 10 = 0 := by omega
      rw [if_pos h]
      simp +contextual -implicitDefEqProofs (disch := first | assumption | omega | (simp -implicitDefEqProofs only [go_sem]; try omega)) only [↓reduceIte, go_sem, iP, iN, w64, w8, w32, b_Z1j_0, hc, hadd, h', tmod_nn, tdiv_nn]
    · have h' : ¬ (n : Int) / 10 = 0 := by omega
      have ih := d_rdloop f (n / 10) (UInt8.ofNat (48 + n % 10) :: acc) (by omega) (by omega) (by simp only [List.length_cons]; omega)
      have e4 : ((n / 10 : Nat) : Int) = (n : Int) / 10 := by omega
      rw [e4] at ih
      rw [if_neg h]
      simp +contextual -implicitDefEqProofs (disch := first | assumption | omega | (simp -implicitDefEqProofs only [go_sem]; try omega)) only [↓reduceIte, go_sem, iP, iN, w64, w8, w32, b_Z1j_0, hc, hadd, h', tmod_nn, tdiv_nn, ih]
theorem d_rDigits (n : Nat) (hn : n < 4611686018427387000) (σ : Objs) (hσ : Wf σ) : E cx 69 [.int .i64 n, .int .i64 10] σ = some (.str (digs n), σ) := by
  refine E_any cx_cl ?_ rfl rfl σ hσ
  have h := d_rdloop (n + 1) n [] (by omega) (by omega) (by simp; omega)
  rw [e_Z1j]
  simp +contextual -implicitDefEqProofs (disch := first | assumption | omega | (simp -implicitDefEqProofs only [go_sem]; try omega)) only [↓reduceIte, go_sem, iP, iN, w64, w8, w32, s_Z1j, h, digs]
theorem digs_len (n : Nat) : (digs n).length ≤ n + 1 := by simpa [digs] using digF_len (n + 1) n []
theorem d_signed (n : Int) (hn : -1099511627776 ≤ n ∧ n ≤ 1099511627776) (σ : Objs) (hσ : Wf σ) : E cx 40 [.int .i64 n] σ = some (.str (sgnS n), σ) := by
  have hm : strMax = 4611686018427387904 := rfl
  rw [e_Z2d]
  unfold sgnS
  by_cases h : n < 0
  · have h1 := fun σ hσ => d_rDigits (-n).toNat (by omega) σ hσ
    have hl := digs_len (-n).toNat
    have e : (((-n).toNat : Nat) : Int) = 0 - n := by omega
    rw [e] at h1
    have hadd : eB .add .no (.str [45]) (.str (digs (-n).toNat)) = some (.str (45 :: digs (-n).toNat)) := bs_add (by simp only [List.length_cons, List.length_nil]; omega)
    rw [if_pos h]
    simp +contextual -implicitDefEqProofs (disch := first | assumption | omega | (simp -implicitDefEqProofs only [go_sem]; try omega)) only [↓reduceIte, go_sem, iP, iN, w64, w8, w32, s_Z2d, h1, hadd, h]
  · have h1 := fun σ hσ => d_rDigits n.toNat (by omega) σ hσ
    have e : ((n.toNat : Nat) : Int) = n := by omega
    rw [e] at h1
    rw [if_neg h]
    simp +contextual -implicitDefEqProofs (disch := first | assumption | omega | (simp -implicitDefEqProofs only [go_sem]; try omega)) only [↓reduceIte, go_sem, iP, iN, w64, w8, w32, s_Z2d, h1, h]
theorem sgn_len (n : Int) (hn : -1099511627776 ≤ n ∧ n ≤ 1099511627776) : (sgnS n).length ≤ 1099511627778 := by
  unfold sgnS
  split
  · have := digs_len (-n).toNat
    rw [List.length_cons]; omega
  · have := digs_len n.toNat
    omega
def anH (a : Int) : List UInt8 := if a = 1 then [110] else if a = -1 then [45, 110] else sgnS a ++ [110]
def anS (a b : Int) : List UInt8 := if a = 0 then sgnS b else if 0 < b then anH a ++ [43] ++ sgnS b else if b < 0 then anH a ++ sgnS b else anH a
section
variable (a b : Int) (ha : -1099511627776 ≤ a ∧ a ≤ 1099511627776) (hb : -1099511627776 ≤ b ∧ b ≤ 1099511627776)
include ha hb
theorem d_rText1 (h : List UInt8) (hh : h.length ≤ 2199023255560) : j_Z2c_1 (Mi cx) 0 (.int .i64 b) (.str h) [] = some (.str (if 0 < b then h ++ [43] ++ sgnS b else if b < 0 then h ++ sgnS b else h), []) := by
  have hm : strMax = 4611686018427387904 := rfl
  have h1 := fun σ hσ => d_signed b hb σ hσ
  have hl := sgn_len b hb
  generalize sgnS b = B at h1 hl ⊢
  have a1 : eB .add .no (.str h) (.str [43]) = some (.str (h ++ [43])) := bs_add (by simp only [List.length_cons, List.length_nil]; omega)
  have a2 : eB .add .no (.str (h ++ [43])) (.str B) = some (.str (h ++ [43] ++ B)) := bs_add (by simp only [List.length_append, List.length_cons, List.length_nil]; omega)
  have a3 : eB .add .no (.str h) (.str B) = some (.str (h ++ B)) := bs_add (by omega)
  generalize h ++ [43] ++ B = x at a2 ⊢
  generalize h ++ [43] = y at a1 a2
  generalize h ++ B = z at a3 ⊢
  by_cases c1 : 0 < b
  · rw [if_pos c1]
    simp +contextual -implicitDefEqProofs (disch := first | assumption | omega | (simp -implicitDefEqProofs only [go_sem]; try omega)) only [↓reduceIte, go_sem, iP, iN, w64, w8, w32, j_Z2c_1, h1, a1, a2, c1]
  · rw [if_neg c1]
    by_cases c2 : b < 0
    · rw [if_pos c2]
      simp +contextual -implicitDefEqProofs (disch := first | assumption | omega | (simp -implicitDefEqProofs only [go_sem]; try omega)) only [↓reduceIte, go_sem, iP, iN, w64, w8, w32, j_Z2c_1, h1, a3, c1, c2]
    · rw [if_neg c2]
      simp +contextual -implicitDefEqProofs (disch := first | assumption | omega | (simp -implicitDefEqProofs only [go_sem]; try omega)) only [↓reduceIte, go_sem, iP, iN, w64, w8, w32, j_Z2c_1, c1, c2]
theorem d_rTextA (σ : Objs) (hσ : Wf σ) : E cx 22 [.int .i64 a, .int .i64 b] σ = some (.str (anS a b), σ) := by
  refine E_any cx_cl ?_ rfl rfl σ hσ
  have hm : strMax = 4611686018427387904 := rfl
  have h1 := fun σ hσ => d_signed b hb σ hσ
  have h2 := fun σ hσ => d_signed a ha σ hσ
  have hl := sgn_len a ha
  have r := fun h hh => d_rText1 a b ha hb h hh
  have r1 := r [110] (by simp)
  have r2 := r [45, 110] (by simp)
  have r3 := r (sgnS a ++ [110]) (by simp; omega)
  rw [e_Z2c]
  unfold anS
  by_cases c0 : a = 0
  · rw [if_pos c0]
    simp +contextual -implicitDefEqProofs (disch := first | assumption | omega | (simp -implicitDefEqProofs only [go_sem]; try omega)) only [↓reduceIte, go_sem, iP, iN, w64, w8, w32, s_Z2c, h1, c0]
  · rw [if_neg c0]
    unfold anH
    generalize sgnS a = A at h2 hl r3 ⊢
    have a1 : eB .add .no (.str A) (.str [110]) = some (.str (A ++ [110])) := bs_add (by simp only [List.length_cons, List.length_nil]; omega)
    generalize A ++ [110] = x at a1 r3 ⊢
    by_cases c1 : a = 1
    · subst c1
      simp +contextual -implicitDefEqProofs (disch := first | assumption | omega | (simp -implicitDefEqProofs only [go_sem]; try omega)) only [↓reduceIte, go_sem, iP, iN, w64, w8, w32, s_Z2c, j_Z2c_0, h2, a1, r1]
    · by_cases c2 : a = -1
      · subst c2
        simp +contextual -implicitDefEqProofs (disch := first | assumption | omega | (simp -implicitDefEqProofs only [go_sem]; try omega)) only [↓reduceIte, go_sem, iP, iN, w64, w8, w32, s_Z2c, j_Z2c_0, h2, a1, r2]
      · simp +contextual -implicitDefEqProofs (disch := first | assumption | omega | (simp -implicitDefEqProofs only [go_sem]; try omega)) only [↓reduceIte, go_sem, iP, iN, w64, w8, w32, s_Z2c, j_Z2c_0, h2, a1, r3, c0, c1, c2]
end
end Go.Proofs.YtkgkmlhljeidhaaGreatDoor
set_option linter.unusedSimpArgs false
set_option linter.unusedVariables false
set_option linter.unusedSectionVars false
namespace Go.Proofs.YtkgkmlhljeidhaaGreatDoor
open Go.Ev
set_option maxRecDepth 100000
def ch (l : List Int) (i : Int) : Int := if i < l.length then l.getD i.toNat 0 else -1
theorem ch_app (p r : List Int) (k : Nat) : ch (p ++ r) (p.length + k) = ch r k := by
  unfold ch
  rw [List.length_append]
  by_cases h : k < r.length
  · rw [if_pos (by omega), if_pos (by omega)]
    have e : ((p.length : Int) + k).toNat = p.length + k := by omega
    rw [e, List.getD_eq_getElem?_getD, List.getD_eq_getElem?_getD, List.getElem?_append_right (by omega), Int.toNat_natCast, Nat.add_sub_cancel_left]
  · rw [if_neg (by omega), if_neg (by omega)]
theorem ch_here (p r : List Int) : ch (p ++ r) p.length = ch r 0 := by
  have := ch_app p r 0
  simpa using this
theorem ch_next (p r : List Int) (c : Int) : ch (p ++ c :: r) (p.length + 1) = ch r 0 := by
  have h := ch_app (p ++ [c]) r 0
  simp only [List.append_assoc, List.cons_append, List.nil_append, List.length_append, List.length_cons, List.length_nil, Nat.zero_add] at h
  have e : ((p.length + 1 : Nat) : Int) + (0 : Nat) = (p.length : Int) + 1 := by omega
  rw [e] at h
  exact h
theorem ch_0 (c : Int) (r : List Int) : ch (c :: r) 0 = c := by
  unfold ch
  rw [if_pos (by simp)]
  rfl
theorem ch_lt {l : List Int} {i : Int} (h : ch l i ≠ -1) : i < l.length := by
  by_cases h1 : i < l.length
  · exact h1
  · exact absurd (if_neg h1) h
theorem isB_ch {l : List Int} {i c : Int} (hc : 0 ≤ c) : isB l i c = decide (ch l i = c) := by
  unfold isB ch
  by_cases h : i < l.length
  · rw [if_pos h, decide_eq_true h, Bool.true_and]
  · rw [if_neg h, decide_eq_false h, Bool.false_and, decide_eq_false (by omega)]
theorem dgB_ch {l : List Int} {i : Int} : dgB l i = digitB (ch l i) := by
  unfold dgB ch
  by_cases h : i < l.length
  · rw [if_pos h, decide_eq_true h, Bool.true_and]
  · rw [if_neg h, decide_eq_false h]; rfl
theorem stB_ch {l : List Int} {i : Int} : stB l i = startB (ch l i) := by
  unfold stB ch
  by_cases h : i < l.length
  · rw [if_pos h, decide_eq_true h, Bool.true_and]
  · rw [if_neg h, decide_eq_false h]; rfl
theorem inB_ch {l : List Int} {i : Int} : inB l i = nameB (ch l i) := by
  unfold inB ch
  by_cases h : i < l.length
  · rw [if_pos h, decide_eq_true h, Bool.true_and]
  · rw [if_neg h, decide_eq_false h]; rfl
theorem sgB_ch {l : List Int} {i : Int} : sgB l i = (decide (ch l i = 43) || decide (ch l i = 45)) := by
  unfold sgB
  rw [isB_ch (by omega), isB_ch (by omega)]
theorem escB_no {l : List Int} {i : Int} (h : ch l i ≠ 92) : escB l i = false := by
  unfold escB
  rw [isB_ch (by omega), decide_eq_false h, Bool.false_and]
theorem behS_no {l : List Int} {i : Int} (h : ch l i ≠ 47) : behS l i = i := by
  show (if comB l i then behE l l.length (comE l i) else i) = i
  unfold comB
  rw [isB_ch (by omega), decide_eq_false h, Bool.false_and]
  rfl
theorem get_ch {l : List Int} {i : Int} (h : ch l i ≠ -1) : l.getD i.toNat 0 = ch l i := by
  unfold ch
  rw [if_pos (ch_lt h)]
theorem dgE_run : ∀ (d p q : List Int) (f : Nat), (∀ c ∈ d, digitB c = true) → digitB (ch q 0) = false → d.length < f → dgE (p ++ (d ++ q)) f p.length = p.length + d.length
  | [], p, q, f, hd, hq, hf => by
    obtain ⟨g, rfl⟩ : ∃ g, f = g + 1 := ⟨f - 1, by simp at hf; omega⟩
    unfold dgE
    rw [dgB_ch, List.nil_append, ch_here, hq]
    simp
  | c :: d, p, q, f, hd, hq, hf => by
    obtain ⟨g, rfl⟩ : ∃ g, f = g + 1 := ⟨f - 1, by simp at hf; omega⟩
    have ih := dgE_run d (p ++ [c]) q g (fun x hx => hd x (List.mem_cons_of_mem _ hx)) hq (by simp at hf; omega)
    simp only [List.append_assoc, List.cons_append, List.nil_append, List.length_append, List.length_cons, List.length_nil, Nat.zero_add] at ih
    unfold dgE
    rw [dgB_ch, List.cons_append, ch_here, ch_0, hd c (List.mem_cons_self ..), if_pos rfl]
    have e : ((p.length + 1 : Nat) : Int) = (p.length : Int) + 1 := by omega
    rw [e] at ih
    rw [ih, List.length_cons]
    omega
theorem namesF_run : ∀ (n p q : List Int) (f : Nat) (out : List Int), (∀ c ∈ n, nameB c = true) → nameB (ch q 0) = false → ch q 0 ≠ 92 → n.length < f → namesF (p ++ (n ++ q)) f p.length out = (out ++ n, ((p.length : Int) + n.length : Int))
  | [], p, q, f, out, hd, hq, hq2, hf => by
    obtain ⟨g, rfl⟩ : ∃ g, f = g + 1 := ⟨f - 1, by simp at hf; omega⟩
    unfold namesF
    rw [inB_ch, List.nil_append, ch_here, hq, escB_no (by rw [ch_here]; exact hq2)]
    simp
  | c :: n, p, q, f, out, hd, hq, hq2, hf => by
    obtain ⟨g, rfl⟩ : ∃ g, f = g + 1 := ⟨f - 1, by simp at hf; omega⟩
    have ih := namesF_run n (p ++ [c]) q g (out ++ [c]) (fun x hx => hd x (List.mem_cons_of_mem _ hx)) hq hq2 (by simp at hf; omega)
    simp only [List.append_assoc, List.cons_append, List.nil_append, List.length_append, List.length_cons, List.length_nil, Nat.zero_add] at ih
    have hg : (p ++ c :: (n ++ q)).getD (p.length : Int).toNat 0 = c := by simp
    unfold namesF
    rw [inB_ch, List.cons_append, ch_here, ch_0, hd c (List.mem_cons_self ..), if_pos rfl, hg]
    have e : ((p.length + 1 : Nat) : Int) = (p.length : Int) + 1 := by omega
    rw [e] at ih
    rw [ih, List.length_cons]
    congr 1
    omega
theorem cutL_app (p d q : List Int) : cutL (p ++ (d ++ q)) p.length (p.length + d.length) = d := by
  unfold cutL
  have e1 : (p.length : Int).toNat = p.length := by omega
  have e2 : ((p.length : Int) + d.length).toNat - p.length = d.length := by omega
  rw [e1, e2, List.drop_left, List.take_left]
def asc (s : List UInt8) : List Int := s.map fun b => (b.toNat : Int)
def Asc (s : List UInt8) : Prop := ∀ b ∈ s, 1 ≤ b.toNat ∧ b.toNat ≤ 127 ∧ b.toNat ≠ 12 ∧ b.toNat ≠ 13
theorem asc_app (s t : List UInt8) : asc (s ++ t) = asc s ++ asc t := List.map_append
theorem asc_len (s : List UInt8) : (asc s).length = s.length := List.length_map ..
theorem putB_self (b : UInt8) : putB (b.toNat : Int) = b := by
  have hb := UInt8.toNat_lt b
  have := putB_nat (x := (b.toNat : Int)) (by omega)
  exact UInt8.toNat_inj.1 (by omega)
theorem asc_text : ∀ (s : List UInt8), Asc s → textS (asc s) = s
  | [], h => rfl
  | b :: s, h => by
    have hb := h b (List.mem_cons_self ..)
    have ih := asc_text s fun x hx => h x (List.mem_cons_of_mem _ hx)
    have e : asc (b :: s) = (b.toNat : Int) :: asc s := rfl
    rw [e, textS_cons _ _ (by omega), ih, putB_self]
theorem asc_firS (b : List UInt8) (p r : List UInt8) (x : UInt8) (hp : b = p ++ x :: r) (hx : x.toNat ≤ 127) : firS b p.length = ((x.toNat : Int), (1 : Int)) := by
  have hl : b.length = p.length + r.length + 1 := by rw [hp]; simp; omega
  have hc : cut8 b p.length (p.length + 1) = [x] := by
    unfold cut8
    have e1 : (p.length : Int).toNat = p.length := by omega
    have e2 : ((p.length : Int) + 1).toNat - p.length = 1 := by omega
    rw [e1, e2, hp, List.drop_left]
    rfl
  have ht : toldS [x] = x.toNat := by
    unfold toldS headI
    simp [toldF]
  have hr : rightB (x.toNat : Int) = true := by
    unfold rightB
    simp only [Bool.and_eq_true, Bool.or_eq_true, decide_eq_true_eq]
    omega
  have hw : wholeS [x] = true := by
    unfold wholeS
    rw [ht, hr, Bool.true_and]
    apply decide_eq_true
    unfold putS
    rw [if_pos (by omega), putB_self]
  unfold firS fir0
  rw [if_pos (by decide), if_pos (by omega), hc, hw, if_pos rfl, ht]
theorem asc_chaF (b : List UInt8) (hb : Asc b) : ∀ (r p : List UInt8) (f : Nat), b = p ++ r → r.length < f → chaF b f p.length = asc r
  | [], p, f, hp, hf => by
    obtain ⟨g, rfl⟩ : ∃ g, f = g + 1 := ⟨f - 1, by simp at hf; omega⟩
    have hl : b.length = p.length := by rw [hp]; simp
    unfold chaF
    rw [if_neg (by omega)]
    rfl
  | x :: r, p, f, hp, hf => by
    obtain ⟨g, rfl⟩ : ∃ g, f = g + 1 := ⟨f - 1, by simp at hf; omega⟩
    have hl : b.length = p.length + r.length + 1 := by rw [hp]; simp; omega
    have hx := hb x (by rw [hp]; simp)
    have ih := asc_chaF b hb r (p ++ [x]) g (by rw [hp]; simp) (by simp at hf; omega)
    have e : (((p ++ [x]).length : Nat) : Int) = (p.length : Int) + 1 := by simp
    rw [e] at ih
    unfold chaF
    rw [if_pos (by omega), asc_firS b p r x hp (by omega)]
    show (if 0 < (p.length : Int) ∨ (x.toNat : Int) ≠ 65279 then (x.toNat : Int) :: chaF b g (p.length + 1) else chaF b g (p.length + 1)) = _
    rw [if_pos (.inr (by omega)), ih]
    rfl
theorem asc_preF (b : List UInt8) (hb : Asc b) : ∀ (r p : List UInt8) (f : Nat), b = p ++ r → r.length < f → preF (asc b) f p.length = asc r
  | [], p, f, hp, hf => by
    obtain ⟨g, rfl⟩ : ∃ g, f = g + 1 := ⟨f - 1, by simp at hf; omega⟩
    have hl : (asc b).length = p.length := by rw [asc_len, hp]; simp
    unfold preF
    rw [if_neg (by omega)]
    rfl
  | x :: r, p, f, hp, hf => by
    obtain ⟨g, rfl⟩ : ∃ g, f = g + 1 := ⟨f - 1, by simp at hf; omega⟩
    have hl : (asc b).length = p.length + r.length + 1 := by rw [asc_len, hp]; simp; omega
    have hx := hb x (by rw [hp]; simp)
    have ih := asc_preF b hb r (p ++ [x]) g (by rw [hp]; simp) (by simp at hf; omega)
    have e : (((p ++ [x]).length : Nat) : Int) = (p.length : Int) + 1 := by simp
    rw [e] at ih
    have hg : (asc b).getD (p.length : Int).toNat 0 = x.toNat := by
      rw [hp, asc_app]
      have : (p.length : Int).toNat = (asc p).length := by rw [asc_len]; omega
      rw [this]
      simp [asc]
    have h1 : fixC (nlC (x.toNat : Int)) = x.toNat := by
      have e1 : nlC (x.toNat : Int) = x.toNat := if_neg (by omega)
      rw [e1]
      have hr : rightB (x.toNat : Int) = true := by
        unfold rightB
        simp only [Bool.and_eq_true, Bool.or_eq_true, decide_eq_true_eq]
        omega
      unfold fixC
      rw [if_neg (by rw [hr]; simp; omega)]
    unfold preF
    rw [if_pos (by omega), hg, if_neg (by rintro ⟨h, _⟩; omega), h1, ih]
    rfl
theorem asc_pre (b : List UInt8) (hb : Asc b) : preS (chaS b) = asc b := by
  have h1 := asc_chaF b hb b [] (b.length + 1) rfl (by omega)
  have h2 := asc_preF b hb b [] ((asc b).length + 1) rfl (by rw [asc_len]; omega)
  unfold preS chaS
  simp only [List.length_nil] at h1 h2
  have e : ((0 : Nat) : Int) = 0 := rfl
  rw [e] at h1 h2
  rw [h1, h2]
end Go.Proofs.YtkgkmlhljeidhaaGreatDoor
set_option linter.unusedSimpArgs false
set_option linter.unusedVariables false
set_option linter.unusedSectionVars false
namespace Go.Proofs.YtkgkmlhljeidhaaGreatDoor
open Go.Ev
set_option maxRecDepth 100000
theorem nxtS_at {l : List Int} {i : Int} (h1 : ch l i ≠ 47) (h2 : ch l i ≠ -1) : nxtS l i = nxtC l i := by
  have := ch_lt h2
  unfold nxtS
  rw [behS_no h1, if_neg (by omega)]
theorem t_end (l : List Int) : nxtS l l.length = ⟨0, l.length, l.length, [], [], false⟩ := by
  have h : ch l l.length = -1 := if_neg (by omega)
  unfold nxtS
  rw [behS_no (by rw [h]; decide), if_pos (Int.le_refl _)]
section
variable (p g d q : List Int) (hg : g = [] ∨ g = [43] ∨ g = [45]) (hd : ∀ x ∈ d, digitB x = true) (hne : d ≠ [])
include hg hd hne
theorem num_at : (ch (p ++ (g ++ (d ++ q))) p.length = 43 ∨ ch (p ++ (g ++ (d ++ q))) p.length = 45 ∨ digitB (ch (p ++ (g ++ (d ++ q))) p.length) = true) ∧ sg (p ++ (g ++ (d ++ q))) p.length = ((p ++ g).length : Int) ∧ dgB (p ++ (g ++ (d ++ q))) ((p ++ g).length : Int) = true := by
  obtain ⟨c, d', rfl⟩ : ∃ c d', d = c :: d' := by
    cases d with
    | nil => exact absurd rfl hne
    | cons c d' => exact ⟨c, d', rfl⟩
  have hc := hd c (List.mem_cons_self ..)
  have hc2 : 48 ≤ c ∧ c ≤ 57 := by
    unfold digitB at hc
    simp only [Bool.and_eq_true, decide_eq_true_eq] at hc
    exact hc
  have h3 : dgB (p ++ (g ++ ((c :: d') ++ q))) ((p ++ g).length : Int) = true := by
    rw [← List.append_assoc, dgB_ch, ch_here, List.cons_append, ch_0]
    exact hc
  refine ⟨?_, ?_, h3⟩
  · rw [ch_here]
    rcases hg with rfl | rfl | rfl
    · rw [List.nil_append, List.cons_append, ch_0]; exact .inr (.inr hc)
    · rw [List.cons_append, ch_0]; exact .inl rfl
    · rw [List.cons_append, ch_0]; exact .inr (.inl rfl)
  · unfold sg
    rw [sgB_ch, ch_here]
    rcases hg with rfl | rfl | rfl
    · rw [List.nil_append, List.cons_append, ch_0, decide_eq_false (by omega), decide_eq_false (by omega)]
      simp
    · rw [List.cons_append, ch_0, if_pos (by rfl)]; simp
    · rw [List.cons_append, ch_0, if_pos (by rfl)]; simp
variable (hq : digitB (ch q 0) = false) (hq1 : ch q 0 ≠ 46) (hq2 : ch q 0 ≠ 101) (hq3 : ch q 0 ≠ 69)
include hq hq1 hq2 hq3
theorem dig_at : numB (p ++ (g ++ (d ++ q))) p.length = true ∧ digS (p ++ (g ++ (d ++ q))) p.length = (((p ++ (g ++ d)).length : Int), true) := by
  obtain ⟨-, h1, h2⟩ := num_at p g d q hg hd hne
  refine ⟨by unfold numB; rw [h1, h2]; rfl, ?_⟩
  have h3 : dE (p ++ (g ++ (d ++ q))) ((p ++ g).length : Int) = (((p ++ (g ++ d)).length : Int)) := by
    unfold dE
    have := dgE_run d (p ++ g) q ((p ++ (g ++ (d ++ q))).length + 1) hd hq (by simp; omega)
    rw [List.append_assoc] at this
    rw [this]
    simp
    omega
  have h4 : ch (p ++ (g ++ (d ++ q))) (((p ++ (g ++ d)).length : Int)) = ch q 0 := by
    have := ch_here (p ++ (g ++ d)) q
    simp only [List.append_assoc] at this ⊢
    exact this
  unfold digS
  rw [h1, h3]
  unfold fracS
  rw [isB_ch (by omega), h4, decide_eq_false hq1, Bool.false_and]
  show expS _ _ _ = _
  unfold expS
  rw [isB_ch (by omega), isB_ch (by omega), h4, decide_eq_false hq2, decide_eq_false hq3]
  rfl
theorem t_numS : nxtS (p ++ (g ++ (d ++ q))) p.length = numS (p ++ (g ++ (d ++ q))) p.length := by
  obtain ⟨h1, -, -⟩ := num_at p g d q hg hd hne
  have h2 := (dig_at p g d q hg hd hne hq hq1 hq2 hq3).1
  generalize hl : p ++ (g ++ (d ++ q)) = l at h1 h2 ⊢
  have h3 : ch l p.length ≠ 47 ∧ ch l p.length ≠ -1 ∧ ch l p.length ≠ 34 ∧ ch l p.length ≠ 39 ∧ spaceB (ch l p.length) = false := by
    rcases h1 with h | h | h
    · rw [h]; decide
    · rw [h]; decide
    · unfold digitB at h
      simp only [Bool.and_eq_true, decide_eq_true_eq] at h
      refine ⟨by omega, by omega, by omega, by omega, ?_⟩
      unfold spaceB
      rw [decide_eq_false (by omega), decide_eq_false (by omega), decide_eq_false (by omega)]
      rfl
  rw [nxtS_at h3.1 h3.2.1]
  unfold nxtC
  rw [get_ch h3.2.1, if_neg (by rw [h3.2.2.2.2]; simp), if_neg h3.2.2.1, if_neg h3.2.2.2.1, if_pos h2]
end
theorem cut_gd (p g d q : List Int) : cutL (p ++ (g ++ (d ++ q))) p.length ((p ++ (g ++ d)).length : Int) = g ++ d := by
  have := cutL_app p (g ++ d) q
  rw [List.append_assoc] at this
  rw [List.length_append]
  have e : ((p.length + (g ++ d).length : Nat) : Int) = (p.length : Int) + (g ++ d).length := by omega
  rw [e, this]
theorem t_num (p g d : List Int) (hg : g = [] ∨ g = [43] ∨ g = [45]) (hd : ∀ x ∈ d, digitB x = true) (hne : d ≠ []) :
    nxtS (p ++ (g ++ d)) p.length = ⟨10, p.length, p.length + (g ++ d).length, [], textS (g ++ d), true⟩ := by
  have hc : ch ([] : List Int) 0 = -1 := rfl
  have h1 := t_numS p g d [] hg hd hne (by rw [hc]; rfl) (by rw [hc]; decide) (by rw [hc]; decide) (by rw [hc]; decide)
  have h2 := (dig_at p g d [] hg hd hne (by rw [hc]; rfl) (by rw [hc]; decide) (by rw [hc]; decide) (by rw [hc]; decide)).2
  have h3 := cut_gd p g d []
  simp only [List.append_nil] at h1 h2 h3
  have h4 : ch (p ++ (g ++ d)) ((p ++ (g ++ d)).length : Int) = -1 := if_neg (by omega)
  rw [h1]
  unfold numS
  rw [h2]
  have h5 : nmB (p ++ (g ++ d)) ((p ++ (g ++ d)).length : Int) = false := by
    unfold nmB
    rw [isB_ch (by omega), h4, if_neg (by decide), stB_ch, h4, escB_no (by rw [h4]; decide)]
    rfl
  rw [h5, isB_ch (by omega), h4, if_neg (by decide), if_neg (by decide), h3]
  congr 1
  simp only [List.length_append]
  omega
theorem start_facts {c : Int} (h : startB c = true) : c ≠ 45 ∧ c ≠ 46 ∧ digitB c = false ∧ c ≠ 47 ∧ c ≠ -1 ∧ c ≠ 34 ∧ c ≠ 39 ∧ spaceB c = false ∧ c ≠ 43 := by
  unfold startB smallZ at h
  have h1 : (65 ≤ c ∧ c ≤ 90) ∨ (97 ≤ c ∧ c ≤ 122) ∨ c = 95 ∨ 128 ≤ c := by
    simp only [Bool.or_eq_true, Bool.and_eq_true, decide_eq_true_eq] at h
    split at h <;> omega
  unfold digitB spaceB
  simp only [Bool.and_eq_false_iff, Bool.or_eq_false_iff, decide_eq_false_iff_not]
  omega
theorem t_dim (p g d n q : List Int) (c : Int) (hg : g = [] ∨ g = [43] ∨ g = [45]) (hd : ∀ x ∈ d, digitB x = true) (hne : d ≠ []) (hc : startB c = true) (hc1 : c ≠ 101) (hc2 : c ≠ 69)
    (hn : ∀ x ∈ c :: n, nameB x = true) (hq : nameB (ch q 0) = false) (hq2 : ch q 0 ≠ 92) :
    nxtS (p ++ (g ++ (d ++ ((c :: n) ++ q)))) p.length = ⟨12, p.length, p.length + (g ++ (d ++ (c :: n))).length, textS (c :: n), textS (g ++ d), true⟩ := by
  have f := start_facts hc
  have h0 : ch ((c :: n) ++ q) 0 = c := by rw [List.cons_append, ch_0]
  have h1 := t_numS p g d ((c :: n) ++ q) hg hd hne (by rw [h0]; exact f.2.2.1) (by rw [h0]; exact f.2.1) (by rw [h0]; exact hc1) (by rw [h0]; exact hc2)
  have h2 := (dig_at p g d ((c :: n) ++ q) hg hd hne (by rw [h0]; exact f.2.2.1) (by rw [h0]; exact f.2.1) (by rw [h0]; exact hc1) (by rw [h0]; exact hc2)).2
  have h3 := cut_gd p g d ((c :: n) ++ q)
  have h4 : ch (p ++ (g ++ (d ++ ((c :: n) ++ q)))) ((p ++ (g ++ d)).length : Int) = c := by
    have := ch_here (p ++ (g ++ d)) ((c :: n) ++ q)
    simp only [List.append_assoc] at this ⊢
    rw [this, h0]
  have h6 := namesF_run (c :: n) (p ++ (g ++ d)) q ((p ++ (g ++ (d ++ ((c :: n) ++ q)))).length + 1) [] hn hq hq2 (by simp; omega)
  rw [h1]
  unfold numS
  rw [h2]
  have h5 : nmB (p ++ (g ++ (d ++ ((c :: n) ++ q)))) ((p ++ (g ++ d)).length : Int) = true := by
    unfold nmB
    rw [isB_ch (by omega), h4, if_neg (by rw [decide_eq_false f.1]; simp), stB_ch, h4, hc]
    rfl
  have h7 : namesF (p ++ (g ++ (d ++ ((c :: n) ++ q)))) ((p ++ (g ++ (d ++ ((c :: n) ++ q)))).length + 1) ((p ++ (g ++ d)).length : Int) [] = (c :: n, ((p ++ (g ++ d)).length : Int) + (c :: n).length) := by
    simp only [List.append_assoc, List.nil_append] at h6 ⊢
    exact h6
  have h8 : namesS (p ++ (g ++ (d ++ ((c :: n) ++ q)))) ((p ++ (g ++ d)).length : Int) = (textS (c :: n), ((p ++ (g ++ d)).length : Int) + (c :: n).length) := by
    unfold namesS
    rw [h7]
  rw [h5, if_pos rfl, h3, h8]
  congr 1
  simp only [List.length_append]
  omega
theorem t_id (p n q : List Int) (c : Int) (hc : startB c = true ∨ c = 45 ∧ startB (ch (n ++ q) 0) = true) (hn : ∀ x ∈ c :: n, nameB x = true) (hq : nameB (ch q 0) = false) (hq2 : ch q 0 ≠ 92) (hq3 : ch q 0 ≠ 40) :
    nxtS (p ++ ((c :: n) ++ q)) p.length = ⟨1, p.length, p.length + (c :: n).length, textS (c :: n), [], false⟩ := by
  have h0 : ch (p ++ ((c :: n) ++ q)) p.length = c := by rw [ch_here, List.cons_append, ch_0]
  have h1 : ch (p ++ ((c :: n) ++ q)) (p.length + 1) = ch (n ++ q) 0 := by rw [List.cons_append, ch_next]
  have h6 := namesF_run (c :: n) p q ((p ++ ((c :: n) ++ q)).length + 1) [] hn hq hq2 (by simp; omega)
  have h7 : ch (p ++ ((c :: n) ++ q)) ((p.length : Int) + (c :: n).length) = ch q 0 := by
    have := ch_here (p ++ (c :: n)) q
    rw [List.append_assoc] at this
    rw [← this]
    congr 1
    simp
  have h8 : namesS (p ++ ((c :: n) ++ q)) p.length = (textS (c :: n), (p.length : Int) + (c :: n).length) := by
    unfold namesS
    rw [h6]
    rfl
  generalize p ++ ((c :: n) ++ q) = l at h0 h1 h7 h8 ⊢
  have f : c ≠ 47 ∧ c ≠ -1 ∧ c ≠ 34 ∧ c ≠ 39 ∧ spaceB c = false := by
    rcases hc with h | ⟨h, _⟩
    · have := start_facts h; exact ⟨this.2.2.2.1, this.2.2.2.2.1, this.2.2.2.2.2.1, this.2.2.2.2.2.2.1, this.2.2.2.2.2.2.2.1⟩
    · rw [h]; decide
  have hnum : numB l p.length = false := by
    unfold numB sg
    rw [sgB_ch, h0]
    rcases hc with h | ⟨h, hs⟩
    · have k := start_facts h
      rw [decide_eq_false k.2.2.2.2.2.2.2.2, decide_eq_false k.1]
      show (dgB l p.length || isB l p.length 46 && dgB l (p.length + 1)) = false
      rw [dgB_ch, h0, k.2.2.1, isB_ch (by omega), h0, decide_eq_false k.2.1]
      rfl
    · have k := start_facts hs
      rw [h]
      show (dgB l (p.length + 1) || isB l (p.length + 1) 46 && dgB l (p.length + 1 + 1)) = false
      rw [dgB_ch, h1, k.2.2.1, isB_ch (by omega), h1, decide_eq_false k.2.1]
      rfl
  have hnm : nmB l p.length = true := by
    unfold nmB
    rw [isB_ch (by omega), h0]
    rcases hc with h | ⟨h, hs⟩
    · have k := start_facts h
      rw [decide_eq_false k.1, if_neg (by simp), stB_ch, h0, h]
      rfl
    · rw [h, stB_ch, h1, hs]
      simp
  rw [nxtS_at (by omega) (by omega)]
  unfold nxtC
  rw [get_ch (by omega), h0, if_neg (by rw [f.2.2.2.2]; simp), if_neg f.2.2.1, if_neg f.2.2.2.1, hnum, if_neg (by simp), if_neg ?_, hnm, if_pos rfl]
  · unfold calS
    rw [h8, isB_ch (by omega), h7, decide_eq_false hq3]
    rfl
  · rintro ⟨h, h2, _⟩
    rw [isB_ch (by omega), h1, decide_eq_true_eq] at h2
    rcases hc with h3 | ⟨_, h3⟩
    · exact (start_facts h3).1 h
    · exact (start_facts h3).1 h2
end Go.Proofs.YtkgkmlhljeidhaaGreatDoor
set_option linter.unusedSimpArgs false
set_option linter.unusedVariables false
set_option linter.unusedSectionVars false
namespace Go.Proofs.YtkgkmlhljeidhaaGreatDoor
open Go.Ev
set_option maxRecDepth 100000
set_option maxHeartbeats 4000000
theorem neq_errV {k : Int} : eB .neq .ifc (errV k) .nili = some (.bool (decide (¬ k = 0))) := by
  unfold errV
  split
  · rename_i h; rw [h]; rfl
  · rename_i h; rw [decide_eq_true h]; rfl
theorem sto0_errV {off : Nat} {cs : List V} {k : Int} {τ : Objs} (h2 : off + 1 ≤ cs.length) :
    stV (.cells cs :: τ) 1 (.ptr 0 off) (errV k) (errV k) = some (.undef, .cells (cs.set off (errV k)) :: τ) := by
  unfold errV
  split
  · show (if (V.nili).cells.length = 1 ∧ off + 1 ≤ cs.length ∧ okCells (V.nili).cells = true then _ else _) = _
    rw [if_pos ⟨rfl, h2, rfl⟩]; rfl
  · show (if (failV k 0).cells.length = 1 ∧ off + 1 ≤ cs.length ∧ okCells (failV k 0).cells = true then _ else _) = _
    rw [if_pos ⟨rfl, h2, rfl⟩]; rfl
theorem frw_nil : FrW 1 [] = True := by unfold FrW; simp
theorem frw_one {cs : List V} : FrW 1 [.cells cs] = (V.rbs 2 cs = true) := by unfold FrW; simp [O.rb]
attribute [go_sem] errV_nogr errV_rb neq_errV eq_errV sto0_errV frw_nil frw_one
def comb (k e : Int) : Int := if k = 0 then e else k
def rdC (L : List Tok) (a k : Int) : List V := [.sl (toks L) .no, .int .i64 a, errV k]
theorem rdC_rb (L : List Tok) (a k : Int) : V.rbs 0 (rdC L a k) = true := by
  unfold rdC
  simp only [rbs_cons, toks_rb, errV_rb, rbs_nil]
  rfl
section
variable {L : List Tok} (hL : Toks L) (a k : Int)
include hL
theorem d_look1 (n : Int) (hn : 0 ≤ n) : E cx 41 [.ptr 0 0, .int .i64 n] [.cells [.sl (toks L) .no, .int .i64 a, errV k]] = some (.agg [.int .i64 (tk L n).k, .int .i64 (tk L n).f, .int .i64 (tk L n).t, .str (tk L n).s, .str (tk L n).n, .bool (tk L n).w], [.cells [.sl (toks L) .no, .int .i64 a, errV k]]) := by
  rw [e_Z3]
  by_cases h : (L.length : Int) ≤ n
  · rw [tk_out h]
    simp +contextual -implicitDefEqProofs (disch := first | assumption | omega | (simp -implicitDefEqProofs only [go_sem]; try omega)) only [↓reduceIte, go_sem, iP, iN, w64, w8, w32, s_Z3, h, tkZ]
  · simp +contextual -implicitDefEqProofs (disch := first | assumption | omega | (simp -implicitDefEqProofs only [go_sem]; try omega)) only [↓reduceIte, go_sem, iP, iN, w64, w8, w32, s_Z3, h]
theorem d_look (n : Int) (hn : 0 ≤ n) (τ : Objs) (hτ : FrW 1 τ) : E cx 41 [.ptr 0 0, .int .i64 n] (.cells [.sl (toks L) .no, .int .i64 a, errV k] :: τ) = some (.agg [.int .i64 (tk L n).k, .int .i64 (tk L n).f, .int .i64 (tk L n).t, .str (tk L n).s, .str (tk L n).n, .bool (tk L n).w], .cells [.sl (toks L) .no, .int .i64 a, errV k] :: τ) :=
  E_on (d_look1 hL a k n hn) rfl (rdC_rb L a k) (rdC_rb L a k) rfl τ hτ
theorem d_askip0 : ∀ (f : Nat) (i : Int), (L.length : Int) - i < f → 0 ≤ i ∧ i ≤ 2000000000 →
    l_Z5_0 (Mi cx) 1 1 [.ptr 0 0, .int .i64 i] [.cells [.sl (toks L) .no, .int .i64 a, errV k]] = some (.int .i64 (skF L f i), [.cells [.sl (toks L) .no, .int .i64 a, errV k]])
  | 0, i, hf, hi => by
    have h1 := fun τ hτ => d_look hL a k i hi.1 τ hτ
    have h2 : tk L i = tkZ := tk_out (by omega)
    rw [h2] at h1
    simp only [tkZ] at h1
    rw [u_Z5_0]
    simp +contextual -implicitDefEqProofs (disch := first | assumption | omega | (simp -implicitDefEqProofs only [go_sem]; try omega)) only [↓reduceIte, go_sem, iP, iN, w64, w8, w32, b_Z5_0, h1, skF]
  | f + 1, i, hf, hi => by
    have hl2 := hL.1
    have h1 := fun τ hτ => d_look hL a k i hi.1 τ hτ
    have hlt : (tk L i).k = 13 → i < L.length := fun h => tk_k (by omega)
    unfold skF
    generalize tk L i = t at h1 hlt ⊢
    rw [u_Z5_0]
    by_cases hk : t.k = 13
    · have hl := hlt hk
      have ih := d_askip0 f (i + 1) (by omega) (by omega)
      simp +contextual -implicitDefEqProofs (disch := first | assumption | omega | (simp -implicitDefEqProofs only [go_sem]; try omega)) only [↓reduceIte, go_sem, iP, iN, w64, w8, w32, b_Z5_0, h1, hk, ih]
    · simp +contextual -implicitDefEqProofs (disch := first | assumption | omega | (simp -implicitDefEqProofs only [go_sem]; try omega)) only [↓reduceIte, go_sem, iP, iN, w64, w8, w32, b_Z5_0, h1, hk]
theorem d_askip (i : Int) (hi : 0 ≤ i ∧ i ≤ 2000000000) (τ : Objs) (hτ : FrW 1 τ) : E cx 25 [.ptr 0 0, .int .i64 i] (.cells [.sl (toks L) .no, .int .i64 a, errV k] :: τ) = some (.int .i64 (skS L i), .cells [.sl (toks L) .no, .int .i64 a, errV k] :: τ) := by
  refine E_on (cs := [.sl (toks L) .no, .int .i64 a, errV k]) (cs' := [.sl (toks L) .no, .int .i64 a, errV k]) ?_ rfl (rdC_rb L a k) (rdC_rb L a k) rfl τ hτ
  have h := d_askip0 hL a k (L.length + 1) i (by omega) hi
  rw [e_Z5]
  simp +contextual -implicitDefEqProofs (disch := first | assumption | omega | (simp -implicitDefEqProofs only [go_sem]; try omega)) only [↓reduceIte, go_sem, iP, iN, w64, w8, w32, s_Z5, h, skS]
theorem d_awhole (s : List UInt8) (hs : s.length ≤ 100000000000) (τ : Objs) (hτ : FrW 1 τ) : E cx 43 [.ptr 0 0, .str s] (.cells [.sl (toks L) .no, .int .i64 a, errV k] :: τ) = some (.int .i64 (wS s).1, .cells [.sl (toks L) .no, .int .i64 a, errV (comb k (wS s).2)] :: τ) := by
  refine E_on (cs := [.sl (toks L) .no, .int .i64 a, errV k]) (cs' := [.sl (toks L) .no, .int .i64 a, errV (comb k (wS s).2)]) ?_ rfl (rdC_rb L a k) (rdC_rb L a _) rfl τ hτ
  have h1 := fun σ hσ => d_pWhole s (by omega) σ hσ
  rw [e_Z7]
  generalize (wS s) = x at h1 ⊢
  unfold comb
  by_cases c1 : x.2 = 0
  · by_cases c2 : k = 0
    · rw [if_pos c2, c2, c1]
      rw [c1] at h1
      simp +contextual -implicitDefEqProofs (disch := first | assumption | omega | (simp -implicitDefEqProofs only [go_sem]; try omega)) only [↓reduceIte, go_sem, iP, iN, w64, w8, w32, s_Z7, j_Z7_0, h1]
    · rw [if_neg c2]
      simp +contextual -implicitDefEqProofs (disch := first | assumption | omega | (simp -implicitDefEqProofs only [go_sem]; try omega)) only [↓reduceIte, go_sem, iP, iN, w64, w8, w32, s_Z7, j_Z7_0, h1, c1, c2]
  · by_cases c2 : k = 0
    · rw [if_pos c2, c2]
      simp +contextual -implicitDefEqProofs (disch := first | assumption | omega | (simp -implicitDefEqProofs only [go_sem]; try omega)) only [↓reduceIte, go_sem, iP, iN, w64, w8, w32, s_Z7, j_Z7_0, h1, c1, List.set_cons_succ, List.set_cons_zero]
    · rw [if_neg c2]
      simp +contextual -implicitDefEqProofs (disch := first | assumption | omega | (simp -implicitDefEqProofs only [go_sem]; try omega)) only [↓reduceIte, go_sem, iP, iN, w64, w8, w32, s_Z7, j_Z7_0, h1, c1, c2]
theorem d_anum (i : Int) (hi : 0 ≤ i) (s : Bool) (τ : Objs) (hτ : FrW 1 τ) : E cx 48 [.ptr 0 0, .int .i64 i, .bool s] (.cells [.sl (toks L) .no, .int .i64 a, errV k] :: τ) = some (.bool (numT L i s), .cells [.sl (toks L) .no, .int .i64 a, errV k] :: τ) := by
  refine E_on (cs := [.sl (toks L) .no, .int .i64 a, errV k]) (cs' := [.sl (toks L) .no, .int .i64 a, errV k]) ?_ rfl (rdC_rb L a k) (rdC_rb L a k) rfl τ hτ
  have h1 := fun τ hτ => d_look hL a k i hi τ hτ
  rw [e_Z4]
  unfold numT
  generalize tk L i = t at h1 ⊢
  by_cases hk : t.k = 10
  · cases hw : t.w with
    | true =>
      by_cases hn : t.n = []
      · simp +contextual -implicitDefEqProofs (disch := first | assumption | omega | (simp -implicitDefEqProofs only [go_sem]; try omega)) only [↓reduceIte, go_sem, iP, iN, w64, w8, w32, s_Z4, h1, hk, hw, hn, Bool.true_and, decide_true, ne_eq, not_true_eq_false, decide_false, Bool.false_and]
      · have hn2 : 0 < t.n.length := List.length_pos_iff.2 hn
        rw [decide_eq_true hk, decide_eq_true hn, Bool.true_and, Bool.true_and]
        unfold sgT
        by_cases g1 : ((t.n.getD 0 0).toNat : Int) = 43
        · simp +contextual -implicitDefEqProofs (disch := first | assumption | omega | (simp -implicitDefEqProofs only [go_sem]; try omega)) only [↓reduceIte, go_sem, iP, iN, w64, w8, w32, s_Z4, h1, hk, hw, hn, g1]
          cases s <;> rfl
        · by_cases g2 : ((t.n.getD 0 0).toNat : Int) = 45
          · simp +contextual -implicitDefEqProofs (disch := first | assumption | omega | (simp -implicitDefEqProofs only [go_sem]; try omega)) only [↓reduceIte, go_sem, iP, iN, w64, w8, w32, s_Z4, h1, hk, hw, hn, g1, g2]
            cases s <;> rfl
          · simp +contextual -implicitDefEqProofs (disch := first | assumption | omega | (simp -implicitDefEqProofs only [go_sem]; try omega)) only [↓reduceIte, go_sem, iP, iN, w64, w8, w32, s_Z4, h1, hk, hw, hn, g1, g2]
            cases s <;> rfl
    | false => simp +contextual -implicitDefEqProofs (disch := first | assumption | omega | (simp -implicitDefEqProofs only [go_sem]; try omega)) only [↓reduceIte, go_sem, iP, iN, w64, w8, w32, s_Z4, h1, hk, hw, Bool.true_and, Bool.false_and, Bool.and_false]
  · simp +contextual -implicitDefEqProofs (disch := first | assumption | omega | (simp -implicitDefEqProofs only [go_sem]; try omega)) only [↓reduceIte, go_sem, iP, iN, w64, w8, w32, s_Z4, h1, hk, Bool.false_and, decide_false]
end
end Go.Proofs.YtkgkmlhljeidhaaGreatDoor
set_option linter.unusedSimpArgs false
set_option linter.unusedVariables false
set_option linter.unusedSectionVars false
namespace Go.Proofs.YtkgkmlhljeidhaaGreatDoor
open Go.Ev
set_option maxRecDepth 100000
set_option maxHeartbeats 8000000
theorem comb_0 {k : Int} : comb k 0 = k := by
  unfold comb
  by_cases h : k = 0
  · rw [if_pos h, h]
  · rw [if_neg h]
def cutN (p name : List UInt8) : List UInt8 × Bool := (if preB name p then name.drop p.length else name, preB name p)
def headA (L : List Tok) (i : Int) : Int × (List UInt8 × Bool) × Int × Int :=
  if (tk L i).k = 9 ∧ (tk L i).s = [43] ∧ (tk L (i + 1)).k = 1 then (1, cutN [110] (lowS (tk L (i + 1)).s), i + 2, 0)
  else if (tk L i).k = 1 then (if preB (lowS (tk L i).s) [45] = true then (-1, cutN [45, 110] (lowS (tk L i).s), i + 1, 0) else (1, cutN [110] (lowS (tk L i).s), i + 1, 0))
  else if (tk L i).k = 12 then (if (tk L i).w = true then (if preB (lowS (tk L i).s) [110] = true then ((wS (tk L i).n).1, cutN [110] (lowS (tk L i).s), i + 1, (wS (tk L i).n).2) else (0, cutN [110] (lowS (tk L i).s), i + 1, 0)) else (0, ([], false), i + 1, 0))
  else (0, ([], false), i + 1, 0)
def tailA (L : List Tok) (a : Int) : Int × Int × Int :=
  if numT L (skS L a) true = true then ((wS (tk L (skS L a)).n).1, skS L a + 1, (wS (tk L (skS L a)).n).2)
  else if (tk L (skS L a)).k = 9 ∧ ((tk L (skS L a)).s = [43] ∨ (tk L (skS L a)).s = [45]) ∧ numT L (skS L (skS L a + 1)) false = true then
    ((wS ((tk L (skS L a)).s ++ (tk L (skS L (skS L a + 1))).n)).1, skS L (skS L a + 1) + 1, (wS ((tk L (skS L a)).s ++ (tk L (skS L (skS L a + 1))).n)).2)
  else (0, a, 0)
def whB (s : List UInt8) (a : Int) : (Int × Bool) × Int × Int := if (wS s).2 = 0 ∨ (wS s).2 = 3 then (((wS s).1, true), a, (wS s).2) else ((0, false), a, 0)
def behA (L : List Tok) (r : List UInt8) (a : Int) : (Int × Bool) × Int × Int :=
  if r = [] then (((tailA L a).1, true), (tailA L a).2.1, (tailA L a).2.2)
  else if r = [45] then (if numT L (skS L a) false = true then whB (45 :: (tk L (skS L a)).n) (skS L a + 1) else ((0, false), a, 0))
  else if ((r.getD 0 0).toNat : Int) = 45 then (if digitB ((r.getD 1 0).toNat : Int) = true then whB r a else ((0, false), a, 0))
  else ((0, false), a, 0)
def fixA (t : Tok) : Option (Int × Int × Int) :=
  if t.k = 1 ∧ lowS t.s = [101, 118, 101, 110] then some (2, 0, 0)
  else if t.k = 1 ∧ lowS t.s = [111, 100, 100] then some (2, 1, 0)
  else if t.k = 10 ∧ t.w = true then some (0, (wS t.n).1, (wS t.n).2) else none
theorem d_over (k : Int) (hk : k ≠ 0) (σ : Objs) (hσ : Wf σ) : E cx 49 [errV k] σ = some (.bool (decide (k = 3)), σ) := by
  have hp : E cx 35 [errV k, .ifc 38 (.int .i64 3)] σ = some (.bool (decide (k = 3)), σ) := by
    rw [E_prim (C := cx) (h := isP) (by kernel_rfl)]
    have e : errV k = failV k 0 := if_neg hk
    rw [e]
    by_cases h : k = 3
    · subst h; rfl
    · have : (3 : Int) ∈ [k] ↔ False := by simp; omega
      show some (V.bool (decide (3 ∈ [k])), σ) = _
      simp only [this, decide_false, h]
  rw [e_Zf]
  simp +contextual -implicitDefEqProofs (disch := first | assumption | omega | (simp -implicitDefEqProofs only [go_sem]; try omega)) only [↓reduceIte, go_sem, iP, iN, w64, w8, w32, s_Zf, hp]
section
variable {L : List Tok} (hL : Toks L) (a k : Int)
include hL
theorem d_afix (ha : 0 ≤ a ∧ a ≤ 2000000000) : E cx 26 [.ptr 0 0] [.cells [.sl (toks L) .no, .int .i64 a, errV k]] =
    match fixA (tk L a) with
    | some (x, y, e) => some (.tup [.int .i64 x, .int .i64 y, .bool true], [.cells [.sl (toks L) .no, .int .i64 (a + 1), errV (comb k e)]])
    | none => some (.tup [.int .i64 0, .int .i64 0, .bool false], [.cells [.sl (toks L) .no, .int .i64 a, errV k]]) := by
  have h0 := hL.get a
  have h1 := fun τ hτ => d_look hL a k a (by omega) τ hτ
  have hev : lowS [101, 118, 101, 110] = [101, 118, 101, 110] := by decide
  have hod : lowS [111, 100, 100] = [111, 100, 100] := by decide
  rw [e_Z1]
  generalize tk L a = t at h0 h1 ⊢
  have h2 := fun σ hσ => d_Same t.s [101, 118, 101, 110] (by omega) (by simp) σ hσ
  have h3 := fun σ hσ => d_Same t.s [111, 100, 100] (by omega) (by simp) σ hσ
  have h4 := fun τ hτ => d_awhole hL a k t.n (by omega) τ hτ
  rw [hev] at h2
  rw [hod] at h3
  unfold fixA
  have hne : (([111, 100, 100] : List UInt8) = [101, 118, 101, 110]) = False := by decide
  by_cases c1 : t.k = 1
  · by_cases c2 : lowS t.s = [101, 118, 101, 110]
    · simp +contextual -implicitDefEqProofs (disch := first | assumption | omega | (simp -implicitDefEqProofs only [go_sem]; try omega)) only [↓reduceIte, go_sem, iP, iN, w64, w8, w32, s_Z1, j_Z1_0, h1, h2, c1, c2, true_and, comb_0, List.set_cons_succ, List.set_cons_zero]
    · by_cases c3 : lowS t.s = [111, 100, 100]
      · simp +contextual -implicitDefEqProofs (disch := first | assumption | omega | (simp -implicitDefEqProofs only [go_sem]; try omega)) only [↓reduceIte, go_sem, iP, iN, w64, w8, w32, s_Z1, j_Z1_0, h1, h2, h3, c1, c3, hne, true_and, comb_0, List.set_cons_succ, List.set_cons_zero]
      · simp +contextual -implicitDefEqProofs (disch := first | assumption | omega | (simp -implicitDefEqProofs only [go_sem]; try omega)) only [↓reduceIte, go_sem, iP, iN, w64, w8, w32, s_Z1, j_Z1_0, h1, h2, h3, c1, c2, c3, true_and, false_and, and_false]
  · by_cases c2 : t.k = 10
    · cases c3 : t.w with
      | true => simp +contextual -implicitDefEqProofs (disch := first | assumption | omega | (simp -implicitDefEqProofs only [go_sem]; try omega)) only [↓reduceIte, go_sem, iP, iN, w64, w8, w32, s_Z1, j_Z1_0, h1, h4, c1, c2, c3, true_and, false_and, and_false, List.set_cons_succ, List.set_cons_zero]
      | false => simp +contextual -implicitDefEqProofs (disch := first | assumption | omega | (simp -implicitDefEqProofs only [go_sem]; try omega)) only [↓reduceIte, go_sem, iP, iN, w64, w8, w32, s_Z1, j_Z1_0, h1, h4, c1, c2, c3, true_and, false_and, and_false, Bool.false_eq_true]
    · simp +contextual -implicitDefEqProofs (disch := first | assumption | omega | (simp -implicitDefEqProofs only [go_sem]; try omega)) only [↓reduceIte, go_sem, iP, iN, w64, w8, w32, s_Z1, j_Z1_0, h1, c1, c2, true_and, false_and]
end
end Go.Proofs.YtkgkmlhljeidhaaGreatDoor
set_option linter.unusedSimpArgs false
set_option linter.unusedVariables false
set_option linter.unusedSectionVars false
namespace Go.Ev
theorem lockS_p {ag : Bool} {sz o off : Nat} {σ : Objs} : lockS [rdLoad ag sz (.ptr o off)] σ = some σ := rfl
theorem openS_p1 {off : Nat} {cs : List V} {P Q : O} {τ τ' : Objs} {s : List UInt8} (h : cs[off]? = some (.str s)) : openS [rdLoad false 1 (.ptr 1 off)] (P :: .cells cs :: τ) (Q :: .cells cs :: τ') = some (Q :: .cells cs :: τ') := by
  show (if (stable (P :: .cells cs :: τ) (Q :: .cells cs :: τ') (.same false 1 off 1) && true) = true then some (Q :: .cells cs :: τ') else none) = _
  have e : stable (P :: .cells cs :: τ) (Q :: .cells cs :: τ') (.same false 1 off 1) = true := by
    show (decide (cs.length = cs.length) && V.beqs (((cs.drop off).take 1).map V.ng) (((cs.drop off).take 1).map V.ng)) = true
    have e1 : (cs.drop off).take 1 = [.str s] := by
      rw [List.take_one, List.head?_drop, h]; rfl
    rw [e1, decide_eq_true rfl]
    simp [V.ng, V.beqs, V.beq]
  rw [e]; rfl
attribute [go_sem] lockS_p
end Go.Ev
namespace Go.Proofs.YtkgkmlhljeidhaaGreatDoor
open Go.Ev
set_option maxRecDepth 100000
set_option maxHeartbeats 8000000
section
variable {L : List Tok} (hL : Toks L) (a k : Int)
include hL
theorem d_ahd (x to : Int) (r : List UInt8) (ok : Bool) (hto : 0 ≤ to ∧ to ≤ 2000000000) (cs : List V) :
    j_Z2_0 (Mi cx) 1 (.ptr 0 0) (.int .i64 x) (.str r) (.bool ok) [.cells [.sl (toks L) .no, .int .i64 to, errV k], .cells cs] = some (.tup [.int .i64 x, .str r, .bool ok], [.cells [.sl (toks L) .no, .int .i64 (to + 1), errV k]]) := by
  simp +contextual -implicitDefEqProofs (disch := first | assumption | omega | (simp -implicitDefEqProofs only [go_sem]; try omega)) only [↓reduceIte, go_sem, iP, iN, w64, w8, w32, j_Z2_0, List.set_cons_succ, List.set_cons_zero]
theorem d_ahead (ha : 0 ≤ a ∧ a ≤ 1000000000) : E cx 27 [.ptr 0 0] [.cells [.sl (toks L) .no, .int .i64 a, errV k]] =
    some (.tup [.int .i64 (headA L a).1, .str (headA L a).2.1.1, .bool (headA L a).2.1.2], [.cells [.sl (toks L) .no, .int .i64 (headA L a).2.2.1, errV (comb k (headA L a).2.2.2)]]) := by
  have h0 := hL.get a
  have h0' := hL.get (a + 1)
  have h1 := fun τ hτ => d_look hL a k a (by omega) τ hτ
  have h2 := fun τ hτ => d_look hL a k (a + 1) (by omega) τ hτ
  have h2' := fun τ hτ => d_look hL (a + 1) k (a + 1) (by omega) τ hτ
  have r1 := fun k x r ok cs => d_ahd hL k x a r ok (by omega) cs
  have r2 := fun k x r ok cs => d_ahd hL k x (a + 1) r ok (by omega) cs
  have ea : a + 1 + 1 = a + 2 := by omega
  rw [ea] at r2
  rw [e_Z2]
  unfold headA
  generalize tk L (a + 1) = u at h0' h2 h2' ⊢
  generalize tk L a = t at h0 h1 ⊢
  have l1 := lowS_len t.s
  have l2 := lowS_len u.s
  have g1 := fun σ hσ => d_cLower t.s (by omega) σ hσ
  have g2 := fun σ hσ => d_cLower u.s (by omega) σ hσ
  have g3 := fun p hp σ hσ => d_CutPrefix (lowS t.s) p (by omega) hp σ hσ
  have g3a := fun σ hσ => g3 [110] (by simp) σ hσ
  have g3b := fun σ hσ => g3 [45, 110] (by simp) σ hσ
  have g4 := fun σ hσ => d_CutPrefix (lowS u.s) [110] (by omega) (by simp) σ hσ
  have g5 := fun σ hσ => d_HasPrefix (lowS t.s) [45] (by omega) (by simp) σ hσ
  have g6 := fun τ hτ => d_awhole hL a k t.n (by omega) τ hτ
  by_cases c1 : t.k = 9
  · by_cases c2 : t.s = [43]
    · rw [c2] at g1
      by_cases c3 : u.k = 1
      · simp +contextual -implicitDefEqProofs (disch := first | assumption | omega | (simp -implicitDefEqProofs only [go_sem]; try omega)) only [↓reduceIte, go_sem, iP, iN, w64, w8, w32, s_Z2, h1, h2, h2', c1, c2, c3, g1, g2, g4, r2, true_and, comb_0, cutN, List.set_cons_succ, List.set_cons_zero]
      · simp +contextual -implicitDefEqProofs (disch := first | assumption | omega | (simp -implicitDefEqProofs only [go_sem]; try omega)) only [↓reduceIte, go_sem, iP, iN, w64, w8, w32, s_Z2, h1, h2, h2', c1, c2, c3, g1, r1, true_and, and_false, false_and, comb_0]
    · simp +contextual -implicitDefEqProofs (disch := first | assumption | omega | (simp -implicitDefEqProofs only [go_sem]; try omega)) only [↓reduceIte, go_sem, iP, iN, w64, w8, w32, s_Z2, h1, c1, c2, g1, r1, true_and, and_false, false_and, comb_0]
  · by_cases c2 : t.k = 1
    · cases c3 : preB (lowS t.s) [45] with
      | true =>
        rw [c3] at g5
        simp +contextual -implicitDefEqProofs (disch := first | assumption | omega | (simp -implicitDefEqProofs only [go_sem]; try omega)) only [↓reduceIte, go_sem, iP, iN, w64, w8, w32, s_Z2, h1, c1, c2, g1, g3b, g5, r1, false_and, comb_0, cutN]
      | false =>
        rw [c3] at g5
        simp +contextual -implicitDefEqProofs (disch := first | assumption | omega | (simp -implicitDefEqProofs only [go_sem]; try omega)) only [↓reduceIte, go_sem, iP, iN, w64, w8, w32, s_Z2, h1, c1, c2, g1, g3a, g5, r1, false_and, comb_0, cutN, Bool.false_eq_true]
    · by_cases c3 : t.k = 12
      · cases c4 : t.w with
        | true =>
          cases c5 : preB (lowS t.s) [110] with
          | true =>
            rw [c5] at g3a
            simp +contextual -implicitDefEqProofs (disch := first | assumption | omega | (simp -implicitDefEqProofs only [go_sem]; try omega)) only [↓reduceIte, go_sem, iP, iN, w64, w8, w32, s_Z2, h1, c1, c2, c3, c4, g1, g3a, g6, r1, false_and, comb_0, cutN, c5]
          | false =>
            rw [c5] at g3a
            simp +contextual -implicitDefEqProofs (disch := first | assumption | omega | (simp -implicitDefEqProofs only [go_sem]; try omega)) only [↓reduceIte, go_sem, iP, iN, w64, w8, w32, s_Z2, h1, c1, c2, c3, c4, g1, g3a, g6, r1, false_and, comb_0, cutN, c5, Bool.false_eq_true]
        | false => simp +contextual -implicitDefEqProofs (disch := first | assumption | omega | (simp -implicitDefEqProofs only [go_sem]; try omega)) only [↓reduceIte, go_sem, iP, iN, w64, w8, w32, s_Z2, h1, c1, c2, c3, c4, g1, r1, false_and, comb_0, Bool.false_eq_true]
      · simp +contextual -implicitDefEqProofs (disch := first | assumption | omega | (simp -implicitDefEqProofs only [go_sem]; try omega)) only [↓reduceIte, go_sem, iP, iN, w64, w8, w32, s_Z2, h1, c1, c2, c3, g1, r1, false_and, comb_0]
theorem d_atail (ha : 0 ≤ a ∧ a ≤ (L.length : Int) + 1) : E cx 47 [.ptr 0 0] [.cells [.sl (toks L) .no, .int .i64 a, errV k]] =
    some (.int .i64 (tailA L a).1, [.cells [.sl (toks L) .no, .int .i64 (tailA L a).2.1, errV (comb k (tailA L a).2.2)]]) := by
  have hl := hL.1
  have k1 := skS_le L a
  have h1 := fun τ hτ => d_askip hL a k a (by omega) τ hτ
  rw [e_Z6]
  unfold tailA
  generalize skS L a = i at k1 h1 ⊢
  have k2 := skS_le L (i + 1)
  have h2 := fun τ hτ => d_askip hL a k (i + 1) (by omega) τ hτ
  have h3 := fun s τ hτ => d_anum hL a k i (by omega) s τ hτ
  have hlt1 : numT L i true = true → i < L.length := numT_lt
  have h4 := fun a τ hτ => d_look hL a k i (by omega) τ hτ
  generalize skS L (i + 1) = j at k2 h2 ⊢
  have h5 := fun s τ hτ => d_anum hL a k j (by omega) s τ hτ
  have hlt2 : numT L j false = true → j < L.length := numT_lt
  have h6 := fun a τ hτ => d_look hL a k j (by omega) τ hτ
  have h7 := hL.get i
  have h8 := hL.get j
  generalize tk L i = t at h4 h7 ⊢
  generalize tk L j = u at h6 h8 ⊢
  have p2 : ∀ c : UInt8, eB .add .no (.str [c]) (.str u.n) = some (.str (c :: u.n)) := fun c => bs_add (by unfold strMax; simp only [List.length_cons, List.length_nil]; omega)
  have ho : ∀ (x : List UInt8) (P Q : O) (τ τ' : Objs), openS [rdLoad false 1 (.ptr 1 3)] (P :: .cells [.int .i64 9, .int .i64 t.f, .int .i64 t.t, .str x, .str t.n, .bool t.w] :: τ) (Q :: .cells [.int .i64 9, .int .i64 t.f, .int .i64 t.t, .str x, .str t.n, .bool t.w] :: τ') = some (Q :: .cells [.int .i64 9, .int .i64 t.f, .int .i64 t.t, .str x, .str t.n, .bool t.w] :: τ') := fun x P Q τ τ' => openS_p1 (s := x) rfl
  cases n1 : numT L i true with
  | true =>
    have := hlt1 n1
    have h9 := fun τ hτ => d_awhole hL (i + 1) k t.n (by omega) τ hτ
    simp +contextual -implicitDefEqProofs (disch := first | assumption | omega | (simp -implicitDefEqProofs only [go_sem]; try omega)) only [↓reduceIte, go_sem, iP, iN, w64, w8, w32, s_Z6, h1, h3, h4, n1, h9, List.set_cons_succ, List.set_cons_zero]
  | false =>
    by_cases c1 : t.k = 9
    · by_cases c2 : t.s = [43]
      · cases n2 : numT L j false with
        | true =>
          have := hlt2 n2
          have h9 := fun τ hτ => d_awhole hL (j + 1) k (43 :: u.n) (by rw [List.length_cons]; omega) τ hτ
          simp +contextual -implicitDefEqProofs (disch := first | assumption | omega | (simp -implicitDefEqProofs only [go_sem]; try omega)) only [↓reduceIte, go_sem, iP, iN, w64, w8, w32, s_Z6, h1, h2, h3, h4, h5, h6, n1, n2, h9, p2, ho, c1, c2, true_and, true_or, Bool.false_eq_true, List.set_cons_succ, List.set_cons_zero, List.cons_append, List.nil_append]
        | false => simp +contextual -implicitDefEqProofs (disch := first | assumption | omega | (simp -implicitDefEqProofs only [go_sem]; try omega)) only [↓reduceIte, go_sem, iP, iN, w64, w8, w32, s_Z6, h1, h2, h3, h4, h5, n1, n2, c1, c2, true_and, true_or, Bool.false_eq_true, and_false, comb_0]
      · by_cases c3 : t.s = [45]
        · have hne : (([45] : List UInt8) = [43]) = False := by decide
          cases n2 : numT L j false with
          | true =>
            have := hlt2 n2
            have h9 := fun τ hτ => d_awhole hL (j + 1) k (45 :: u.n) (by rw [List.length_cons]; omega) τ hτ
            simp +contextual -implicitDefEqProofs (disch := first | assumption | omega | (simp -implicitDefEqProofs only [go_sem]; try omega)) only [↓reduceIte, go_sem, iP, iN, w64, w8, w32, s_Z6, h1, h2, h3, h4, h5, h6, n1, n2, h9, p2, ho, c1, c3, hne, true_and, or_true, Bool.false_eq_true, List.set_cons_succ, List.set_cons_zero, List.cons_append, List.nil_append]
          | false => simp +contextual -implicitDefEqProofs (disch := first | assumption | omega | (simp -implicitDefEqProofs only [go_sem]; try omega)) only [↓reduceIte, go_sem, iP, iN, w64, w8, w32, s_Z6, h1, h2, h3, h4, h5, n1, n2, c1, c3, hne, true_and, or_true, Bool.false_eq_true, and_false, comb_0]
        · simp +contextual -implicitDefEqProofs (disch := first | assumption | omega | (simp -implicitDefEqProofs only [go_sem]; try omega)) only [↓reduceIte, go_sem, iP, iN, w64, w8, w32, s_Z6, h1, h3, h4, n1, c1, c2, c3, true_and, or_false, false_and, and_false, Bool.false_eq_true, comb_0]
    · simp +contextual -implicitDefEqProofs (disch := first | assumption | omega | (simp -implicitDefEqProofs only [go_sem]; try omega)) only [↓reduceIte, go_sem, iP, iN, w64, w8, w32, s_Z6, h1, h3, h4, n1, c1, false_and, Bool.false_eq_true, comb_0]
end
end Go.Proofs.YtkgkmlhljeidhaaGreatDoor
set_option linter.unusedSimpArgs false
set_option linter.unusedVariables false
set_option linter.unusedSectionVars false
namespace Go.Proofs.YtkgkmlhljeidhaaGreatDoor
open Go.Ev
set_option maxRecDepth 100000
set_option maxHeartbeats 8000000
def finA (a b n e : Int) (ok : Bool) : Int × Int × Int × Int := if ok then (if e = 0 then (a, b, n, 0) else (0, 0, 0, e)) else (0, 0, 0, 10)
def behF (L : List Tok) (h : Int × (List UInt8 × Bool) × Int × Int) : Int × Int × Int × Int :=
  if h.2.1.2 = true then finA h.1 (behA L h.2.1.1 h.2.2.1).1.1 (behA L h.2.1.1 h.2.2.1).2.1 (comb h.2.2.2 (behA L h.2.1.1 h.2.2.1).2.2) (behA L h.2.1.1 h.2.2.1).1.2
  else (0, 0, 0, 10)
def parA (L : List Tok) : Int × Int × Int × Int :=
  match fixA (tk L (skS L 0)) with
  | some (x, y, e) => finA x y (skS L 0 + 1) e true
  | none => behF L (headA L (skS L 0))
def parE (x : Int × Int × Int × Int) : V := .tup [.int .i64 x.1, .int .i64 x.2.1, .int .i64 x.2.2.1, errV x.2.2.2]
theorem behA_r {L : List Tok} {r : List UInt8} {a : Int} (hr : r ≠ []) (hr2 : r ≠ [45]) (h : ((r.getD 0 0).toNat : Int) = 45) : 1 < r.length := by
  match r, hr, hr2, h with
  | [x], _, h2, h =>
    exfalso
    apply h2
    have h' : (x.toNat : Int) = 45 := h
    have : x = 45 := UInt8.toNat_inj.1 (by show x.toNat = 45; omega)
    rw [this]
  | x :: y :: z, _, _, _ => simp
section
variable {L : List Tok} (hL : Toks L) (a k : Int)
include hL
theorem d_abeh0 (s : List UInt8) (hs : s.length ≤ 100000000000) : j_Z0_0 (Mi cx) 1 (.ptr 0 0) (.str s) [.cells [.sl (toks L) .no, .int .i64 a, errV k]] =
    some (.tup [.int .i64 (whB s a).1.1, .bool (whB s a).1.2], [.cells [.sl (toks L) .no, .int .i64 (whB s a).2.1, errV (comb k (whB s a).2.2)]]) := by
  have h1 := fun σ hσ => d_pWhole s (by omega) σ hσ
  have h2 := fun τ hτ => d_awhole hL a k s hs τ hτ
  unfold whB
  generalize wS s = x at h1 h2 ⊢
  by_cases c1 : x.2 = 0
  · rw [c1] at h1 h2
    simp +contextual -implicitDefEqProofs (disch := first | assumption | omega | (simp -implicitDefEqProofs only [go_sem]; try omega)) only [↓reduceIte, go_sem, iP, iN, w64, w8, w32, j_Z0_0, h1, h2, c1, true_or, comb_0]
  · have h3 := fun σ hσ => d_over x.2 c1 σ hσ
    by_cases c2 : x.2 = 3
    · rw [c2] at h1 h2 h3
      simp +contextual -implicitDefEqProofs (disch := first | assumption | omega | (simp -implicitDefEqProofs only [go_sem]; try omega)) only [↓reduceIte, go_sem, iP, iN, w64, w8, w32, j_Z0_0, h1, h2, h3, c2, or_true]
    · simp +contextual -implicitDefEqProofs (disch := first | assumption | omega | (simp -implicitDefEqProofs only [go_sem]; try omega)) only [↓reduceIte, go_sem, iP, iN, w64, w8, w32, j_Z0_0, h1, h2, h3, c1, c2, or_false, comb_0]
theorem d_abehind (r : List UInt8) (hr : r.length ≤ 10000000000) (ha : 0 ≤ a ∧ a ≤ (L.length : Int) + 1) : E cx 28 [.ptr 0 0, .str r] [.cells [.sl (toks L) .no, .int .i64 a, errV k]] =
    some (.tup [.int .i64 (behA L r a).1.1, .bool (behA L r a).1.2], [.cells [.sl (toks L) .no, .int .i64 (behA L r a).2.1, errV (comb k (behA L r a).2.2)]]) := by
  have hl := hL.1
  rw [e_Z0]
  unfold behA
  by_cases c1 : r = []
  · subst c1
    have h1 := d_atail hL a k ha
    simp +contextual -implicitDefEqProofs (disch := first | assumption | omega | (simp -implicitDefEqProofs only [go_sem]; try omega)) only [↓reduceIte, go_sem, iP, iN, w64, w8, w32, s_Z0, h1]
  · by_cases c2 : r = [45]
    · subst c2
      have k1 := skS_le L a
      have h1 := fun τ hτ => d_askip hL a k a (by omega) τ hτ
      generalize skS L a = i at k1 h1 ⊢
      have h3 := fun s τ hτ => d_anum hL a k i (by omega) s τ hτ
      have hlt1 : numT L i false = true → i < L.length := numT_lt
      have h4 := fun τ hτ => d_look hL (i + 1) k i (by omega) τ hτ
      have h7 := hL.get i
      generalize tk L i = t at h4 h7 ⊢
      have p1 : ∀ c : UInt8, eB .add .no (.str [c]) (.str t.n) = some (.str (c :: t.n)) := fun c => bs_add (by unfold strMax; simp only [List.length_cons, List.length_nil]; omega)
      have h8 := d_abeh0 hL (i + 1) k (45 :: t.n) (by rw [List.length_cons]; omega)
      cases n1 : numT L i false with
      | true =>
        have := hlt1 n1
        simp +contextual -implicitDefEqProofs (disch := first | assumption | omega | (simp -implicitDefEqProofs only [go_sem]; try omega)) only [↓reduceIte, go_sem, iP, iN, w64, w8, w32, s_Z0, h1, h3, h4, h8, n1, p1, c1, List.set_cons_succ, List.set_cons_zero]
      | false => simp +contextual -implicitDefEqProofs (disch := first | assumption | omega | (simp -implicitDefEqProofs only [go_sem]; try omega)) only [↓reduceIte, go_sem, iP, iN, w64, w8, w32, s_Z0, h1, h3, n1, c1, Bool.false_eq_true, comb_0]
    · have hr0 : 0 < r.length := List.length_pos_iff.2 c1
      by_cases c3 : ((r.getD 0 0).toNat : Int) = 45
      · have hr1 := behA_r (L := L) (a := a) c1 c2 c3
        have h8 := d_abeh0 hL a k r (by omega)
        have h9 := fun σ hσ => d_cDigit ((r.getD 1 0).toNat : Int) σ hσ
        have hb := UInt8.toNat_lt (r.getD 1 0)
        have ix : evIdx (.int .i64 1) (.str r) = some (.int .u8 (r.getD 1 0).toNat) := idx_str (by omega)
        unfold digitB
        cases c4 : (decide (48 ≤ ((r.getD 1 0).toNat : Int)) && decide (((r.getD 1 0).toNat : Int) ≤ 57)) with
        | true =>
          rw [c4] at h9
          simp +contextual -implicitDefEqProofs (disch := first | assumption | omega | (simp -implicitDefEqProofs only [go_sem]; try omega)) only [↓reduceIte, go_sem, iP, iN, w64, w8, w32, s_Z0, h8, h9, c1, c2, c3, ix]
        | false =>
          rw [c4] at h9
          simp +contextual -implicitDefEqProofs (disch := first | assumption | omega | (simp -implicitDefEqProofs only [go_sem]; try omega)) only [↓reduceIte, go_sem, iP, iN, w64, w8, w32, s_Z0, h9, c1, c2, c3, ix, Bool.false_eq_true, comb_0]
      · simp +contextual -implicitDefEqProofs (disch := first | assumption | omega | (simp -implicitDefEqProofs only [go_sem]; try omega)) only [↓reduceIte, go_sem, iP, iN, w64, w8, w32, s_Z0, c1, c2, c3, comb_0]
end
theorem headA_to (L : List Tok) (i : Int) (h : 0 ≤ i ∧ i ≤ L.length) : 0 ≤ (headA L i).2.2.1 ∧ (headA L i).2.2.1 ≤ (L.length : Int) + 1 := by
  unfold headA
  split
  · rename_i hc
    have := tk_k (L := L) (i := i + 1) (by omega)
    show 0 ≤ i + 2 ∧ i + 2 ≤ _; omega
  · repeat' split
    all_goals (show 0 ≤ i + 1 ∧ i + 1 ≤ _; omega)
theorem cutN_len (p name : List UInt8) : (cutN p name).1.length ≤ name.length := by
  unfold cutN
  show (if preB name p then name.drop p.length else name).length ≤ _
  split
  · rw [List.length_drop]; omega
  · exact Nat.le_refl _
theorem headA_len {L : List Tok} (hL : Toks L) (i : Int) : (headA L i).2.1.1.length ≤ 10000000000 := by
  have h1 := (hL.get i).1
  have h2 := (hL.get (i + 1)).1
  have l1 := lowS_len (tk L i).s
  have l2 := lowS_len (tk L (i + 1)).s
  have n1 := cutN_len [110] (lowS (tk L i).s)
  have n2 := cutN_len [45, 110] (lowS (tk L i).s)
  have n3 := cutN_len [110] (lowS (tk L (i + 1)).s)
  unfold headA
  repeat' split
  all_goals first | (show (cutN _ _).1.length ≤ _; omega) | (show ([] : List UInt8).length ≤ _; simp)
theorem d_aParse {L : List Tok} (hL : Toks L) (σ : Objs) (hσ : Wf σ) : E cx 13 [.sl (toks L) .no] σ = some (parE (parA L), σ) := by
  refine E_any cx_cl ?_ (by rw [rbs_cons, toks_rb]; rfl) (by unfold parE; simp only [V.rb, rbs_cons, errV_rb, rbs_nil]; rfl) σ hσ
  have hl := hL.1
  have k1 := skS_le L 0
  have e0 : errV 0 = .nili := rfl
  have h1 := fun τ hτ => d_askip hL 0 0 0 (by omega) τ hτ
  have h10 := fun σ hσ => d_Fail 10 0 σ hσ
  have e10 : failV 10 0 = errV 10 := rfl
  rw [e10] at h10
  have h2 := d_afix hL (skS L 0) 0 (by omega)
  have h3 := d_ahead hL (skS L 0) 0 (by omega)
  have h4 := d_abehind hL (headA L (skS L 0)).2.2.1 (headA L (skS L 0)).2.2.2 (headA L (skS L 0)).2.1.1 (headA_len hL _) (headA_to L _ (by omega))
  have ec : ∀ e, comb 0 e = e := fun e => if_pos rfl
  rw [ec] at h3
  rw [e_Za]
  unfold parA
  generalize skS L 0 = i at k1 h1 h2 h3 h4 ⊢
  rw [e0] at h1 h2 h3
  cases hf : fixA (tk L i) with
  | some x =>
    obtain ⟨x, y, e⟩ := x
    rw [hf] at h2
    simp only [ec] at h2
    unfold finA
    by_cases he : e = 0
    · rw [he, e0] at h2
      simp +contextual -implicitDefEqProofs (disch := first | assumption | omega | (simp -implicitDefEqProofs only [go_sem]; try omega)) only [↓reduceIte, go_sem, iP, iN, w64, w8, w32, s_Za, j_Za_0, h1, h2, he, parE, e0, List.set_cons_succ, List.set_cons_zero]
    · simp +contextual -implicitDefEqProofs (disch := first | assumption | omega | (simp -implicitDefEqProofs only [go_sem]; try omega)) only [↓reduceIte, go_sem, iP, iN, w64, w8, w32, s_Za, j_Za_0, h1, h2, he, parE, List.set_cons_succ, List.set_cons_zero]
  | none =>
    rw [hf] at h2
    simp only [e0] at h2
    unfold behF
    generalize headA L i = h at h3 h4 ⊢
    cases h5 : h.2.1.2 with
    | false =>
      rw [h5] at h3
      simp +contextual -implicitDefEqProofs (disch := first | assumption | omega | (simp -implicitDefEqProofs only [go_sem]; try omega)) only [↓reduceIte, go_sem, iP, iN, w64, w8, w32, s_Za, j_Za_0, h1, h2, h3, h10, parE, Bool.false_eq_true, List.set_cons_succ, List.set_cons_zero]
    | true =>
      rw [h5] at h3
      unfold finA
      generalize behA L h.2.1.1 h.2.2.1 = b at h4 ⊢
      cases h6 : b.1.2 with
      | false =>
        rw [h6] at h4
        simp +contextual -implicitDefEqProofs (disch := first | assumption | omega | (simp -implicitDefEqProofs only [go_sem]; try omega)) only [↓reduceIte, go_sem, iP, iN, w64, w8, w32, s_Za, j_Za_0, h1, h2, h3, h4, h10, parE, Bool.false_eq_true, List.set_cons_succ, List.set_cons_zero]
      | true =>
        rw [h6] at h4
        by_cases he : comb h.2.2.2 b.2.2 = 0
        · rw [he] at h4
          simp +contextual -implicitDefEqProofs (disch := first | assumption | omega | (simp -implicitDefEqProofs only [go_sem]; try omega)) only [↓reduceIte, go_sem, iP, iN, w64, w8, w32, s_Za, j_Za_0, h1, h2, h3, h4, he, e0, parE, List.set_cons_succ, List.set_cons_zero]
        · simp +contextual -implicitDefEqProofs (disch := first | assumption | omega | (simp -implicitDefEqProofs only [go_sem]; try omega)) only [↓reduceIte, go_sem, iP, iN, w64, w8, w32, s_Za, j_Za_0, h1, h2, h3, h4, he, parE, List.set_cons_succ, List.set_cons_zero]
end Go.Proofs.YtkgkmlhljeidhaaGreatDoor
set_option linter.unusedSimpArgs false
set_option linter.unusedVariables false
set_option linter.unusedSectionVars false
namespace Go.Proofs.YtkgkmlhljeidhaaGreatDoor
open Go.Ev
set_option maxRecDepth 100000
def Nums (L : List Tok) : Prop := ∀ i, ((tk L i).k = 10 ∨ (tk L i).k = 12) → (tk L i).w = true → Num (tk L i).n
theorem nums_of {L : List Tok} (h : ∀ t ∈ L, (t.k = 10 ∨ t.k = 12) → t.w = true → Num t.n) : Nums L := by
  intro i hk hw
  unfold tk at hk hw ⊢
  rw [List.getD_eq_getElem?_getD] at hk hw ⊢
  cases hg : L[i.toNat]? with
  | none =>
    rw [hg] at hk
    exact absurd hk (by decide)
  | some t =>
    rw [hg] at hk hw
    exact h t (List.mem_of_getElem? hg) hk hw
end Go.Proofs.YtkgkmlhljeidhaaGreatDoor
set_option linter.unusedSimpArgs false
set_option linter.unusedVariables false
set_option linter.unusedSectionVars false
namespace Go.Proofs.YtkgkmlhljeidhaaGreatDoor
open Go.Ev
set_option maxRecDepth 100000
theorem whB_ok {s : List UInt8} {a : Int} (h : (wS s).2 = 0 ∨ (wS s).2 = 3) : whB s a = (((wS s).1, true), a, (wS s).2) := by
  unfold whB
  rw [if_pos h]
end Go.Proofs.YtkgkmlhljeidhaaGreatDoor
set_option linter.unusedSimpArgs false
set_option linter.unusedVariables false
set_option linter.unusedSectionVars false
namespace Go.Proofs.YtkgkmlhljeidhaaGreatDoor
open Go.Ev
set_option maxRecDepth 100000
def Lex (b p r : List UInt8) (L : List Tok) : Prop := b = p ++ r ∧ ∀ f, r.length < f → allF (asc b) f p.length = L
theorem lex_end (b : List UInt8) : Lex b b [] [⟨0, b.length, b.length, [], [], false⟩] := by
  refine ⟨by simp, fun f hf => ?_⟩
  obtain ⟨g, rfl⟩ : ∃ g, f = g + 1 := ⟨f - 1, by simp at hf; omega⟩
  have h := t_end (asc b)
  rw [asc_len] at h
  unfold allF
  rw [h]
  rfl
theorem lex_cons {b p s q : List UInt8} {t : Tok} {L : List Tok} (hs : s ≠ []) (ht : nxtS (asc b) p.length = t) (hk : t.k ≠ 0) (hto : t.t = ((p ++ s).length : Int)) (h : Lex b (p ++ s) q L) : Lex b p (s ++ q) (t :: L) := by
  refine ⟨by rw [h.1, List.append_assoc], fun f hf => ?_⟩
  have hsl := List.length_pos_iff.2 hs
  obtain ⟨g, rfl⟩ : ∃ g, f = g + 1 := ⟨f - 1, by simp at hf; omega⟩
  unfold allF
  rw [ht, if_neg hk, hto, h.2 g (by simp at hf; omega)]
theorem lex_read {b : List UInt8} {L : List Tok} (hb : Asc b) (h : Lex b [] b L) : readS b = L := by
  unfold readS
  rw [asc_pre b hb]
  unfold allS
  exact h.2 _ (by rw [asc_len]; omega)
theorem asc_mem {s : List UInt8} {c : Int} (h : c ∈ asc s) : ∃ b ∈ s, c = b.toNat := by
  obtain ⟨b, hb, rfl⟩ := List.mem_map.1 h
  exact ⟨b, hb, rfl⟩
def Dg (d : List UInt8) : Prop := d ≠ [] ∧ ∀ b ∈ d, isD b
theorem Dg.dig {d : List UInt8} (h : Dg d) : ∀ x ∈ asc d, digitB x = true := by
  intro x hx
  obtain ⟨b, hb, rfl⟩ := asc_mem hx
  have := h.2 b hb
  unfold isD at this
  unfold digitB
  rw [decide_eq_true this.1, decide_eq_true this.2]; rfl
theorem Dg.ne {d : List UInt8} (h : Dg d) : asc d ≠ [] := fun e => h.1 (List.map_eq_nil_iff.1 e)
theorem Dg.asc {d : List UInt8} (h : Dg d) : Asc d := fun b hb => by
  have := h.2 b hb
  unfold isD at this
  omega
theorem Dg.low {d : List UInt8} (h : Dg d) : lowS d = d := by
  have : ∀ b ∈ d, lowB b = id b := fun b hb => by
    have := h.2 b hb
    unfold isD at this
    unfold lowB
    have e : smallZ (b.toNat : Int) = b.toNat := if_neg (by omega)
    rw [e, putB_self]
    rfl
  unfold lowS
  rw [List.map_congr_left this, List.map_id]
theorem Dg.head {d q : List UInt8} (h : Dg d) : ∃ x : UInt8, ch (Proofs.YtkgkmlhljeidhaaGreatDoor.asc (d ++ q)) 0 = x.toNat ∧ isD x ∧ d.getD 0 0 = x := by
  obtain ⟨x, d', rfl⟩ : ∃ x d', d = x :: d' := by
    cases d with
    | nil => exact absurd rfl h.1
    | cons x d' => exact ⟨x, d', rfl⟩
  refine ⟨x, ?_, h.2 x (List.mem_cons_self ..), rfl⟩
  show ch ((x.toNat : Int) :: _) 0 = _
  rw [ch_0]
theorem Dg.sg {d : List UInt8} (h : Dg d) : sgT d = false := by
  obtain ⟨x, _, h2, h3⟩ := h.head (q := [])
  unfold isD at h2
  unfold sgT
  rw [h3, decide_eq_false (by omega), decide_eq_false (by omega)]
  rfl
theorem Dg.name {d : List UInt8} (h : Dg d) : ∀ x ∈ Proofs.YtkgkmlhljeidhaaGreatDoor.asc d, nameB x = true := by
  intro x hx
  have := h.dig x hx
  unfold nameB
  rw [this]
  simp
def Bl (s : List UInt8) : Prop := ∀ b ∈ s, b = 32 ∨ b = 9 ∨ b = 10
theorem Bl.sp {s : List UInt8} (h : Bl s) : ∀ x ∈ asc s, spaceB x = true := by
  intro x hx
  obtain ⟨b, hb, rfl⟩ := asc_mem hx
  rcases h b hb with h | h | h <;> rw [h] <;> rfl
theorem Bl.asc {s : List UInt8} (h : Bl s) : Asc s := fun b hb => by
  rcases h b hb with h | h | h <;> rw [h] <;> decide
theorem Asc.app {s t : List UInt8} (h : Asc s) (k : Asc t) : Asc (s ++ t) := fun b hb => by
  rcases List.mem_append.1 hb with hb | hb
  · exact h b hb
  · exact k b hb
section
variable {b p q : List UInt8} {L : List Tok}
theorem lx_num {g d : List UInt8} (hg : g = [] ∨ g = [43] ∨ g = [45]) (hd : Dg d) (h : Lex b (p ++ (g ++ d)) [] L) : Lex b p ((g ++ d) ++ []) (⟨10, p.length, p.length + (g ++ d).length, [], g ++ d, true⟩ :: L) := by
  refine lex_cons (by intro e; exact hd.1 (List.append_eq_nil_iff.1 e).2) ?_ (by simp) (by simp) h
  have hg' : asc g = [] ∨ asc g = [43] ∨ asc g = [45] := by
    rcases hg with rfl | rfl | rfl
    · exact .inl rfl
    · exact .inr (.inl rfl)
    · exact .inr (.inr rfl)
  have k := t_num (asc p) (asc g) (asc d) hg' hd.dig hd.ne
  rw [asc_len, ← asc_app, asc_text (g ++ d) (Asc.app (by rcases hg with rfl | rfl | rfl <;> intro x hx <;> simp at hx <;> subst hx <;> decide) hd.asc), asc_len] at k
  rw [h.1, List.append_nil, asc_app, k]
theorem lx_dim {g d n : List UInt8} {c : UInt8} (hg : g = [] ∨ g = [43] ∨ g = [45]) (hd : Dg d) (hc : c = 78 ∨ c = 110) (hn : Asc n) (hn2 : ∀ x ∈ asc n, nameB x = true) (hq : nameB (ch (asc q) 0) = false) (hq2 : ch (asc q) 0 ≠ 92) (h : Lex b (p ++ (g ++ (d ++ (c :: n)))) q L) :
    Lex b p ((g ++ (d ++ (c :: n))) ++ q) (⟨12, p.length, p.length + (g ++ (d ++ (c :: n))).length, c :: n, g ++ d, true⟩ :: L) := by
  refine lex_cons (by intro e; exact hd.1 (List.append_eq_nil_iff.1 (List.append_eq_nil_iff.1 e).2).1) ?_ (by simp) (by simp) h
  have hg' : asc g = [] ∨ asc g = [43] ∨ asc g = [45] := by
    rcases hg with rfl | rfl | rfl
    · exact .inl rfl
    · exact .inr (.inl rfl)
    · exact .inr (.inr rfl)
  have hcc : startB (c.toNat : Int) = true ∧ (c.toNat : Int) ≠ 101 ∧ (c.toNat : Int) ≠ 69 ∧ nameB (c.toNat : Int) = true ∧ Asc [c] := by
    rcases hc with rfl | rfl
    · exact ⟨rfl, by decide, by decide, rfl, by intro x hx; simp at hx; subst hx; decide⟩
    · exact ⟨rfl, by decide, by decide, rfl, by intro x hx; simp at hx; subst hx; decide⟩
  have k := t_dim (asc p) (asc g) (asc d) (asc n) (asc q) c.toNat hg' hd.dig hd.ne hcc.1 hcc.2.1 hcc.2.2.1 (by intro x hx; rcases List.mem_cons.1 hx with hx | hx; (rw [hx]; exact hcc.2.2.2.1); exact hn2 x hx) hq hq2
  have e : (c.toNat : Int) :: asc n = asc (c :: n) := rfl
  have hga : Asc g := by rcases hg with rfl | rfl | rfl <;> intro x hx <;> simp at hx <;> subst hx <;> decide
  rw [asc_len, e, ← asc_app, ← asc_app, ← asc_app, ← asc_app, ← asc_app, ← asc_app, ← asc_app, asc_text (c :: n) (Asc.app hcc.2.2.2.2 hn), asc_text (g ++ d) (hga.app hd.asc), asc_len] at k
  rw [h.1]
  simp only [List.append_assoc] at k ⊢
  rw [k]
end
theorem skS_no {L : List Tok} {i : Int} (h : (tk L i).k ≠ 13) : skS L i = i := by
  unfold skS skF
  rw [if_neg h]
end Go.Proofs.YtkgkmlhljeidhaaGreatDoor
set_option linter.unusedSimpArgs false
set_option linter.unusedVariables false
set_option linter.unusedSectionVars false
namespace Go.Proofs.YtkgkmlhljeidhaaGreatDoor
open Go.Ev
set_option maxRecDepth 100000
set_option maxHeartbeats 8000000
theorem lex_end' {b p : List UInt8} (h : p = b) : Lex b p [] [⟨0, b.length, b.length, [], [], false⟩] := by
  rw [h]; exact lex_end b
theorem lex_read' {b r : List UInt8} {L : List Tok} (hb : Asc b) (h : Lex b [] r L) : readS b = L := by
  have e : r = b := by rw [h.1, List.nil_append]
  rw [e] at h
  exact lex_read hb h
theorem readS_ok (b : List UInt8) (hb : b.length ≤ 10000000) : Toks (readS b) ∧ Nums (readS b) := by
  have h := readS_is b (by omega)
  exact ⟨⟨by omega, fun t ht => by have := h.1 t ht; have h1 := this.ls; have h2 := this.ln; omega⟩, nums_of fun t ht => (h.1 t ht).num⟩
theorem asc1 {c : UInt8} (h : c = 78 ∨ c = 110 ∨ c = 43 ∨ c = 45) : Asc [c] := by
  intro x hx
  simp only [List.mem_singleton] at hx
  subst hx
  rcases h with rfl | rfl | rfl | rfl <;> decide
theorem ch_as (x : UInt8) (r : List UInt8) : ch (asc (x :: r)) 0 = x.toNat := by
  show ch ((x.toNat : Int) :: _) 0 = _
  rw [ch_0]
section
variable {A B pad : List UInt8} {s : UInt8} {va vb : Int} (hA : Dg A) (hB : Dg B) (hp : Bl pad) (hs : s = 43 ∨ s = 45) (ha : wS A = (va, 0)) (hb : wS (s :: B) = (vb, 0))
include hA hB hp hs ha hb
end
end Go.Proofs.YtkgkmlhljeidhaaGreatDoor
set_option linter.unusedSimpArgs false
set_option linter.unusedVariables false
set_option linter.unusedSectionVars false
namespace Go.Proofs.YtkgkmlhljeidhaaGreatDoor
open Go.Ev
set_option maxRecDepth 100000
section
variable {b p q : List UInt8} {L : List Tok}
theorem lx_id {n : List UInt8} {c : UInt8} (hc : c = 110 ∨ c = 45 ∧ ch (asc (n ++ q)) 0 = 110) (hn : Asc n) (hn2 : ∀ x ∈ asc n, nameB x = true) (hq : nameB (ch (asc q) 0) = false) (hq2 : ch (asc q) 0 ≠ 92) (hq3 : ch (asc q) 0 ≠ 40) (h : Lex b (p ++ (c :: n)) q L) :
    Lex b p ((c :: n) ++ q) (⟨1, p.length, p.length + (c :: n).length, c :: n, [], false⟩ :: L) := by
  refine lex_cons (by simp) ?_ (by simp) (by simp) h
  have hcc : (startB (c.toNat : Int) = true ∨ (c.toNat : Int) = 45 ∧ startB (ch (asc n ++ asc q) 0) = true) ∧ nameB (c.toNat : Int) = true ∧ Asc [c] := by
    rcases hc with rfl | ⟨rfl, h2⟩
    · exact ⟨.inl rfl, rfl, asc1 (.inr (.inl rfl))⟩
    · rw [asc_app] at h2
      exact ⟨.inr ⟨rfl, by rw [h2]; rfl⟩, rfl, asc1 (.inr (.inr (.inr rfl)))⟩
  have k := t_id (asc p) (asc n) (asc q) c.toNat hcc.1 (by intro x hx; rcases List.mem_cons.1 hx with hx | hx; (rw [hx]; exact hcc.2.1); exact hn2 x hx) hq hq2 hq3
  have e : (c.toNat : Int) :: asc n = asc (c :: n) := rfl
  rw [asc_len, e, ← asc_app, ← asc_app, asc_text (c :: n) (Asc.app hcc.2.2 hn), asc_len] at k
  rw [h.1, List.append_assoc]
  exact k
end
theorem par_h {L : List Tok} {i x e : Int} {r : List UInt8} (h0 : skS L 0 = i) (h1 : fixA (tk L i) = none) (h2 : headA L i = (x, (r, true), i + 1, e)) :
    parA L = finA x (behA L r (i + 1)).1.1 (behA L r (i + 1)).2.1 (comb e (behA L r (i + 1)).2.2) (behA L r (i + 1)).1.2 := by
  unfold parA
  rw [h0, h1]
  simp only []
  rw [h2]
  unfold behF
  rw [if_pos rfl]
theorem beh_end {L : List Tok} {a : Int} (h : (tk L a).k = 0) : behA L [] a = ((0, true), a, 0) := by
  have h1 : skS L a = a := skS_no (by omega)
  have h2 : numT L a true = false := by unfold numT; rw [h]; rfl
  unfold behA tailA
  rw [if_pos rfl, h1, h2, if_neg (by simp), if_neg (by rintro ⟨h3, _⟩; omega)]
theorem beh_num {L : List Tok} {a : Int} (hk : (tk L a).k = 10) (hkw : (tk L a).w = true) (hn : sgT (tk L a).n = true) : behA L [] a = (((wS (tk L a).n).1, true), a + 1, (wS (tk L a).n).2) := by
  have h1 : skS L a = a := skS_no (by omega)
  have hne : (tk L a).n ≠ [] := by intro e; rw [e] at hn; cases hn
  have h2 : numT L a true = true := by
    unfold numT
    rw [hk, hkw, hn, decide_eq_true hne]; rfl
  unfold behA tailA
  rw [if_pos rfl, h1, h2, if_pos rfl]
theorem beh_rest {L : List Tok} {a : Int} {B : List UInt8} (hB : Dg B) (he2 : (wS (45 :: B)).2 = 0 ∨ (wS (45 :: B)).2 = 3) : behA L (45 :: B) a = (((wS (45 :: B)).1, true), a, (wS (45 :: B)).2) := by
  obtain ⟨x, h1, h2, h3⟩ := hB.head (q := [])
  have hx : (45 :: B).getD 1 0 = x := h3
  have hd : digitB ((x.toNat : Int)) = true := by
    unfold isD at h2
    unfold digitB
    rw [decide_eq_true h2.1, decide_eq_true h2.2]; rfl
  unfold behA
  rw [if_neg (by simp), if_neg (by intro e; injection e with _ e; exact hB.1 e), if_pos (by rfl), hx, hd, if_pos rfl]
  exact whB_ok he2
def vS (n : Int) : Int × Int := if -2147483647 ≤ n ∧ n ≤ 2147483647 then (n, 0) else (0, 3)
theorem wS_sgn (n : Int) : wS (sgnS n) = vS n := by
  unfold sgnS
  by_cases h : n < 0
  · rw [if_pos h]
    have := wS_minus 0 (-n).toNat
    simp only [List.replicate_zero, List.nil_append] at this
    rw [this]
    have e : (((-n).toNat : Nat) : Int) = -n := by omega
    unfold wvS
    rw [e]
    by_cases h2 : 2147483647 < -n
    · have h3 : vS n = (0, 3) := if_neg (by omega)
      rw [if_pos h2, h3]
    · have h3 : vS n = (n, 0) := if_pos (by omega)
      rw [if_neg h2, h3, if_pos rfl, Int.neg_neg]
  · rw [if_neg h, wS_digs]
    have e : ((n.toNat : Nat) : Int) = n := by omega
    unfold wvS
    rw [e]
    by_cases h2 : 2147483647 < n
    · have h3 : vS n = (0, 3) := if_neg (by omega)
      rw [if_pos h2, h3]
    · have h3 : vS n = (n, 0) := if_pos (by omega)
      rw [if_neg h2, h3]
      rfl
theorem wS_pls (n : Int) (h : 0 ≤ n) : wS (43 :: sgnS n) = vS n := by
  have h1 := wS_sgn n
  have e : sgnS n = digs n.toNat := if_neg (by omega)
  rw [e] at h1 ⊢
  rw [wS_plus, ← h1, wS_digs]
theorem vS_e (n : Int) : (vS n).2 = 0 ∨ (vS n).2 = 3 := by
  unfold vS
  split
  · exact .inl rfl
  · exact .inr rfl
def tlS (b : Int) : List UInt8 := if 0 < b then 43 :: sgnS b else if b < 0 then sgnS b else []
theorem anS_eq (a b : Int) (h : a ≠ 0) : anS a b = anH a ++ tlS b := by
  unfold anS tlS
  rw [if_neg h]
  split
  · rw [List.append_assoc]; rfl
  · split
    · rfl
    · rw [List.append_nil]
theorem dg_nat (n : Nat) : Dg (digs n) := ⟨digs_ne n, digs_isD n⟩
theorem sgn_form (n : Int) : ∃ g d, sgnS n = g ++ d ∧ (g = [] ∨ g = [45]) ∧ Dg d := by
  unfold sgnS
  split
  · exact ⟨[45], _, rfl, .inr rfl, dg_nat _⟩
  · exact ⟨[], _, rfl, .inl rfl, dg_nat _⟩
theorem texts_h (a b : Int) (h : a ≠ 0) (T : List UInt8 → Tok)
    (hlex : ∀ (bs q n : List UInt8) (L : List Tok), Asc n → (∀ x ∈ asc n, nameB x = true) → nameB (ch (asc q) 0) = false → ch (asc q) 0 ≠ 92 → ch (asc q) 0 ≠ 40 → Lex bs (anH a ++ n) q L → Lex bs [] ((anH a ++ n) ++ q) (T n :: L))
    (hk : ∀ n, (T n).k ≠ 13) (hfix : ∀ n, fixA (T n) = none) (hhd : ∀ n L, lowS n = n → headA (T n :: L) 0 = ((vS a).1, (n, true), 0 + 1, (vS a).2)) (hasc : Asc (anH a)) :
    ∃ n, parA (readS (anS a b)) = finA (vS a).1 (vS b).1 n (comb (vS a).2 (vS b).2) true ∧ ((vS a).2 = 0 → (vS b).2 = 0 → n = ((readS (anS a b)).length : Int) - 1) := by
  have h0 : ch (asc []) 0 = -1 := rfl
  rw [anS_eq a b h]
  unfold tlS
  by_cases hb : 0 < b
  · rw [if_pos hb]
    have e : sgnS b = digs b.toNat := if_neg (by omega)
    have hB := dg_nat b.toNat
    have hab : Asc (anH a ++ 43 :: sgnS b) := by rw [e]; exact hasc.app ((asc1 (.inr (.inr (.inl rfl)))).app hB.asc)
    have hv := wS_pls b (by omega)
    rw [e] at hab hv ⊢
    have k1 := lex_end' (b := anH a ++ 43 :: digs b.toNat) (p := (anH a ++ []) ++ ([43] ++ digs b.toNat)) (by simp)
    have k2 := lx_num (g := [43]) (.inr (.inl rfl)) hB k1
    have k3 := hlex _ _ [] _ (fun x hx => by cases hx) (fun x hx => by cases hx) (by show nameB (ch (asc (43 :: _)) 0) = false; rw [ch_as]; rfl) (by show ch (asc (43 :: _)) 0 ≠ 92; rw [ch_as]; decide) (by show ch (asc (43 :: _)) 0 ≠ 40; rw [ch_as]; decide) k2
    rw [lex_read' hab k3]
    refine ⟨0 + 1 + 1, Eq.trans (par_h (i := 0) (skS_no (hk [])) (hfix []) (hhd [] _ rfl)) ?_, fun _ _ => rfl⟩
    rw [beh_num rfl rfl rfl]
    show finA _ (wS (43 :: digs b.toNat)).1 _ (comb _ (wS (43 :: digs b.toNat)).2) true = _
    rw [hv]
  · rw [if_neg hb]
    by_cases hb2 : b < 0
    · rw [if_pos hb2]
      have e : sgnS b = 45 :: digs (-b).toNat := if_pos hb2
      have hB := dg_nat (-b).toNat
      have hv := wS_sgn b
      rw [e] at hv ⊢
      have hn : Asc (45 :: digs (-b).toNat) := (asc1 (.inr (.inr (.inr rfl)))).app hB.asc
      have hab : Asc (anH a ++ 45 :: digs (-b).toNat) := hasc.app hn
      have k1 := lex_end' (b := anH a ++ 45 :: digs (-b).toNat) (p := anH a ++ 45 :: digs (-b).toNat) rfl
      have k3 := hlex _ [] (45 :: digs (-b).toNat) _ hn (fun x hx => by
        have hx : x ∈ (45 : Int) :: asc (digs (-b).toNat) := hx
        rcases List.mem_cons.1 hx with hx | hx
        · rw [hx]; rfl
        · exact hB.name x hx) (by rw [h0]; rfl) (by rw [h0]; decide) (by rw [h0]; decide) k1
      have hl : lowS (45 :: digs (-b).toNat) = 45 :: digs (-b).toNat := by
        show lowB 45 :: lowS _ = _
        rw [hB.low]; rfl
      rw [lex_read' hab k3]
      refine ⟨0 + 1, Eq.trans (par_h (i := 0) (skS_no (hk _)) (hfix _) (hhd _ _ hl)) ?_, fun _ _ => rfl⟩
      rw [beh_rest hB (by rw [hv]; exact vS_e b), hv]
    · rw [if_neg hb2]
      have eb : b = 0 := by omega
      subst eb
      have hab : Asc (anH a ++ []) := by rw [List.append_nil]; exact hasc
      have k1 := lex_end' (b := anH a ++ []) (p := anH a ++ []) rfl
      have k3 := hlex _ [] [] _ (fun x hx => by cases hx) (fun x hx => by cases hx) (by rw [h0]; rfl) (by rw [h0]; decide) (by rw [h0]; decide) k1
      rw [lex_read' hab k3]
      refine ⟨0 + 1, Eq.trans (par_h (i := 0) (skS_no (hk [])) (hfix []) (hhd [] _ rfl)) ?_, fun _ _ => rfl⟩
      rw [beh_end rfl]
      rfl
end Go.Proofs.YtkgkmlhljeidhaaGreatDoor
set_option linter.unusedSimpArgs false
set_option linter.unusedVariables false
set_option linter.unusedSectionVars false
namespace Go.Ev
theorem iaddr_hsO {k : IntKind} {i : Int} {o off len : Nat} {ag : Bool} (h : 0 ≤ i ∧ i < len) : eI 1 (.int k i) (.hs o off len 1 ag) = some (.ptr o (off + i.toNat)) := by
  simp only [eI, index, if_pos h, Option.bind_eq_bind, Option.bind_some, if_true, Nat.mul_one]
theorem rbs_set {n : Nat} {v : V} : ∀ {cs : List V} {i : Nat}, V.rbs n cs = true → V.rb n v = true → V.rbs n (cs.set i v) = true
  | [], i, h, hv => h
  | c :: cs, 0, h, hv => by
    simp only [List.set_cons_zero, V.rbs, Bool.and_eq_true] at h ⊢
    exact ⟨hv, h.2⟩
  | c :: cs, i + 1, h, hv => by
    simp only [List.set_cons_succ, V.rbs, Bool.and_eq_true] at h ⊢
    exact ⟨h.1, rbs_set h.2 hv⟩
theorem chunks_mid : ∀ (r p t : List UInt8), chunks false 1 (ofBytes (p ++ (r ++ t))) r.length p.length = some (ofBytes r)
  | [], p, t => rfl
  | b :: r, p, t => by
    have h := chunks_mid r (p ++ [b]) t
    simp only [List.append_assoc, List.length_append, List.length_cons, List.length_nil, List.cons_append, List.nil_append, Nat.zero_add] at h
    have h2 : part false 1 (ofBytes (p ++ (b :: r ++ t))) p.length = some (.int .u8 b.toNat) := by
      rw [part_bytes (by simp)]
      simp
    rw [List.length_cons]
    rw [List.cons_append] at h2 ⊢
    simp only [chunks, h2, h, Option.bind_eq_bind, Option.bind_some, Option.pure_def]
    rfl
theorem bytesStr_mid {p r t : List UInt8} {τ : Objs} : eC (.cells (ofBytes (p ++ (r ++ t))) :: τ) .bytesStr (.hs 0 p.length r.length 1 false) = some (.str r) := by
  have h := chunks_mid r p t
  have h2 : rowOf (.cells (ofBytes (p ++ (r ++ t))) :: τ) (.hs 0 p.length r.length 1 false) = some (ofBytes r) := h
  show (rowOf (.cells (ofBytes (p ++ (r ++ t))) :: τ) (.hs 0 p.length r.length 1 false)).bind (fun xs => (bytesOf xs).map V.str) = _
  rw [h2, Option.bind_some, bytesOf_of]
  rfl
theorem wu32 {x : Int} (h : 0 ≤ x ∧ x ≤ 4294967295) : IntKind.u32.wrap x = x := by simp only [IntKind.wrap_u32]; omega
theorem wu64 {x : Int} (h : 0 ≤ x ∧ x ≤ 18446744073709551615) : IntKind.u64.wrap x = x := by simp only [IntKind.wrap_u64]; omega
attribute [go_sem] iaddr_hsO rbs_set List.length_set wu32 wu64
end Go.Ev
namespace Go.Proofs.YtkgkmlhljeidhaaGreatDoor
open Go.Ev
set_option maxRecDepth 100000
set_option maxHeartbeats 16000000
theorem set_b {A B : List UInt8} {x : UInt8} {n : Nat} {y : Int} (h : n = A.length) (hy : 0 ≤ y ∧ y ≤ 255) : (ofBytes (A ++ x :: B)).set n (.int .u8 y) = ofBytes (A ++ putB y :: B) := by
  rw [h]
  have := set_bytes (p := A) (r := B) (b := x) (c := putB y)
  rw [putB_nat hy] at this
  exact this
theorem fb_1 (nd i u : Nat) (cs : List V) (h24 : cs.length = 24) (hr : V.rbs 1 cs = true) (hi : i < 2) (hn : i ≤ nd ∧ nd ≤ 23) (hu : u < 10 ^ i) :
    j_Zo_1 (Mi cx) 1 (.hs 0 1 nd 1 false) (.int .i64 i) (.int .u32 u) [.cells cs] = some (.tup [], [.cells (if 0 < i then cs.set 1 (.int .u8 (48 + u)) else cs)]) := by
  by_cases h : 0 < i
  · have : u < 10 := by
      have : i = 1 := by omega
      rw [this] at hu; omega
    have hr2 : V.rbs 1 (cs.set 1 (.int .u8 (48 + u))) = true := rbs_set hr rfl
    rw [if_pos h]
    simp +contextual -implicitDefEqProofs (disch := first | assumption | omega | (simp -implicitDefEqProofs only [go_sem]; try omega)) only [↓reduceIte, go_sem, iP, iN, w64, w8, w32, j_Zo_1, h]
  · rw [if_neg h]
    simp +contextual -implicitDefEqProofs (disch := first | assumption | omega | (simp -implicitDefEqProofs only [go_sem]; try omega)) only [↓reduceIte, go_sem, iP, iN, w64, w8, w32, j_Zo_1, h]
theorem putB_of (n : Nat) (h : n ≤ 255) : putB (n : Int) = UInt8.ofNat n := by
  unfold putB
  rw [Int.toNat_natCast]
theorem fb_0 (nd P u : Nat) (cs : List V) (h24 : cs.length = 24) (hr : V.rbs 1 cs = true) (hi : P < 2) (hn : P + 2 ≤ nd ∧ nd ≤ 23) (hu : u < 10000) :
    j_Zo_0 (Mi cx) 1 (.hs 0 1 nd 1 false) (.int .i64 ((P : Int) + 2)) (.int .u32 u) [.cells cs] =
    j_Zo_1 (Mi cx) 1 (.hs 0 1 nd 1 false) (.int .i64 P) (.int .u32 ((u : Int) / 100)) [.cells ((cs.set (1 + (P + 1)) (.int .u8 (48 + (u : Int) % 100 % 10))).set (1 + P) (.int .u8 (48 + (u : Int) % 100 / 10)))] := by
  have e1 : ((P : Int) + 2 - 1).toNat = P + 1 := by omega
  have e2 : ((P : Int) + 2 - 2).toNat = P := by omega
  have e3 : (P : Int) + 2 - 2 = P := by omega
  have t0 := fun y hy => sm0 y hy
  have t1 := fun y hy => sm1 y hy
  unfold smT at t0 t1
  simp +contextual -implicitDefEqProofs (disch := first | assumption | omega | (simp -implicitDefEqProofs only [go_sem]; try omega)) only [↓reduceIte, go_sem, iP, iN, w64, w8, w32, j_Zo_0, t0, t1, e1, e2, e3, tmod_nn, tdiv_nn]
def set2 (cs : List V) (P : Nat) (x : Int) : List V := (cs.set (1 + (P + 1)) (.int .u8 (48 + x % 10))).set (1 + P) (.int .u8 (48 + x / 10))
theorem set2_rb {cs : List V} (P : Nat) (x : Int) (h : V.rbs 1 cs = true) : V.rbs 1 (set2 cs P x) = true := rbs_set (rbs_set h rfl) rfl
theorem set2_b (A B : List UInt8) (a b : UInt8) (P : Nat) (x : Nat) (hP : 1 + P = A.length) (hx : x < 100) : set2 (ofBytes (A ++ a :: b :: B)) P x = ofBytes (A ++ (dD 2 x ++ B)) := by
  have e1 : A ++ a :: b :: B = (A ++ [a]) ++ b :: B := by simp
  have p1 : putB (48 + (x : Int) % 10) = UInt8.ofNat (48 + x % 10) := by
    have := putB_of (48 + x % 10) (by omega)
    rw [← this]; congr 1
  have p0 : putB (48 + (x : Int) / 10) = UInt8.ofNat (48 + x / 10 % 10) := by
    have := putB_of (48 + x / 10 % 10) (by omega)
    rw [← this]; congr 1; omega
  unfold set2
  rw [e1, set_b (by simp; omega) (by omega), List.append_assoc]
  show (ofBytes (A ++ a :: (putB (48 + (x : Int) % 10) :: B))).set (1 + P) _ = _
  rw [set_b hP (by omega), p0, p1]
  rfl
theorem fb_01 (nd i u : Nat) (z : UInt8) (m t : List UInt8) (h24 : (z :: (m ++ t)).length = 24) (hm : m.length = i) (hi : i < 2) (hn : i ≤ nd ∧ nd ≤ 23) (hu : u < 10 ^ i) :
    j_Zo_1 (Mi cx) 1 (.hs 0 1 nd 1 false) (.int .i64 i) (.int .u32 u) [.cells (ofBytes (z :: (m ++ t)))] = some (.tup [], [.cells (ofBytes (z :: (dD i u ++ t)))]) := by
  rw [fb_1 nd i u _ (by rw [bytes_len]; exact h24) rbs_bytes hi hn hu]
  rcases (by omega : i = 0 ∨ i = 1) with h | h
  · subst h
    have : m = [] := List.length_eq_zero_iff.1 hm
    rw [if_neg (by omega), this]
    rfl
  · subst h
    obtain ⟨a, rfl⟩ := List.length_eq_one_iff.1 hm
    have p : putB (48 + (u : Int)) = UInt8.ofNat (48 + u % 10) := by
      have := putB_of (48 + u % 10) (by omega)
      rw [← this]; congr 1; omega
    rw [if_pos (by omega)]
    have := set_b (A := [z]) (B := t) (x := a) (n := 1) (y := 48 + (u : Int)) rfl (by omega)
    rw [p] at this
    exact congrArg (fun c => some (V.tup [], [O.cells c])) this
theorem two_of {m : List UInt8} {n : Nat} (h : m.length = n + 2) : ∃ m0 a b, m = m0 ++ [a, b] ∧ m0.length = n := by
  refine ⟨m.take n, m.getD n 0, m.getD (n + 1) 0, ?_, by rw [List.length_take]; omega⟩
  have h1 : m.drop n = [m.getD n 0, m.getD (n + 1) 0] := by
    rw [List.drop_eq_getElem_cons (by omega), List.drop_eq_getElem_cons (by omega), List.drop_eq_nil_of_le (by omega)]
    simp [List.getD_eq_getElem?_getD, List.getElem?_eq_getElem, h]
  rw [← h1, List.take_append_drop]
theorem fb_4 (nd i u : Nat) (z : UInt8) (m t : List UInt8) (h24 : (z :: (m ++ t)).length = 24) (hm : m.length = i) (hi : i < 4) (hn : i ≤ nd ∧ nd ≤ 23) (hu : u < 10 ^ i) :
    j_Zo_0 (Mi cx) 1 (.hs 0 1 nd 1 false) (.int .i64 i) (.int .u32 u) [.cells (ofBytes (z :: (m ++ t)))] = some (.tup [], [.cells (ofBytes (z :: (dD i u ++ t)))]) := by
  by_cases h2 : 2 ≤ i
  · obtain ⟨P, rfl⟩ : ∃ P, i = P + 2 := ⟨i - 2, by omega⟩
    obtain ⟨m0, a, b, rfl, hm0⟩ := two_of hm
    have hu2 : u < 10000 := Nat.lt_of_lt_of_le hu (Nat.pow_le_pow_right (by omega) (by omega : P + 2 ≤ 4))
    have h := fb_0 nd P u _ (by rw [bytes_len]; exact h24) (rbs_bytes (n := 1) (s := z :: (m0 ++ [a, b] ++ t))) (by omega) (by omega) hu2
    have e : ((P + 2 : Nat) : Int) = (P : Int) + 2 := by omega
    rw [e, h]
    have hs := set2_b (z :: m0) t a b P (u % 100) (by rw [List.length_cons]; omega) (by omega)
    have e2 : ((u % 100 : Nat) : Int) = (u : Int) % 100 := by omega
    rw [e2] at hs
    unfold set2 at hs
    have e3 : z :: (m0 ++ [a, b] ++ t) = z :: m0 ++ a :: b :: t := by simp
    have e4 : ((u / 100 : Nat) : Int) = (u : Int) / 100 := by omega
    rw [e3, hs, ← e4]
    have hpow : 10 ^ (P + 2) = 10 ^ P * 100 := by rw [Nat.pow_add]
    have := fb_01 nd P (u / 100) z m0 (dD 2 (u % 100) ++ t) (by simp [dD_len] at h24 ⊢; omega) hm0 (by omega) (by omega) (Nat.div_lt_of_lt_mul (by omega))
    rw [List.cons_append, this, dD_add P 2 u, List.append_assoc]
    have : dD 2 u = dD 2 (u % 100) := by
      simp only [dD, List.nil_append, List.cons_append]
      congr 2
      · congr 1; omega
      · congr 2; omega
    rw [this]
  · have h := fb_01 nd i u z m t h24 hm (by omega) hn hu
    have hr : V.rbs 1 (ofBytes (z :: (m ++ t))) = true := rbs_bytes
    simp +contextual -implicitDefEqProofs (disch := first | assumption | omega | (simp -implicitDefEqProofs only [go_sem]; try omega)) only [↓reduceIte, go_sem, iP, iN, w64, w8, w32, j_Zo_0, h, h2]
end Go.Proofs.YtkgkmlhljeidhaaGreatDoor
set_option linter.unusedSimpArgs false
set_option linter.unusedVariables false
set_option linter.unusedSectionVars false
namespace Go.Proofs.YtkgkmlhljeidhaaGreatDoor
open Go.Ev
set_option maxRecDepth 100000
set_option maxHeartbeats 16000000
theorem fb_x (r1 : Rk) (nd P u : Nat) (cs : List V) (h24 : cs.length = 24) (hr : V.rbs 1 cs = true) (hi : P < 4) (hn : P + 4 ≤ nd ∧ nd ≤ 23) (hu : u < 100000000) :
    b_Zo_0 (Mi cx) 1 1 r1 (.hs 0 1 nd 1 false) (.int .u64 u) (.int .i64 ((P : Int) + 4)) [.cells cs] =
    j_Zo_0 (Mi cx) 1 (.hs 0 1 nd 1 false) (.int .i64 P) (.int .u32 ((u : Int) / 10000)) [.cells (set2 (set2 cs (P + 2) ((u : Int) % 10000 % 100)) P ((u : Int) % 10000 / 100))] := by
  have e1 : ((P : Int) + 4 - 1).toNat = P + 2 + 1 := by omega
  have e2 : ((P : Int) + 4 - 2).toNat = P + 2 := by omega
  have e3 : ((P : Int) + 4 - 3).toNat = P + 1 := by omega
  have e4 : ((P : Int) + 4 - 4).toNat = P := by omega
  have e5 : (P : Int) + 4 - 4 = P := by omega
  have t0 := fun y hy => sm0 y hy
  have t1 := fun y hy => sm1 y hy
  unfold smT at t0 t1
  unfold set2
  simp +contextual -implicitDefEqProofs (disch := first | assumption | omega | (simp -implicitDefEqProofs only [go_sem]; try omega)) only [↓reduceIte, go_sem, iP, iN, w64, w8, w32, b_Zo_0, t0, t1, e1, e2, e3, e4, e5, tmod_nn, tdiv_nn]
theorem fb_8 (r1 : Rk) (nd P u : Nat) (cs : List V) (h24 : cs.length = 24) (hr : V.rbs 1 cs = true) (hn : P + 8 ≤ nd ∧ nd ≤ 23) (hu : u < 18446744073709551616) :
    b_Zo_0 (Mi cx) 1 1 r1 (.hs 0 1 nd 1 false) (.int .u64 u) (.int .i64 ((P : Int) + 8)) [.cells cs] =
    r1 [.hs 0 1 nd 1 false, .int .u64 ((u : Int) / 100000000), .int .i64 P] [.cells (set2 (set2 (set2 (set2 cs (P + 6) ((u : Int) % 100000000 % 10000 % 100)) (P + 4) ((u : Int) % 100000000 % 10000 / 100)) (P + 2) ((u : Int) % 100000000 / 10000 % 100)) P ((u : Int) % 100000000 / 10000 / 100))] := by
  have e1 : ((P : Int) + 8 - 1).toNat = P + 6 + 1 := by omega
  have e2 : ((P : Int) + 8 - 2).toNat = P + 6 := by omega
  have e3 : ((P : Int) + 8 - 3).toNat = P + 4 + 1 := by omega
  have e4 : ((P : Int) + 8 - 4).toNat = P + 4 := by omega
  have e5 : ((P : Int) + 8 - 5).toNat = P + 2 + 1 := by omega
  have e6 : ((P : Int) + 8 - 6).toNat = P + 2 := by omega
  have e7 : ((P : Int) + 8 - 7).toNat = P + 1 := by omega
  have e8 : ((P : Int) + 8 - 8).toNat = P := by omega
  have e9 : (P : Int) + 8 - 8 = P := by omega
  have t0 := fun y hy => sm0 y hy
  have t1 := fun y hy => sm1 y hy
  unfold smT at t0 t1
  have hrr : V.rbs 1 (set2 (set2 (set2 (set2 cs (P + 6) ((u : Int) % 100000000 % 10000 % 100)) (P + 4) ((u : Int) % 100000000 % 10000 / 100)) (P + 2) ((u : Int) % 100000000 / 10000 % 100)) P ((u : Int) % 100000000 / 10000 / 100)) = true := set2_rb _ _ (set2_rb _ _ (set2_rb _ _ (set2_rb _ _ hr)))
  unfold set2 at hrr ⊢
  simp +contextual -implicitDefEqProofs (disch := first | assumption | omega | (simp -implicitDefEqProofs only [go_sem]; try omega)) only [↓reduceIte, go_sem, iP, iN, w64, w8, w32, b_Zo_0, t0, t1, e1, e2, e3, e4, e5, e6, e7, e8, e9, tmod_nn, tdiv_nn]
theorem dD2 {x y : Nat} (h : x % 100 = y % 100) : dD 2 x = dD 2 y := by
  simp only [dD, List.nil_append, List.cons_append]
  congr 2
  · congr 1; omega
  · congr 2; omega
theorem set2_at (z : UInt8) (m0 t : List UInt8) (a b : UInt8) (P x : Nat) (hP : m0.length = P) (hx : x < 100) (y : Int) (hy : y = x) : set2 (ofBytes (z :: (m0 ++ (a :: b :: t)))) P y = ofBytes (z :: (m0 ++ (dD 2 x ++ t))) := by
  have := set2_b (z :: m0) t a b P x (by rw [List.length_cons]; omega) hx
  rw [hy]
  exact this
theorem d_fbl (nd : Nat) (hnd : nd ≤ 23) (z : UInt8) : ∀ (K i u : Nat) (m t : List UInt8), i / 8 = K → m.length = i → u < 10 ^ i → i ≤ nd → u < 18446744073709551616 → (z :: (m ++ t)).length = 24 →
    l_Zo_0 (Mi cx) 1 1 [.hs 0 1 nd 1 false, .int .u64 u, .int .i64 i] [.cells (ofBytes (z :: (m ++ t)))] = some (.tup [], [.cells (ofBytes (z :: (dD i u ++ t)))])
  | 0, i, u, m, t, hK, hm, hu, hi, h64, h24 => by
    have hi8 : i < 8 := by omega
    have hu8 : u < 10000000 := Nat.lt_of_lt_of_le hu (Nat.pow_le_pow_right (by omega) (by omega : i ≤ 7))
    have hr : V.rbs 1 (ofBytes (z :: (m ++ t))) = true := rbs_bytes
    rw [u_Zo_0]
    by_cases h4 : 4 ≤ i
    · obtain ⟨P, rfl⟩ : ∃ P, i = P + 4 := ⟨i - 4, by omega⟩
      have h := fb_x (l_Zo_0 (Mi cx) 1 1) nd P u _ (by rw [bytes_len]; exact h24) hr (by omega) (by omega) (by omega)
      have e : ((P + 4 : Nat) : Int) = (P : Int) + 4 := by omega
      rw [e]
      refine h.trans ?_
      obtain ⟨m1, c, d, rfl, hm1⟩ := two_of (n := P + 2) hm
      obtain ⟨m0, a, b, rfl, hm0⟩ := two_of hm1
      have s1 := set2_at z (m0 ++ [a, b]) t c d (P + 2) (u % 10000 % 100) hm1 (by omega) ((u : Int) % 10000 % 100) (by omega)
      have s2 := set2_at z m0 (dD 2 (u % 10000 % 100) ++ t) a b P (u % 10000 / 100) hm0 (by omega) ((u : Int) % 10000 / 100) (by omega)
      have q1 : z :: (m0 ++ [a, b] ++ [c, d] ++ t) = z :: (m0 ++ [a, b] ++ c :: d :: t) := by simp
      have q2 : z :: (m0 ++ [a, b] ++ (dD 2 (u % 10000 % 100) ++ t)) = z :: (m0 ++ (a :: b :: (dD 2 (u % 10000 % 100) ++ t))) := by simp
      have q3 : ((u / 10000 : Nat) : Int) = (u : Int) / 10000 := by omega
      rw [q1, s1, q2, s2, ← q3]
      have hpow : 10 ^ (P + 4) = 10 ^ P * 10000 := by rw [Nat.pow_add]
      have h5 := fb_4 nd P (u / 10000) z m0 (dD 2 (u % 10000 / 100) ++ (dD 2 (u % 10000 % 100) ++ t)) (by simp [dD_len] at h24 ⊢; omega) hm0 (by omega) (by omega) (Nat.div_lt_of_lt_mul (by omega))
      rw [h5, dD_add P 4 u, dD_add 2 2 u, dD2 (x := u / 10 ^ 2) (y := u % 10000 / 100) (by omega), dD2 (x := u) (y := u % 10000 % 100) (by omega)]
      simp only [List.append_assoc]
    · have h := fb_4 nd i u z m t h24 hm (by omega) (by omega) hu
      simp +contextual -implicitDefEqProofs (disch := first | assumption | omega | (simp -implicitDefEqProofs only [go_sem]; try omega)) only [↓reduceIte, go_sem, iP, iN, w64, w8, w32, b_Zo_0, h, h4]
  | K + 1, i, u, m, t, hK, hm, hu, hi, h64, h24 => by
    obtain ⟨P, rfl⟩ : ∃ P, i = P + 8 := ⟨i - 8, by omega⟩
    have hr : V.rbs 1 (ofBytes (z :: (m ++ t))) = true := rbs_bytes
    have h := fb_8 (l_Zo_0 (Mi cx) 1 1) nd P u _ (by rw [bytes_len]; exact h24) hr (by omega) h64
    have e : ((P + 8 : Nat) : Int) = (P : Int) + 8 := by omega
    rw [u_Zo_0, e]
    refine h.trans ?_
    obtain ⟨m3, a7, a8, rfl, hm3⟩ := two_of (n := P + 6) hm
    obtain ⟨m2, a5, a6, rfl, hm2⟩ := two_of (n := P + 4) hm3
    obtain ⟨m1, a3, a4, rfl, hm1⟩ := two_of (n := P + 2) hm2
    obtain ⟨m0, a1, a2, rfl, hm0⟩ := two_of hm1
    have s1 := set2_at z (m0 ++ [a1, a2] ++ [a3, a4] ++ [a5, a6]) t a7 a8 (P + 6) (u % 100000000 % 10000 % 100) hm3 (by omega) ((u : Int) % 100000000 % 10000 % 100) (by omega)
    have s2 := set2_at z (m0 ++ [a1, a2] ++ [a3, a4]) (dD 2 (u % 100000000 % 10000 % 100) ++ t) a5 a6 (P + 4) (u % 100000000 % 10000 / 100) hm2 (by omega) ((u : Int) % 100000000 % 10000 / 100) (by omega)
    have s3 := set2_at z (m0 ++ [a1, a2]) (dD 2 (u % 100000000 % 10000 / 100) ++ (dD 2 (u % 100000000 % 10000 % 100) ++ t)) a3 a4 (P + 2) (u % 100000000 / 10000 % 100) hm1 (by omega) ((u : Int) % 100000000 / 10000 % 100) (by omega)
    have s4 := set2_at z m0 (dD 2 (u % 100000000 / 10000 % 100) ++ (dD 2 (u % 100000000 % 10000 / 100) ++ (dD 2 (u % 100000000 % 10000 % 100) ++ t))) a1 a2 P (u % 100000000 / 10000 / 100) hm0 (by omega) ((u : Int) % 100000000 / 10000 / 100) (by omega)
    have q1 : z :: (m0 ++ [a1, a2] ++ [a3, a4] ++ [a5, a6] ++ [a7, a8] ++ t) = z :: (m0 ++ [a1, a2] ++ [a3, a4] ++ [a5, a6] ++ a7 :: a8 :: t) := by simp
    have q2 : ∀ t, z :: (m0 ++ [a1, a2] ++ [a3, a4] ++ [a5, a6] ++ t) = z :: (m0 ++ [a1, a2] ++ [a3, a4] ++ a5 :: a6 :: t) := by simp
    have q3 : ∀ t, z :: (m0 ++ [a1, a2] ++ [a3, a4] ++ t) = z :: (m0 ++ [a1, a2] ++ a3 :: a4 :: t) := by simp
    have q4 : ∀ t, z :: (m0 ++ [a1, a2] ++ t) = z :: (m0 ++ a1 :: a2 :: t) := by simp
    have q5 : ((u / 100000000 : Nat) : Int) = (u : Int) / 100000000 := by omega
    rw [q1, s1, q2, s2, q3, s3, q4, s4, ← q5]
    have hpow : 10 ^ (P + 8) = 10 ^ P * 100000000 := by rw [Nat.pow_add]
    have ih := d_fbl nd hnd z K P (u / 100000000) m0 (dD 2 (u % 100000000 / 10000 / 100) ++ (dD 2 (u % 100000000 / 10000 % 100) ++ (dD 2 (u % 100000000 % 10000 / 100) ++ (dD 2 (u % 100000000 % 10000 % 100) ++ t)))) (by omega) hm0 (Nat.div_lt_of_lt_mul (by omega)) (by omega) (by omega) (by simp [dD_len] at h24 ⊢; omega)
    rw [ih, dD_add P 8 u, dD_add 2 6 u, dD_add 2 4 u, dD_add 2 2 u, dD2 (x := u / 10 ^ 6) (y := u % 100000000 / 10000 / 100) (by omega), dD2 (x := u / 10 ^ 4) (y := u % 100000000 / 10000 % 100) (by omega), dD2 (x := u / 10 ^ 2) (y := u % 100000000 % 10000 / 100) (by omega), dD2 (x := u) (y := u % 100000000 % 10000 % 100) (by omega)]
    simp only [List.append_assoc]
end Go.Proofs.YtkgkmlhljeidhaaGreatDoor
set_option linter.unusedSimpArgs false
set_option linter.unusedVariables false
set_option linter.unusedSectionVars false
namespace Go.Proofs.YtkgkmlhljeidhaaGreatDoor
open Go.Ev
set_option maxRecDepth 100000
set_option maxHeartbeats 16000000
theorem d_fb10 (nd u : Nat) (hnd : nd ≤ 23) (z : UInt8) (m t : List UInt8) (hm : m.length = nd) (hu : u < 10 ^ nd) (h64 : u < 18446744073709551616) (h24 : (z :: (m ++ t)).length = 24) :
    E cx 109 [.hs 0 1 nd 1 false, .int .u64 u] [.cells (ofBytes (z :: (m ++ t)))] = some (.tup [], [.cells (ofBytes (z :: (dD nd u ++ t)))]) := by
  have h := d_fbl nd hnd z (nd / 8) nd u m t rfl hm hu (Nat.le_refl _) h64 h24
  rw [e_Zo]
  simp +contextual -implicitDefEqProofs (disch := first | assumption | omega | (simp -implicitDefEqProofs only [go_sem]; try omega)) only [↓reduceIte, go_sem, iP, iN, w64, w8, w32, s_Zo, h]
theorem cutA_1 (nd : Nat) (h : 1 ≤ nd ∧ nd ≤ 20) : evCutA 24 1 false (.ptr 0 0) (some (.int .i64 1)) (some (.int .i64 (1 + (nd : Int)))) = some (.hs 0 1 nd 1 false) := by
  have h1 : bound (.int .i64 (1 + (nd : Int))) 24 = some (1 + nd) := by
    show (if 0 ≤ 1 + (nd : Int) ∧ 1 + (nd : Int) ≤ ((24 : Nat) : Int) then some (1 + (nd : Int)).toNat else none) = _
    rw [if_pos (by omega)]
    exact congrArg some (by omega)
  have h2 : bound (.int .i64 1) (1 + nd) = some 1 := by
    show (if 0 ≤ (1 : Int) ∧ (1 : Int) ≤ ((1 + nd : Nat) : Int) then some (1 : Int).toNat else none) = _
    rw [if_pos (by omega)]
    rfl
  unfold evCutA bounds
  simp only [h1, h2, Option.bind_eq_bind, Option.bind_some, Option.getD_none, Option.pure_def, Nat.mul_one, Nat.zero_add]
  rw [if_neg (by omega), Nat.add_sub_cancel_left]
theorem cutA_0 (nd : Nat) (h : 1 ≤ nd ∧ nd ≤ 20) : evCutA 24 1 false (.ptr 0 0) none (some (.int .i64 (1 + (nd : Int)))) = some (.hs 0 0 (nd + 1) 1 false) := by
  have h1 : bound (.int .i64 (1 + (nd : Int))) 24 = some (nd + 1) := by
    show (if 0 ≤ 1 + (nd : Int) ∧ 1 + (nd : Int) ≤ ((24 : Nat) : Int) then some (1 + (nd : Int)).toNat else none) = _
    rw [if_pos (by omega)]
    exact congrArg some (by omega)
  unfold evCutA bounds
  simp only [h1, Option.bind_eq_bind, Option.bind_some, Option.getD_none, Option.pure_def, Nat.mul_one, Nat.zero_add]
  rw [if_neg (by omega)]
  rfl
theorem sm_cut : ∀ y : Fin 100, (smT.drop (y.val * 2)).take 2 = [UInt8.ofNat (48 + y.val / 10), UInt8.ofNat (48 + y.val % 10)] := by decide +kernel
theorem d_small (n : Nat) (h : n < 100) (σ : Objs) (hσ : Wf σ) : E cx 107 [.int .i64 n] σ = some (.str (digs n), σ) := by
  rw [e_Zr]
  by_cases c : n < 10
  · have e : digs n = [UInt8.ofNat (48 + n % 10)] := digs_dD 1 n (by omega) (.inl rfl) (by omega)
    have k : ∀ y : Fin 10, (([48, 49, 50, 51, 52, 53, 54, 55, 56, 57, 97, 98, 99, 100, 101, 102, 103, 104, 105, 106, 107, 108, 109, 110, 111, 112, 113, 114, 115, 116, 117, 118, 119, 120, 121, 122] : List UInt8).drop y.val).take 1 = [UInt8.ofNat (48 + y.val % 10)] := by decide
    have h1 := cutS_both (k := .i64) (k' := .i64) (a := (n : Int)) (b := (n : Int) + 1) (s := [48, 49, 50, 51, 52, 53, 54, 55, 56, 57, 97, 98, 99, 100, 101, 102, 103, 104, 105, 106, 107, 108, 109, 110, 111, 112, 113, 114, 115, 116, 117, 118, 119, 120, 121, 122]) (by simp only [List.length_cons, List.length_nil]; omega)
    have e1 : ((n : Int) + 1).toNat - (n : Int).toNat = 1 := by omega
    have e2 : (n : Int).toNat = n := by omega
    rw [e1, e2, k ⟨n, c⟩] at h1
    rw [e]
    simp +contextual -implicitDefEqProofs (disch := first | assumption | omega | (simp -implicitDefEqProofs only [go_sem]; try omega)) only [↓reduceIte, go_sem, iP, iN, w64, w8, w32, s_Zr, h1, c]
  · have e : digs n = [UInt8.ofNat (48 + n / 10 % 10), UInt8.ofNat (48 + n % 10)] := digs_dD 2 n (by omega) (.inr (by omega)) (by omega)
    have e0 : n / 10 % 10 = n / 10 := by omega
    have hl : smT.length = 200 := by kernel_rfl
    have h1 := cutS_both (k := .i64) (k' := .i64) (a := (n : Int) * 2) (b := (n : Int) * 2 + 2) (s := smT) (by omega)
    have e1 : ((n : Int) * 2 + 2).toNat - ((n : Int) * 2).toNat = 2 := by omega
    have e2 : ((n : Int) * 2).toNat = n * 2 := by omega
    rw [e1, e2, sm_cut ⟨n, h⟩] at h1
    unfold smT at h1
    rw [e, e0]
    simp +contextual -implicitDefEqProofs (disch := first | assumption | omega | (simp -implicitDefEqProofs only [go_sem]; try omega)) only [↓reduceIte, go_sem, iP, iN, w64, w8, w32, s_Zr, h1, c]
theorem zeros_eq (nd : Nat) (h : nd ≤ 23) : ofBytes (0 :: (List.replicate nd 0 ++ List.replicate (23 - nd) 0)) = [.int .u8 0, .int .u8 0, .int .u8 0, .int .u8 0, .int .u8 0, .int .u8 0, .int .u8 0, .int .u8 0, .int .u8 0, .int .u8 0, .int .u8 0, .int .u8 0, .int .u8 0, .int .u8 0, .int .u8 0, .int .u8 0, .int .u8 0, .int .u8 0, .int .u8 0, .int .u8 0, .int .u8 0, .int .u8 0, .int .u8 0, .int .u8 0] := by
  have e : List.replicate nd (0 : UInt8) ++ List.replicate (23 - nd) 0 = List.replicate 23 0 := by
    rw [List.replicate_append_replicate]
    congr 1; omega
  rw [e]
  rfl
theorem fmt_0 (u : Nat) (hu : 1 ≤ u ∧ u ≤ 1099511627776) (n : Int) (hn : (n = u ∨ n = -(u : Int))) :
    j_Zl_0 (Mi cx) 0 (.int .i64 n) (.ptr 0 0) (.int .u64 u) [.cells [.int .u8 0, .int .u8 0, .int .u8 0, .int .u8 0, .int .u8 0, .int .u8 0, .int .u8 0, .int .u8 0, .int .u8 0, .int .u8 0, .int .u8 0, .int .u8 0, .int .u8 0, .int .u8 0, .int .u8 0, .int .u8 0, .int .u8 0, .int .u8 0, .int .u8 0, .int .u8 0, .int .u8 0, .int .u8 0, .int .u8 0, .int .u8 0]] = some (.str (sgnS n), []) := by
  have hd := nd_ok u hu.1 (by omega)
  have g1 := fun σ hσ => d_numDigits u hu.1 (by omega) σ hσ
  have g2 := cutA_1 (ndS u) (by omega)
  have g3 := cutA_0 (ndS u) (by omega)
  have g4 := d_fb10 (ndS u) u (by omega) 0 (List.replicate (ndS u) 0) (List.replicate (23 - ndS u) 0) (by simp) hd.2.2.2.1 (by omega) (by simp; omega)
  rw [zeros_eq _ (by omega)] at g4
  have hdg := digs_nd u hu.1 (by omega)
  have hia : evIaddrA 24 1 (.int .i64 0) (.ptr 0 0) = some (.ptr 0 0) := by rfl
  unfold sgnS
  by_cases c : n < 0
  · have e : (-n).toNat = u := by omega
    have hs : ∀ r : List UInt8, (ofBytes (0 :: r)).set 0 (.int .u8 45) = ofBytes (45 :: r) := fun r => rfl
    have hb := bytesStr_mid (p := []) (r := 45 :: dD (ndS u) u) (t := List.replicate (23 - ndS u) 0) (τ := [])
    simp only [List.nil_append, List.length_nil, List.length_cons, dD_len, List.cons_append] at hb
    have hr : V.rbs 1 (ofBytes (0 :: (dD (ndS u) u ++ List.replicate (23 - ndS u) 0))) = true := rbs_bytes
    have hr2 : V.rbs 1 (ofBytes (45 :: (dD (ndS u) u ++ List.replicate (23 - ndS u) 0))) = true := rbs_bytes
    rw [if_pos c, e, hdg]
    simp +contextual -implicitDefEqProofs (disch := first | assumption | omega | (simp -implicitDefEqProofs only [go_sem]; try omega)) only [↓reduceIte, go_sem, iP, iN, w64, w8, w32, j_Zl_0, g1, g2, g3, g4, hia, hs, hb, c]
  · have e : n.toNat = u := by omega
    have hb := bytesStr_mid (p := [0]) (r := dD (ndS u) u) (t := List.replicate (23 - ndS u) 0) (τ := [])
    simp only [List.nil_append, List.length_nil, List.length_cons, dD_len, List.cons_append, Nat.zero_add] at hb
    have hr : V.rbs 1 (ofBytes (0 :: (dD (ndS u) u ++ List.replicate (23 - ndS u) 0))) = true := rbs_bytes
    rw [if_neg c, e, hdg]
    simp +contextual -implicitDefEqProofs (disch := first | assumption | omega | (simp -implicitDefEqProofs only [go_sem]; try omega)) only [↓reduceIte, go_sem, iP, iN, w64, w8, w32, j_Zl_0, g1, g2, g3, g4, hb, c]
theorem d_FormatInt (n : Int) (hn : -1099511627776 ≤ n ∧ n ≤ 1099511627776) (σ : Objs) (hσ : Wf σ) : E cx 95 [.int .i64 n, .int .i64 10] σ = some (.str (sgnS n), σ) := by
  refine E_any cx_cl ?_ rfl rfl σ hσ
  rw [e_Zl]
  by_cases c : 0 ≤ n ∧ n < 100
  · obtain ⟨c1, c2⟩ := c
    have g := fun σ hσ => d_small n.toNat (by omega) σ hσ
    have e : ((n.toNat : Nat) : Int) = n := by omega
    have e2 : sgnS n = digs n.toNat := if_neg (by omega)
    rw [e] at g
    rw [e2]
    simp +contextual -implicitDefEqProofs (disch := first | assumption | omega | (simp -implicitDefEqProofs only [go_sem]; try omega)) only [↓reduceIte, go_sem, iP, iN, w64, w8, w32, s_Zl, g, c1, c2]
  · by_cases c1 : n < 0
    · have g := fmt_0 (-n).toNat (by omega) n (.inr (by omega))
      have e : (((-n).toNat : Nat) : Int) = -n := by omega
      rw [e] at g
      have w1 : IntKind.u64.wrap n = n + 18446744073709551616 := by simp only [IntKind.wrap_u64]; omega
      have w2 : IntKind.u64.wrap (0 - (n + 18446744073709551616)) = -n := by simp only [IntKind.wrap_u64]; omega
      have c2 : ¬ 0 ≤ n := by omega
      simp +contextual -implicitDefEqProofs (disch := first | assumption | omega | (simp -implicitDefEqProofs only [go_sem]; try omega)) only [↓reduceIte, go_sem, iP, iN, w64, w8, w32, s_Zl, g, c1, c2, w1, w2]
    · have g := fmt_0 n.toNat (by omega) n (.inl (by omega))
      have e : ((n.toNat : Nat) : Int) = n := by omega
      rw [e] at g
      have c2 : 0 ≤ n := by omega
      have c3 : ¬ n < 100 := fun h => c ⟨c2, h⟩
      simp +contextual -implicitDefEqProofs (disch := first | assumption | omega | (simp -implicitDefEqProofs only [go_sem]; try omega)) only [↓reduceIte, go_sem, iP, iN, w64, w8, w32, s_Zl, g, c1, c2, c3]
theorem d_Itoa (n : Int) (hn : -1099511627776 ≤ n ∧ n ≤ 1099511627776) (σ : Objs) (hσ : Wf σ) : E cx 39 [.int .i64 n] σ = some (.str (sgnS n), σ) := by
  have h1 := fun σ hσ => d_FormatInt n hn σ hσ
  have h2 : ∀ σ, Wf σ → E cx 68 [.int .i64 n] σ = some (.str (sgnS n), σ) := fun σ hσ => by
    rw [e_Zm]
    simp +contextual -implicitDefEqProofs (disch := first | assumption | omega | (simp -implicitDefEqProofs only [go_sem]; try omega)) only [↓reduceIte, go_sem, iP, iN, w64, w8, w32, s_Zm, h1]
  rw [e_Zv]
  simp +contextual -implicitDefEqProofs (disch := first | assumption | omega | (simp -implicitDefEqProofs only [go_sem]; try omega)) only [↓reduceIte, go_sem, iP, iN, w64, w8, w32, s_Zv, h2]
end Go.Proofs.YtkgkmlhljeidhaaGreatDoor
set_option linter.unusedSimpArgs false
set_option linter.unusedVariables false
set_option linter.unusedSectionVars false
namespace Go.Proofs.YtkgkmlhljeidhaaGreatDoor
open Go.Ev
set_option maxRecDepth 100000
set_option maxHeartbeats 8000000
section
variable (a b : Int) (ha : -1099511627776 ≤ a ∧ a ≤ 1099511627776) (hb : -1099511627776 ≤ b ∧ b ≤ 1099511627776)
include ha hb
theorem d_aText0 (h : List UInt8) (hh : h.length ≤ 2199023255560) : j_Zb_0 (Mi cx) 0 (.int .i64 b) (.str h) [] = some (.str (if 0 < b then h ++ [43] ++ sgnS b else if b < 0 then h ++ sgnS b else h), []) := by
  have hm : strMax = 4611686018427387904 := rfl
  have h1 := fun σ hσ => d_Itoa b hb σ hσ
  have hl := sgn_len b hb
  generalize sgnS b = B at h1 hl ⊢
  have a1 : eB .add .no (.str h) (.str [43]) = some (.str (h ++ [43])) := bs_add (by simp only [List.length_cons, List.length_nil]; omega)
  have a2 : eB .add .no (.str (h ++ [43])) (.str B) = some (.str (h ++ [43] ++ B)) := bs_add (by simp only [List.length_append, List.length_cons, List.length_nil]; omega)
  have a3 : eB .add .no (.str h) (.str B) = some (.str (h ++ B)) := bs_add (by omega)
  generalize h ++ [43] ++ B = x at a2 ⊢
  generalize h ++ [43] = y at a1 a2
  generalize h ++ B = z at a3 ⊢
  by_cases c1 : 0 < b
  · have c3 : ¬ b = 0 := by omega
    rw [if_pos c1]
    simp +contextual -implicitDefEqProofs (disch := first | assumption | omega | (simp -implicitDefEqProofs only [go_sem]; try omega)) only [↓reduceIte, go_sem, iP, iN, w64, w8, w32, j_Zb_0, j_Zb_1, j_Zb_2, h1, a1, a2, c1, c3]
  · rw [if_neg c1]
    by_cases c2 : b < 0
    · have c3 : ¬ b = 0 := by omega
      rw [if_pos c2]
      simp +contextual -implicitDefEqProofs (disch := first | assumption | omega | (simp -implicitDefEqProofs only [go_sem]; try omega)) only [↓reduceIte, go_sem, iP, iN, w64, w8, w32, j_Zb_0, j_Zb_1, j_Zb_2, h1, a3, c1, c3]
    · have c3 : b = 0 := by omega
      rw [if_neg c2]
      simp +contextual -implicitDefEqProofs (disch := first | assumption | omega | (simp -implicitDefEqProofs only [go_sem]; try omega)) only [↓reduceIte, go_sem, iP, iN, w64, w8, w32, j_Zb_0, j_Zb_1, j_Zb_2, c3]
theorem d_aText (σ : Objs) (hσ : Wf σ) : E cx 21 [.int .i64 a, .int .i64 b] σ = some (.str (anS a b), σ) := by
  refine E_any cx_cl ?_ rfl rfl σ hσ
  have hm : strMax = 4611686018427387904 := rfl
  have h1 := fun σ hσ => d_Itoa b hb σ hσ
  have h2 := fun σ hσ => d_Itoa a ha σ hσ
  have hl := sgn_len a ha
  have r := fun h hh => d_aText0 a b ha hb h hh
  have r1 := r [110] (by simp)
  have r2 := r [45, 110] (by simp)
  have r3 := r (sgnS a ++ [110]) (by simp; omega)
  rw [e_Zb]
  unfold anS
  by_cases c0 : a = 0
  · rw [if_pos c0]
    simp +contextual -implicitDefEqProofs (disch := first | assumption | omega | (simp -implicitDefEqProofs only [go_sem]; try omega)) only [↓reduceIte, go_sem, iP, iN, w64, w8, w32, s_Zb, h1, c0]
  · rw [if_neg c0]
    unfold anH
    generalize sgnS a = A at h2 hl r3 ⊢
    have a1 : eB .add .no (.str A) (.str [110]) = some (.str (A ++ [110])) := bs_add (by simp only [List.length_cons, List.length_nil]; omega)
    generalize A ++ [110] = x at a1 r3 ⊢
    by_cases c1 : a = 1
    · subst c1
      simp +contextual -implicitDefEqProofs (disch := first | assumption | omega | (simp -implicitDefEqProofs only [go_sem]; try omega)) only [↓reduceIte, go_sem, iP, iN, w64, w8, w32, s_Zb, r1]
    · by_cases c2 : a = -1
      · subst c2
        simp +contextual -implicitDefEqProofs (disch := first | assumption | omega | (simp -implicitDefEqProofs only [go_sem]; try omega)) only [↓reduceIte, go_sem, iP, iN, w64, w8, w32, s_Zb, r2]
      · simp +contextual -implicitDefEqProofs (disch := first | assumption | omega | (simp -implicitDefEqProofs only [go_sem]; try omega)) only [↓reduceIte, go_sem, iP, iN, w64, w8, w32, s_Zb, h2, a1, r3, c0, c1, c2]
end
theorem low_110 (n : List UInt8) : lowS (110 :: n) = 110 :: lowS n := by
  show lowB 110 :: lowS n = _
  have : lowB 110 = 110 := by decide
  rw [this]
theorem low_45 (n : List UInt8) : lowS (45 :: n) = 45 :: lowS n := by
  show lowB 45 :: lowS n = _
  have : lowB 45 = 45 := by decide
  rw [this]
theorem texts_all (a b : Int) : ∃ n, parA (readS (anS a b)) = finA (vS a).1 (vS b).1 n (comb (vS a).2 (vS b).2) true ∧ ((vS a).2 = 0 → (vS b).2 = 0 → n = ((readS (anS a b)).length : Int) - 1) := by
  have hp1 : ∀ n : List UInt8, preB (110 :: n) [110] = true := fun n => decide_eq_true rfl
  have hp2 : ∀ n : List UInt8, preB (110 :: n) [45] = false := fun n => by
    unfold preB
    apply decide_eq_false
    intro h
    have : [(110 : UInt8)] = [45] := h
    exact absurd this (by decide)
  have hp3 : ∀ n : List UInt8, preB (45 :: 110 :: n) [45] = true := fun n => decide_eq_true rfl
  have hp4 : ∀ n : List UInt8, preB (45 :: 110 :: n) [45, 110] = true := fun n => decide_eq_true rfl
  have hne1 : ∀ (n : List UInt8), 110 :: n ≠ [101, 118, 101, 110] ∧ 110 :: n ≠ [111, 100, 100] := fun n => ⟨fun h => by injection h with h _; exact absurd h (by decide), fun h => by injection h with h _; exact absurd h (by decide)⟩
  have hne2 : ∀ (n : List UInt8), 45 :: n ≠ [101, 118, 101, 110] ∧ 45 :: n ≠ [111, 100, 100] := fun n => ⟨fun h => by injection h with h _; exact absurd h (by decide), fun h => by injection h with h _; exact absurd h (by decide)⟩
  by_cases c0 : a = 0
  · subst c0
    obtain ⟨g, d, hg, hgo, hd⟩ := sgn_form b
    have hv := wS_sgn b
    have e0 : anS 0 b = g ++ d := by
      rw [← hg]
      exact if_pos rfl
    rw [hg] at hv
    have hab : Asc (g ++ d) := by
      rcases hgo with rfl | rfl
      · exact hd.asc
      · exact (asc1 (.inr (.inr (.inr rfl)))).app hd.asc
    have k1 := lex_end' (b := g ++ d) (p := [] ++ (g ++ d)) rfl
    have k2 := lx_num (p := []) (g := g) (by rcases hgo with h | h <;> simp [h]) hd k1
    rw [e0, lex_read' hab k2]
    refine ⟨0 + 1, ?_, fun _ _ => rfl⟩
    unfold parA
    have hs : skS [⟨10, (([] : List UInt8).length : Int), (([] : List UInt8).length : Int) + ((g ++ d).length : Int), [], g ++ d, true⟩, ⟨0, (g ++ d).length, (g ++ d).length, [], [], false⟩] 0 = 0 := skS_no (show (10 : Int) ≠ 13 by decide)
    rw [hs]
    have hf : fixA ⟨10, (([] : List UInt8).length : Int), (([] : List UInt8).length : Int) + ((g ++ d).length : Int), [], g ++ d, true⟩ = some (0, (wS (g ++ d)).1, (wS (g ++ d)).2) := by
      unfold fixA
      rw [if_neg (by rintro ⟨h, _⟩; simp at h), if_neg (by rintro ⟨h, _⟩; simp at h), if_pos ⟨rfl, rfl⟩]
    have ht : tk [⟨10, (([] : List UInt8).length : Int), (([] : List UInt8).length : Int) + ((g ++ d).length : Int), [], g ++ d, true⟩, ⟨0, (g ++ d).length, (g ++ d).length, [], [], false⟩] 0 = ⟨10, (([] : List UInt8).length : Int), (([] : List UInt8).length : Int) + ((g ++ d).length : Int), [], g ++ d, true⟩ := rfl
    rw [ht, hf, hv]
    rfl
  · by_cases c1 : a = 1
    · subst c1
      refine texts_h 1 b c0 (fun n => ⟨1, (([] : List UInt8).length : Int), (([] : List UInt8).length : Int) + ((110 :: n).length : Int), 110 :: n, [], false⟩) ?_ ?_ ?_ ?_ (asc1 (.inr (.inl rfl)))
      · intro bs q n L h1 h2 h3 h4 h5 h6
        exact lx_id (p := []) (.inl rfl) h1 h2 h3 h4 h5 h6
      · intro n; exact (show (1 : Int) ≠ 13 by decide)
      · intro n
        unfold fixA
        simp only [low_110]
        rw [if_neg (by rintro ⟨_, h⟩; exact (hne1 _).1 h), if_neg (by rintro ⟨_, h⟩; exact (hne1 _).2 h), if_neg (by rintro ⟨h, _⟩; simp at h)]
      · intro n L hn
        unfold headA
        have ht : tk ((⟨1, (([] : List UInt8).length : Int), (([] : List UInt8).length : Int) + ((110 :: n).length : Int), 110 :: n, [], false⟩ : Tok) :: L) 0 = ⟨1, (([] : List UInt8).length : Int), (([] : List UInt8).length : Int) + ((110 :: n).length : Int), 110 :: n, [], false⟩ := rfl
        rw [ht, if_neg (by rintro ⟨h, _⟩; simp at h), if_pos rfl]
        simp only [low_110, hn]
        rw [hp2, if_neg (by simp)]
        unfold cutN
        rw [hp1]
        rfl
    · by_cases c2 : a = -1
      · subst c2
        refine texts_h (-1) b c0 (fun n => ⟨1, (([] : List UInt8).length : Int), (([] : List UInt8).length : Int) + ((45 :: 110 :: n).length : Int), 45 :: 110 :: n, [], false⟩) ?_ ?_ ?_ ?_ ((asc1 (.inr (.inr (.inr rfl)))).app (asc1 (.inr (.inl rfl))))
        · intro bs q n L h1 h2 h3 h4 h5 h6
          exact lx_id (p := []) (c := 45) (n := 110 :: n) (.inr ⟨rfl, by rw [List.cons_append, ch_as]; rfl⟩) ((asc1 (.inr (.inl rfl))).app h1) (by
            intro x hx
            have hx : x ∈ (110 : Int) :: asc n := hx
            rcases List.mem_cons.1 hx with hx | hx
            · rw [hx]; rfl
            · exact h2 x hx) h3 h4 h5 h6
        · intro n; exact (show (1 : Int) ≠ 13 by decide)
        · intro n
          unfold fixA
          simp only [low_45]
          rw [if_neg (by rintro ⟨_, h⟩; exact (hne2 _).1 h), if_neg (by rintro ⟨_, h⟩; exact (hne2 _).2 h), if_neg (by rintro ⟨h, _⟩; simp at h)]
        · intro n L hn
          unfold headA
          have ht : tk ((⟨1, (([] : List UInt8).length : Int), (([] : List UInt8).length : Int) + ((45 :: 110 :: n).length : Int), 45 :: 110 :: n, [], false⟩ : Tok) :: L) 0 = ⟨1, (([] : List UInt8).length : Int), (([] : List UInt8).length : Int) + ((45 :: 110 :: n).length : Int), 45 :: 110 :: n, [], false⟩ := rfl
          rw [ht, if_neg (by rintro ⟨h, _⟩; simp at h), if_pos rfl]
          simp only [low_45, low_110, hn]
          rw [hp3, if_pos rfl]
          unfold cutN
          rw [hp4]
          rfl
      · obtain ⟨g, d, hg, hgo, hd⟩ := sgn_form a
        have hv := wS_sgn a
        have hH : anH a = (g ++ d) ++ [110] := by
          unfold anH
          rw [if_neg c1, if_neg c2, hg]
        rw [hg] at hv
        have hgo' : g = [] ∨ g = [43] ∨ g = [45] := by rcases hgo with h | h <;> simp [h]
        refine texts_h a b c0 (fun n => ⟨12, (([] : List UInt8).length : Int), (([] : List UInt8).length : Int) + ((g ++ (d ++ (110 :: n))).length : Int), 110 :: n, g ++ d, true⟩) ?_ ?_ ?_ ?_ ?_
        · intro bs q n L h1 h2 h3 h4 h5 h6
          have e : anH a ++ n = g ++ (d ++ (110 :: n)) := by rw [hH]; simp
          rw [e] at h6 ⊢
          exact lx_dim (p := []) hgo' hd (.inr rfl) h1 h2 h3 h4 h6
        · intro n; exact (show (12 : Int) ≠ 13 by decide)
        · intro n
          unfold fixA
          rw [if_neg (by rintro ⟨h, _⟩; simp at h), if_neg (by rintro ⟨h, _⟩; simp at h), if_neg (by rintro ⟨h, _⟩; simp at h)]
        · intro n L hn
          unfold headA
          have ht : tk ((⟨12, (([] : List UInt8).length : Int), (([] : List UInt8).length : Int) + ((g ++ (d ++ (110 :: n))).length : Int), 110 :: n, g ++ d, true⟩ : Tok) :: L) 0 = ⟨12, (([] : List UInt8).length : Int), (([] : List UInt8).length : Int) + ((g ++ (d ++ (110 :: n))).length : Int), 110 :: n, g ++ d, true⟩ := rfl
          rw [ht, if_neg (by rintro ⟨h, _⟩; simp at h), if_neg (by simp), if_pos rfl, if_pos rfl]
          simp only [low_110, hn]
          rw [hp1, if_pos rfl, hv]
          unfold cutN
          rw [hp1]
          rfl
        · rw [hH]
          refine Asc.app ?_ (asc1 (.inr (.inl rfl)))
          rcases hgo with rfl | rfl
          · exact hd.asc
          · exact (asc1 (.inr (.inr (.inr rfl)))).app hd.asc
end Go.Proofs.YtkgkmlhljeidhaaGreatDoor
set_option linter.unusedSimpArgs false
set_option linter.unusedVariables false
namespace Go.Proofs.YtkgkmlhljeidhaaGreatDoor
open Go.Ev
set_option maxRecDepth 100000
theorem d_Kind (k : Int) (σ : Objs) : E cx 18 [errV k] σ = some (.int .i64 k, σ) := by
  rw [E_prim (C := cx) (h := kindP) (by kernel_rfl)]
  unfold errV
  by_cases h : k = 0
  · subst h; rfl
  · rw [if_neg h]; rfl
end Go.Proofs.YtkgkmlhljeidhaaGreatDoor
set_option linter.unusedSimpArgs false
set_option linter.unusedVariables false
set_option linter.unusedSectionVars false
namespace Go.Proofs.YtkgkmlhljeidhaaGreatDoor
open Go.Ev
set_option maxRecDepth 100000
set_option maxHeartbeats 8000000
theorem mm_2 (a b : Int) : mmV true [.int .i64 a, .int .i64 b] = some (.int .i64 (if a < b then b else a)) := rfl
theorem fin_over {a b : Int} (n : Int) (h : ¬ ((vS a).2 = 0 ∧ (vS b).2 = 0)) : finA (vS a).1 (vS b).1 n (comb (vS a).2 (vS b).2) true = (0, 0, 0, 3) := by
  have h1 := vS_e a
  have h2 := vS_e b
  unfold finA comb
  generalize vS a = x at h h1 ⊢
  generalize vS b = y at h h2 ⊢
  rcases h1 with h1 | h1
  · rcases h2 with h2 | h2
    · exact absurd ⟨h1, h2⟩ h
    · simp [h1, h2]
  · simp [h1]
theorem vS_in {a : Int} (h : -2147483647 ≤ a ∧ a ≤ 2147483647) : vS a = (a, 0) := if_pos h
theorem vS_out {a : Int} (h : ¬ (-2147483647 ≤ a ∧ a ≤ 2147483647)) : vS a = (0, 3) := if_neg h
theorem anS_len (a b : Int) (ha : -1099511627776 ≤ a ∧ a ≤ 1099511627776) (hb : -1099511627776 ≤ b ∧ b ≤ 1099511627776) : (anS a b).length ≤ 30 := by
  have key : ∀ n : Int, -1099511627776 ≤ n ∧ n ≤ 1099511627776 → (sgnS n).length ≤ 14 := by
    intro n hn
    have hd : ∀ u : Nat, u ≤ 1099511627776 → (digs u).length ≤ 13 := by
      intro u hu
      by_cases h0 : u = 0
      · rw [h0]; decide
      · rw [digs_nd u (by omega) (by omega), dD_len]
        exact (nd_ok u (by omega) (by omega)).2.1
    unfold sgnS
    split
    · have := hd (-n).toNat (by omega)
      rw [List.length_cons]; omega
    · have := hd n.toNat (by omega)
      omega
  have h1 := key a ha
  have h2 := key b hb
  have h3 : (anH a).length ≤ 15 := by
    unfold anH
    split
    · simp
    · split
      · simp
      · rw [List.length_append]; simp; omega
  unfold anS
  split
  · omega
  · split
    · simp only [List.length_append, List.length_cons, List.length_nil]; omega
    · split
      · rw [List.length_append]; omega
      · omega
theorem d_AnbTexts (a b : Int) (ra : -9223372036854775808 ≤ a ∧ a ≤ 9223372036854775807) (rb : -9223372036854775808 ≤ b ∧ b ≤ 9223372036854775807) : E cx 8 [.int .i64 a, .int .i64 b] [] = some (.bool true, []) := by
  have h0 := d_speaks
  rw [e_Z16]
  by_cases c1 : a < -1099511627776
  · simp +contextual -implicitDefEqProofs (disch := first | assumption | omega | (simp -implicitDefEqProofs only [go_sem]; try omega)) only [↓reduceIte, go_sem, iP, iN, w64, w8, w32, s_Z16, h0, c1]
  by_cases c2 : 1099511627776 < a
  · simp +contextual -implicitDefEqProofs (disch := first | assumption | omega | (simp -implicitDefEqProofs only [go_sem]; try omega)) only [↓reduceIte, go_sem, iP, iN, w64, w8, w32, s_Z16, h0, c1, c2]
  by_cases c3 : b < -1099511627776
  · simp +contextual -implicitDefEqProofs (disch := first | assumption | omega | (simp -implicitDefEqProofs only [go_sem]; try omega)) only [↓reduceIte, go_sem, iP, iN, w64, w8, w32, s_Z16, h0, c1, c2, c3]
  by_cases c4 : 1099511627776 < b
  · simp +contextual -implicitDefEqProofs (disch := first | assumption | omega | (simp -implicitDefEqProofs only [go_sem]; try omega)) only [↓reduceIte, go_sem, iP, iN, w64, w8, w32, s_Z16, h0, c1, c2, c3, c4]
  have ha : -1099511627776 ≤ a ∧ a ≤ 1099511627776 := by omega
  have hb : -1099511627776 ≤ b ∧ b ≤ 1099511627776 := by omega
  have g1 := d_aText a b ha hb [] wf_nil
  have g2 := d_rTextA a b ha hb [] wf_nil
  have hl := anS_len a b ha hb
  have g3 := d_Read (anS a b) (by omega) [] wf_nil
  have hT := readS_ok (anS a b) (by omega)
  have g4 := d_aParse hT.1 [] wf_nil
  obtain ⟨n, hp, hn⟩ := texts_all a b
  rw [hp] at g4
  have m1 := mm_2 a (0 - a)
  have m2 := mm_2 b (0 - b)
  generalize hL : readS (anS a b) = L at g3 g4 hn hT
  generalize anS a b = s at g1 g2 g3
  by_cases d1 : -2147483647 ≤ a ∧ a ≤ 2147483647
  · by_cases d2 : -2147483647 ≤ b ∧ b ≤ 2147483647
    · have e1 := vS_in d1
      have e2 := vS_in d2
      rw [e1, e2] at g4 hn
      have hn' := hn rfl rfl
      have e3 : finA (a, (0 : Int)).1 (b, (0 : Int)).1 n (comb (a, (0 : Int)).2 (b, (0 : Int)).2) true = (a, b, n, 0) := rfl
      have e0 : errV 0 = .nili := rfl
      rw [e3] at g4
      simp only [parE, e0] at g4
      have k1 : ¬ 2147483647 < (if a < 0 - a then 0 - a else a) := by split <;> omega
      have k2 : ¬ 2147483647 < (if b < 0 - b then 0 - b else b) := by split <;> omega
      have hlen := hT.1.1
      simp +contextual -implicitDefEqProofs (disch := first | assumption | omega | (simp -implicitDefEqProofs only [go_sem]; try omega)) only [↓reduceIte, go_sem, iP, iN, w64, w8, w32, s_Z16, h0, c1, c2, c3, c4, g1, g2, g3, g4, m1, m2, k1, k2, hn']
    · have e2 := vS_out d2
      rw [fin_over n (by rw [e2]; simp)] at g4
      have e3 : errV 3 = errV 3 := rfl
      simp only [parE] at g4
      have k2 : 2147483647 < (if b < 0 - b then 0 - b else b) := by split <;> omega
      have k1 : ¬ 2147483647 < (if a < 0 - a then 0 - a else a) := by split <;> omega
      have h5 := d_Kind 3 []
      simp +contextual -implicitDefEqProofs (disch := first | assumption | omega | (simp -implicitDefEqProofs only [go_sem]; try omega)) only [↓reduceIte, go_sem, iP, iN, w64, w8, w32, s_Z16, h0, c1, c2, c3, c4, g1, g2, g3, g4, m1, m2, k1, k2, h5]
  · have e1 := vS_out d1
    rw [fin_over n (by rw [e1]; simp)] at g4
    simp only [parE] at g4
    have k1 : 2147483647 < (if a < 0 - a then 0 - a else a) := by split <;> omega
    have h5 := d_Kind 3 []
    simp +contextual -implicitDefEqProofs (disch := first | assumption | omega | (simp -implicitDefEqProofs only [go_sem]; try omega)) only [↓reduceIte, go_sem, iP, iN, w64, w8, w32, s_Z16, h0, c1, c2, c3, c4, g1, g2, g3, g4, m1, k1, h5]
end Go.Proofs.YtkgkmlhljeidhaaGreatDoor
namespace Go.Proofs.YtkgkmlhljeidhaaGreatDoor
open Go.ChangeShapes Go.WideShapes Go.ChangeAt Go.RowKit
theorem Tryz.ownKnob : ownKnob Tryz.prog.godebug = none := by kernel_rfl
theorem Tryz.laidOut : laidOutB Tryz.prog = true := by kernel_rfl
section
variable {H : Type} {enc : TypeId × Value → H} {P : Program}
theorem trodAll_kept (hl : laidOutB P = true) {W W' : World} {sp : Nat → Bool} : ∀ (ts : List TypeId) (vs : List Value) (ds : List (DataW H)) (ps : List MemPlace),
    (∀ t ∈ ts, P.readableRec t = true ∧ t < P.types.size) → DataW.TrodAll enc P W 0 (fun _ => true) true ts vs ds ps → (∀ p ∈ ps, W.sameAt W' p) → (∀ p ∈ ps, sp p.block = true) →
    DataW.TrodAll enc P W' 0 sp true ts vs ds ps
  | [], _, _, _, _, h, _, _ => by
    obtain ⟨rfl, rfl, rfl⟩ := trodAll_nil h
    exact trodAll_mk0
  | t :: ts, _, _, _, ht, h, h1, h2 => by
    obtain ⟨v, vs', d, ds', p, q, rfl, rfl, rfl, hv, hr⟩ := trodAll_cons h
    have ht0 := ht t (by simp)
    exact trodAll_cons_mk (WideElems.Trod_stays hl ht0.1 ht0.2 hv (fun x hx => h1 x (by simp [hx])) (fun x hx => h2 x (by simp [hx])))
      (trodAll_kept hl ts vs' ds' q (fun t h => ht t (by simp [h])) hr (fun x hx => h1 x (by simp [hx])) (fun x hx => h2 x (by simp [hx])))
theorem law_post {f : Func} {s : ChangeSpec} {tb : TypeId} {W W' : World} {args : Array Value} {ds : List (DataW H)} {before : List MemPlace}
    (hl : laidOutB P = true) (ht : ∀ t ∈ f.params.toList, P.readableRec t = true ∧ t < P.types.size)
    (hW : DataW.Whole enc P f.params.toList s.vars false W args.toList ds [] before) (hv : s.vars = []) (hr : f.resultTypes = #[tb]) (hb : P.underlying tb = some .bool)
    (hfn : s.fn H ds = { results := [.lit (.bool true)], args := ds }) (hbl : Below W.heap.size W W') : s.post enc P f false true false false W args (.bool true) W' := by
  have hlt : ∀ p ∈ before, p.block < W.heap.size := fun p hp => hW.lt p hp
  have hW0 := hW
  obtain ⟨p, q, hA, hV, hpq, hz, hn⟩ := hW
  rw [hv] at hV
  obtain ⟨_, rfl⟩ := trodVars_none hV
  simp only [List.append_nil] at hpq
  subst hpq
  have hfn' : s.fn H (ds ++ []) = { results := [.lit (.bool true)], args := ds } := by rw [List.append_nil]; exact hfn
  have hold : ∀ x ∈ before, (fun b => decide (b < W.heap.size)) x.block = true := fun x hx => by simpa using hlt x hx
  have keep : ∀ sp : Nat → Bool, (∀ x ∈ before, sp x.block = true) → DataW.TrodAll enc P W' 0 sp true f.params.toList args.toList ds before := fun sp hs =>
    trodAll_kept hl _ _ _ _ ht hA (fun x hx => hbl.same (hlt x hx)) hs
  have hres : ∀ (b : Nat) (sp : Nat → Bool) (hd : Bool), DataW.TrodAll enc P W' b sp hd f.resultTypes.toList ((Value.bool true).resultList f.resultTypes.size) (s.fn H (ds ++ [])).results [] := fun b sp hd => by
    rw [hfn', hr]; exact trodAll_mk1 (shut_bool hb true)
  refine ⟨ds, [], before, [], before, [], hW0, hres _ _ _, ?_, ?_, World.keptBut_mono (fun x hx => ⟨hx, Or.inr (Or.inl hx)⟩) (hbl.frame (· ∈ before)), fun h => by cases h⟩
  · rw [hfn']; exact keep _ hold
  · rw [hv, hfn']; rfl
end
end Go.Proofs.YtkgkmlhljeidhaaGreatDoor
set_option linter.unusedSimpArgs false
set_option linter.unusedVariables false
namespace Go.Proofs.YtkgkmlhljeidhaaGreatDoor
open Go.ChangeShapes Go.WideShapes Go.RowKit Go.Joins
open Go.ChangeMaps (open_string)
theorem Tryz.et : Tryz.prog.globalNamed "errors.errorType" = some 0 := by kernel_rfl
theorem Tryz.rt : (Tryz.prog.cutTypes.find? (fun x => x.1 == "internal/reflectlite.rtype")).map (fun x => x.2) = some 128 := by kernel_rfl
theorem Tryz.oneRow : ((List.range 198).filter fun t => Tryz.prog.rowNamed t [101, 114, 114, 111, 114]) = [27] := by kernel_rfl
theorem Tryz.ntypes : Tryz.prog.types.size = 198 := by kernel_rfl
theorem errVar_of {l : List (String × DataW Unit)} {d : DataW Unit} (hl : (l.filter fun x => x.2.handleName?.isSome) = [("errors.errorType", d)]) (hd : d.handleName? = some [101, 114, 114, 111, 114]) (hf : d.funcsIn? = none) {W : World} (h : laidMetH Tryz.prog l W) : ErrVar W := by
  obtain ⟨_, h'⟩ := laidMetH_iff.1 h
  rw [hl] at h'
  have h2 := h' _ (List.mem_singleton.2 rfl)
  simp only [hf] at h2
  obtain ⟨name, u, ty, e1, e2, e3, e4, e5⟩ := h2
  have en : name = [101, 114, 114, 111, 114] := (Option.some.inj (hd.symm.trans e1)).symm
  subst en
  obtain rfl := Option.some.inj (Tryz.rt.symm.trans e2)
  have hm : ty ∈ (List.range 198).filter fun t => Tryz.prog.rowNamed t [101, 114, 114, 111, 114] := List.mem_filter.2 ⟨List.mem_range.2 (by rw [← Tryz.ntypes]; exact e3), e4⟩
  rw [Tryz.oneRow] at hm
  obtain rfl := List.mem_singleton.1 hm
  have hh : typeHandle Tryz.prog 27 = .pointer (some ⟨7, 27, none⟩) := by kernel_rfl
  rw [hh] at e5
  simpa [ErrVar] using World.var?_cell Tryz.et e5 0
noncomputable def laidWorld (os : Os) (l : List (String × DataW Unit)) : World :=
  let w0 := World.laidAll Tryz.prog os (l.filter fun x => x.2.handleName?.isNone)
  { w0 with heap := w0.heap.modify 0 fun
      | .cells _ t frozen => .cells #[.iface 128 (.agg #[.pointer (some ⟨7, 27, none⟩)])] t frozen
      | o => o }
theorem gtab_ok {W : World} (h : Lib.TabIs Tryz.prog W "internal/strconv.uint64pow10" .u64 Lib.pow10Tab) : ∀ g, Ev.Rep (Ev.memOf W) Ev.noPlc (.pointer (some ⟨g, 0, none⟩)) (gTab g) := by
  intro g
  unfold gTab
  split
  · rename_i e
    subst e
    have hg : Tryz.prog.globalNamed "internal/strconv.uint64pow10" = some 3 := by kernel_rfl
    have hl : Lib.pow10Tab.length = 20 := Lib.pow10Tab_length
    have hus : ∀ (i : Nat) u, (Lib.pow10Tab.map (Value.int .u64))[i]? = some u → i < 20 ∧ u = .int .u64 (Lib.pow10Tab.getD i 0) := by
      intro i u hu
      have hi : i < 20 := by
        have := (List.getElem?_eq_some_iff.1 hu).1
        rw [List.length_map] at this
        omega
      refine ⟨hi, ?_⟩
      rw [List.getElem?_map, List.getElem?_eq_getElem (by omega)] at hu
      simp only [Option.map_some, Option.some.injEq] at hu
      rw [← hu, List.getD_eq_getElem?_getD, List.getElem?_eq_getElem (by omega)]
      rfl
    have key := Ev.Rep.eptr (M := Ev.memOf W) (ι := Ev.noPlc) pow10V 0 3 0 (Lib.pow10Tab.map (Value.int .u64)) (by rw [List.length_map, hl]; rfl)
      (fun i u hu => by
        obtain ⟨hi, rfl⟩ := hus i u hu
        rw [Nat.zero_add]
        exact h.cell hg i (by omega))
      (fun i u c hu hc => by
        obtain ⟨hi, rfl⟩ := hus i u hu
        unfold pow10V at hc
        rw [List.getElem?_map, List.getElem?_range hi] at hc
        simp only [Option.map_some, Option.some.injEq] at hc
        rw [← hc, Lib.pow10Tab_at i hi]
        exact .int _ _)
    exact key
  · exact .any _
theorem pow_of {W : World} (h : laidMetH Tryz.prog Rows.anbTextsRow.laid W) : Lib.TabIs Tryz.prog W "internal/strconv.uint64pow10" .u64 Lib.pow10Tab := by
  obtain ⟨h1, _⟩ := laidMetH_iff.1 h
  have h2 : laidMet Tryz.prog (("math/bits.deBruijn32tab", Rows.laid_math_bits_deBruijn32tab) :: ("math/bits.deBruijn64tab", Rows.laid_math_bits_deBruijn64tab) :: ("internal/strconv.uint64pow10", Lib.tabData .u64 Lib.pow10Tab) :: [("unicode/utf8.acceptRanges", Rows.laid_unicode_utf8_acceptRanges), ("unicode/utf8.first", Rows.laid_unicode_utf8_first)]) W := h1
  exact Lib.tabIs_of_head (g := 3) (t := 164) (e := 49) (n := 20) (by kernel_rfl) (by kernel_rfl) (by kernel_rfl) (by kernel_rfl) (by kernel_rfl) (by kernel_rfl) h2.tail.tail
set_option maxRecDepth 100000 in
theorem anbTexts_lifted (os : Os) (started : os.Started) (H : Type) (enc : TypeId × Value → H) :
    ReturnsInHanded {} Tryz.checked os 8 .any (fun w args => (Rows.anbTextsSpec.pre enc Tryz.prog Tryz.f8 [] false w args ∧ laidMetH Tryz.prog Rows.anbTextsRow.laid w) ∧ sizedMet enc Tryz.prog Tryz.f8 (OpenSpec.ofChange Rows.anbTextsSpec) false w args)
      (Rows.anbTextsSpec.post enc Tryz.prog Tryz.f8 false true false false) := by
  refine returnsInHanded_of_change_and (C := Tryz.checked) (X := fun w _ => laidMetH Tryz.prog Rows.anbTextsRow.laid w) (fun _ _ _ hh h => h.of_heap hh) Tryz.ownKnob started (by kernel_rfl) Tryz.func8
    (ChangeSpec.witness_shaped (enc := enc) (C := Tryz.checked) (os := os) (X := fun w _ => laidMetH Tryz.prog Rows.anbTextsRow.laid w) false (laidWorld os Rows.anbTextsRow.laid) #[.int .i64 0, .int .i64 0] 8 (World.laidAll_os _ _ _) (World.shaped_of_ZipB (by kernel_rfl) (by kernel_rfl)) (by kernel_rfl) (by kernel_rfl) (by kernel_rfl)
      (laidMetH_of_parts (laidMet_of_run' 8 (by kernel_rfl) (by kernel_rfl)) (by kernel_rfl))) ?_
  intro W base args ds gs before hval0 hW _ _ hL _
  have hval : ∀ (j : Nat) t v, Tryz.f8.params[j]? = some t → args[j]? = some v → Value.okWide Tryz.prog W .any base t v := hval0
  have hW' := hW
  obtain ⟨p, q, hA0, hV0, rfl, hfz, hnd⟩ := hW
  have hA : DataW.TrodAll enc Tryz.prog W 0 (fun _ => true) true Tryz.f8.params.toList args.toList ds p := hA0
  have hV : DataW.TrodVars enc Tryz.prog W (fun _ => true) [] gs q := hV0
  rw [Tryz.params8] at hA hval
  obtain ⟨v0, v1, d0, d1, p0, p1, rfl, rfl, rfl, h0, h1⟩ := trodAll_two hA
  obtain ⟨rfl, rfl⟩ := trodVars_none hV
  obtain ⟨a, rfl, hd0, hp0, w0⟩ := open_int Tryz.underlying3 (hval 0 3 v0 rfl rfl) h0
  obtain ⟨b, rfl, hd1, hp1, w1⟩ := open_int Tryz.underlying3 (hval 1 3 v1 rfl rfl) h1
  have r0 : -9223372036854775808 ≤ a ∧ a ≤ 9223372036854775807 := by simpa [Lit.wf, IntKind.min, IntKind.max, IntKind.signed, IntKind.bits] using w0
  have r1 : -9223372036854775808 ≤ b ∧ b ≤ 9223372036854775807 := by simpa [Lit.wf, IntKind.min, IntKind.max, IntKind.signed, IntKind.bits] using w1
  clear hA0 hval0
  obtain ⟨nf, hev⟩ := Ev.ev_of_E cx_esc (d_AnbTexts a b r0 r1)
  refine (Ev.calls_of_ev (P := Tryz.prog) (by kernel_rfl) cx cx_prim okAnC (F := c_Z16) rfl W (args := [.int .i64 a, .int .i64 b]) (Ev.Reps.cons (.int _ _) (Ev.Reps.cons (.int _ _) Ev.Reps.nil)) (by intro x hx; simp only [List.mem_cons, List.not_mem_nil, or_false] at hx; (repeat' (rcases hx with rfl | hx)); all_goals first | rfl | (subst hx; rfl)) ⟨gtab_ok (pow_of hL), fun p hp => by obtain rfl := List.mem_singleton.1 hp; exact errVar_of (d := Rows.laid_errors_errorType) (by kernel_rfl) (by kernel_rfl) (by kernel_rfl) hL⟩ hev).mono fun e W' ⟨he, hb⟩ => ?_
  subst he
  exact ⟨_, rfl, law_post (tb := 4) Tryz.laidOut (by rw [Tryz.params8]; intro t ht; simp only [List.mem_cons, List.not_mem_nil, or_false] at ht; (repeat' (rcases ht with rfl | ht)); all_goals first | exact ⟨by kernel_rfl, of_decide_eq_true (by kernel_rfl)⟩ | (subst ht; exact ⟨by kernel_rfl, of_decide_eq_true (by kernel_rfl)⟩)) hW' rfl rfl Tryz.underlying4 rfl hb⟩
theorem anbTexts_holds : Rows.AnbTextsSaid :=
  OpenClaim.holds_of_wide 8 Tryz.f8 rfl rfl rfl rfl rfl rfl rfl ⟨rfl, rfl, rfl, rfl, rfl⟩ rfl rfl rfl rfl rfl (by kernel_rfl) Tryz.func8 (by kernel_rfl)
    (of_decide_eq_true (by kernel_rfl)) (by unfold Func.isWrapper; rw [if_neg (of_decide_eq_false (by kernel_rfl))]; exact ⟨rfl, rfl⟩)
    (fun os started H enc _ => anbTexts_lifted os started H enc)
theorem anbTexts_card : Rows.AnbTextsCardSaid :=
  Claim7.holds_tied_plain_at .later [] _ _ _ _
    anbTexts_holds (fun _ h => by cases h) (by kernel_rfl) (fun _ h => by cases h) anbTexts_row_tie rfl ⟨rfl, rfl⟩ (by kernel_rfl) rfl
    (fun f fn hf hfn => by
      obtain rfl : f = 8 := Option.some.inj ((show Tryz.prog.funcNamed "wattle/wattlelaw04.AnbTexts" = some 8 by kernel_rfl).symm.trans hf) |>.symm
      obtain rfl : fn = Tryz.f8 := (Option.some.inj (Tryz.func8.symm.trans hfn)).symm
      exact ⟨by kernel_rfl, fun j t ht => by
        rw [Tryz.params8] at ht
        have hm := Array.mem_of_getElem? ht
        simp only [List.mem_toArray, List.mem_cons, List.not_mem_nil, or_false] at hm
        (repeat' (rcases hm with rfl | hm))
        all_goals first | (subst hm; show Tryz.prog.wantsStandIn _ = false; kernel_rfl) | (show Tryz.prog.wantsStandIn _ = false; kernel_rfl)⟩)
    (by kernel_rfl)
#print axioms anbTexts_card
end Go.Proofs.YtkgkmlhljeidhaaGreatDoor
