/- Part of a proof: the small language, and functions of the program on it. -/
import Derived.Test.YtenicbbhihbkcaaGreatDoorRows
import Derived.WalkKit
import Derived.WalkSpells
import Derived.WalkLawsBesides
import Derived.Deep.QuietTactic
import Derived.BigQuiet
import Derived.Lib.Hide
import Derived.Deep.RegionHeld3
import Derived.Deep.AppendLies
import Derived.Deep.RegionLaw
import Derived.Deep.DrawnRows
import Derived.Deep.DeepFit
import Derived.RegionTactic
import Derived.ProofKit
import Derived.Lib.SmallJoins
import Derived.Orders
import Derived.Below
import Derived.Wp
import Derived.Laws.StructEq
import Derived.Laws.BytesString
import Derived.Laws.Pointers
import Derived.Great.BuildSlice
import Derived.Laws.MakeOwn
import Derived.Deep.AppendSrc
namespace Go.Proofs.YtenicbbhihbkcaaGreatDoor
open Go.RowKit
def RowA {α : Type} (f : α → Value) (d : α) (base : Nat) (w : World) (a : Option Addr) (n c : Nat) (xs : List α) : Prop :=
  xs.length = n ∧ n ≤ c ∧ c ≤ maxLen ∧ (0 < n → ∃ b off, a = some ⟨b, off, none⟩ ∧ base ≤ b ∧ b < w.heap.size ∧ ∀ j, j < n → w.cell? ⟨b, off + j, none⟩ = some (f (xs.getD j d)))
section
variable {α : Type} {f : α → Value} {d : α} {base : Nat} {w w' : World} {a : Option Addr} {n c : Nat} {xs : List α} {v : Value}
theorem RowA.len (h : RowA f d base w a n c xs) : xs.length = n := h.1
theorem RowA.le_cap (h : RowA f d base w a n c xs) : n ≤ c := h.2.1
theorem RowA.le (h : RowA f d base w a n c xs) : n ≤ 9223372036854775807 := by
  have h1 := h.2.1; have h2 := h.2.2.1; simp only [maxLen] at h2; omega
theorem RowA.at (h : RowA f d base w a n c xs) (hn : 0 < n) :
    ∃ b off, a = some ⟨b, off, none⟩ ∧ base ≤ b ∧ b < w.heap.size ∧ ∀ j, j < n → w.cell? ⟨b, off + j, none⟩ = some (f (xs.getD j d)) := h.2.2.2 hn
theorem RowA.mono {base' : Nat} (h : RowA f d base w a n c xs) (hb : base' ≤ base) : RowA f d base' w a n c xs := by
  obtain ⟨h1, h2, h3, h4⟩ := h
  refine ⟨h1, h2, h3, fun hn => ?_⟩
  obtain ⟨b, off, e, hbb, hlt, hc⟩ := h4 hn
  exact ⟨b, off, e, by omega, hlt, hc⟩
theorem RowA.keepB {B : Nat} (h : RowA f d base w a n c xs) (hb : Below B w w') (hB : w.heap.size ≤ B) : RowA f d base w' a n c xs := by
  obtain ⟨h1, h2, h3, h4⟩ := h
  refine ⟨h1, h2, h3, fun hn => ?_⟩
  obtain ⟨b, off, e, hbb, hlt, hc⟩ := h4 hn
  refine ⟨b, off, e, hbb, Nat.lt_of_lt_of_le hlt hb.size, fun j hj => ?_⟩
  rw [hb.cell (p := ⟨b, off + j, none⟩) (Nat.lt_of_lt_of_le hlt hB)]
  exact hc j hj
theorem RowA.keep (h : RowA f d base w a n c xs) (hb : Below w.heap.size w w') : RowA f d base w' a n c xs := h.keepB hb (Nat.le_refl _)
theorem RowA.drew (h : RowA f d base w a n c xs) : RowA f d base w.drew a n c xs := h.keep (Below.refl _ _).drew
theorem RowA.setCell (h : RowA f d base w a n c xs) {p : Addr} (hp : p.block < base) (u : Value) : RowA f d base (w.setCell p u) a n c xs := by
  obtain ⟨h1, h2, h3, h4⟩ := h
  refine ⟨h1, h2, h3, fun hn => ?_⟩
  obtain ⟨b, off, e, hbb, hlt, hc⟩ := h4 hn
  refine ⟨b, off, e, hbb, by simpa [World.setCell] using hlt, fun j hj => ?_⟩
  rw [World.cell?_of_block (w := w) (Below.heap_setCell w p u b (by omega))]
  exact hc j hj
theorem RowA.nil (f : α → Value) (d : α) (base : Nat) (w : World) : RowA f d base w none 0 0 [] := ⟨rfl, Nat.le_refl _, by simp [maxLen], fun h => absurd h (Nat.lt_irrefl _)⟩
theorem RowA.take (h : RowA f d base w a n c xs) (m c' : Nat) (hm : m ≤ n) (hc : m ≤ c') (hc' : c' ≤ c) : RowA f d base w a m c' (xs.take m) := by
  obtain ⟨h1, h2, h3, h4⟩ := h
  refine ⟨by simp; omega, hc, Nat.le_trans hc' h3, fun hn => ?_⟩
  obtain ⟨b, off, e, hbb, hlt, hx⟩ := h4 (by omega)
  refine ⟨b, off, e, hbb, hlt, fun j hj => ?_⟩
  rw [hx j (by omega)]
  simp [List.getD_eq_getElem?_getD, hj]
end
def RowV {α : Type} (f : α → Value) (d : α) (base : Nat) (w : World) (v : Value) (xs : List α) : Prop := ∃ a n c, v = .slice a n c ∧ RowA f d base w a n c xs
theorem RowV.keep {α} {f : α → Value} {d base w w' v} {xs : List α} (h : RowV f d base w v xs) (hb : Below w.heap.size w w') : RowV f d base w' v xs :=
  let ⟨a, n, c, e, hr⟩ := h; ⟨a, n, c, e, hr.keep hb⟩
theorem RowV.mono {α} {f : α → Value} {d base base' w v} {xs : List α} (h : RowV f d base w v xs) (hb : base' ≤ base) : RowV f d base' w v xs :=
  let ⟨a, n, c, e, hr⟩ := h; ⟨a, n, c, e, hr.mono hb⟩
theorem RowV.setCell {α} {f : α → Value} {d base w v} {xs : List α} (h : RowV f d base w v xs) {p : Addr} (hp : p.block < base) (u : Value) : RowV f d base (w.setCell p u) v xs :=
  let ⟨a, n, c, e, hr⟩ := h; ⟨a, n, c, e, hr.setCell hp u⟩
abbrev VB : Bool → Value := Value.bool
abbrev VI : Int → Value := Value.int .i64
theorem addr_add (b off j : Nat) : (⟨b, off, none⟩ : Addr).add j = ⟨b, off + j, none⟩ := by
  unfold Addr.add; split <;> simp_all
theorem RowA.news {α} {f : α → Value} {d base w a n c} {xs : List α} (h : RowA f d base w (some a) n c xs) : ∀ j u, (xs.map f)[j]? = some u → w.cell? (a.add j) = some u := by
  intro j u hu
  have hl := h.len
  have hj : j < n := by
    rcases Nat.lt_or_ge j n with h | h
    · exact h
    · rw [List.getElem?_eq_none (by simp; omega)] at hu; cases hu
  obtain ⟨b, off, e, _, _, hc⟩ := h.at (by omega)
  simp only [Option.some.injEq] at e
  subst e
  rw [addr_add, hc j hj]
  rw [List.getElem?_map, List.getElem?_eq_getElem (by omega)] at hu
  simp only [Option.map_some, Option.some.injEq] at hu
  rw [← hu]
  simp [List.getD, show j < xs.length by omega]
def RowG {α : Type} (g : α → List Value) (sz : Nat) (d : α) (w : World) (a : Option Addr) (n c : Nat) (xs : List α) : Prop :=
  xs.length = n ∧ n ≤ c ∧ c ≤ maxLen ∧ (0 < n → ∃ b off, a = some ⟨b, off, none⟩ ∧ b < w.heap.size ∧ ∀ j, j < n → ∀ i v, (g (xs.getD j d))[i]? = some v → w.cell? ⟨b, off + j * sz + i, none⟩ = some v)
theorem RowG.len {α} {g : α → List Value} {sz d w a n c} {xs : List α} (h : RowG g sz d w a n c xs) : xs.length = n := h.1
theorem RowG.le_cap {α} {g : α → List Value} {sz d w a n c} {xs : List α} (h : RowG g sz d w a n c xs) : n ≤ c := h.2.1
theorem RowG.le {α} {g : α → List Value} {sz d w a n c} {xs : List α} (h : RowG g sz d w a n c xs) : n ≤ 9223372036854775807 := by
  have h1 := h.2.1; have h2 := h.2.2.1; simp only [maxLen] at h2; omega
theorem RowG.keep {α} {g : α → List Value} {sz d w w' a n c} {xs : List α} (h : RowG g sz d w a n c xs) (hb : Below w.heap.size w w') : RowG g sz d w' a n c xs := by
  obtain ⟨h1, h2, h3, h4⟩ := h
  refine ⟨h1, h2, h3, fun hn => ?_⟩
  obtain ⟨b, off, e, hlt, hc⟩ := h4 hn
  refine ⟨b, off, e, Nat.lt_of_lt_of_le hlt hb.size, fun j hj i v hv => ?_⟩
  rw [hb.cell (p := ⟨b, off + j * sz + i, none⟩) hlt]
  exact hc j hj i v hv
theorem RowG.at {α} {g : α → List Value} {sz d w a n c} {xs : List α} (h : RowG g sz d w a n c xs) (hn : 0 < n) :
    ∃ b off, a = some ⟨b, off, none⟩ ∧ b < w.heap.size ∧ ∀ j, j < n → ∀ i v, (g (xs.getD j d))[i]? = some v → w.cell? ⟨b, off + j * sz + i, none⟩ = some v := h.2.2.2 hn
end Go.Proofs.YtenicbbhihbkcaaGreatDoor
namespace Go.Proofs.YtenicbbhihbkcaaGreatDoor
open Go.ChangeShapes Go.WideShapes Go.ChangeAt Go.RowKit
theorem Tryz.ownKnob : ownKnob Tryz.prog.godebug = none := by kernel_rfl
theorem Tryz.laidOut : laidOutB Tryz.prog = true := by kernel_rfl
section
variable {H : Type} {enc : TypeId × Value → H} {P : Program}
theorem trodAll_kept (hl : laidOutB P = true) {W W' : World} {sp : Nat → Bool} : ∀ (ts : List TypeId) (vs : List Value) (ds : List (DataW H)) (ps : List MemPlace),
    (∀ t ∈ ts, P.readableRec t = true ∧ t < P.types.size) → DataW.TrodAll enc P W 0 (fun _ => true) true ts vs ds ps → (∀ p ∈ ps, W.sameAt W' p) → (∀ p ∈ ps, sp p.block = true) →
    DataW.TrodAll enc P W' 0 sp true ts vs ds ps
  | [], _, _, _, _, h, _, _ => by
    obtain ⟨rfl, rfl, rfl⟩ := trodAll_nil h
    exact trodAll_mk0
  | t :: ts, _, _, _, ht, h, h1, h2 => by
    obtain ⟨v, vs', d, ds', p, q, rfl, rfl, rfl, hv, hr⟩ := trodAll_cons h
    have ht0 := ht t (by simp)
    exact trodAll_cons_mk (WideElems.Trod_stays hl ht0.1 ht0.2 hv (fun x hx => h1 x (by simp [hx])) (fun x hx => h2 x (by simp [hx])))
      (trodAll_kept hl ts vs' ds' q (fun t h => ht t (by simp [h])) hr (fun x hx => h1 x (by simp [hx])) (fun x hx => h2 x (by simp [hx])))
theorem law_post {f : Func} {s : ChangeSpec} {tb : TypeId} {W W' : World} {args : Array Value} {ds : List (DataW H)} {before : List MemPlace}
    (hl : laidOutB P = true) (ht : ∀ t ∈ f.params.toList, P.readableRec t = true ∧ t < P.types.size)
    (hW : DataW.Whole enc P f.params.toList s.vars false W args.toList ds [] before) (hv : s.vars = []) (hr : f.resultTypes = #[tb]) (hb : P.underlying tb = some .bool)
    (hfn : s.fn H ds = { results := [.lit (.bool true)], args := ds }) (hbl : Below W.heap.size W W') : s.post enc P f false true false false W args (.bool true) W' := by
  have hlt : ∀ p ∈ before, p.block < W.heap.size := fun p hp => hW.lt p hp
  have hW0 := hW
  obtain ⟨p, q, hA, hV, hpq, hz, hn⟩ := hW
  rw [hv] at hV
  obtain ⟨_, rfl⟩ := trodVars_none hV
  simp only [List.append_nil] at hpq
  subst hpq
  have hfn' : s.fn H (ds ++ []) = { results := [.lit (.bool true)], args := ds } := by rw [List.append_nil]; exact hfn
  have hold : ∀ x ∈ before, (fun b => decide (b < W.heap.size)) x.block = true := fun x hx => by simpa using hlt x hx
  have keep : ∀ sp : Nat → Bool, (∀ x ∈ before, sp x.block = true) → DataW.TrodAll enc P W' 0 sp true f.params.toList args.toList ds before := fun sp hs =>
    trodAll_kept hl _ _ _ _ ht hA (fun x hx => hbl.same (hlt x hx)) hs
  have hres : ∀ (b : Nat) (sp : Nat → Bool) (hd : Bool), DataW.TrodAll enc P W' b sp hd f.resultTypes.toList ((Value.bool true).resultList f.resultTypes.size) (s.fn H (ds ++ [])).results [] := fun b sp hd => by
    rw [hfn', hr]; exact trodAll_mk1 (shut_bool hb true)
  refine ⟨ds, [], before, [], before, [], hW0, hres _ _ _, ?_, ?_, World.keptBut_mono (fun x hx => ⟨hx, Or.inr (Or.inl hx)⟩) (hbl.frame (· ∈ before)), fun h => by cases h⟩
  · rw [hfn']; exact keep _ hold
  · rw [hv, hfn']; rfl
end
end Go.Proofs.YtenicbbhihbkcaaGreatDoor
set_option linter.unusedSimpArgs false
set_option linter.unusedVariables false
namespace Go.Ev
inductive Cap where
  | no | fx | gr (sz : Nat) | lk
  deriving DecidableEq, Repr
inductive V where
  | any | undef
  | bool (b : Bool) | int (k : IntKind) (n : Int) | str (s : List UInt8)
  | nilp | ptr (o off : Nat) | eptr (cs : List V) (off : Nat)
  | nils | sl (xs : List V) (c : Cap) | hs (o off len sz : Nat) (ag : Bool)
  | agg (cs : List V) | tup (vs : List V)
  | ifc (t : TypeId) (x : V) | nili
  | fn (f : FuncId) (first caps : List V) | nilf
  | mp (o : Nat) | nilm
  | hg (o len sz : Nat) (ag : Bool) | mth (k : Nat) (x : V)
  deriving Repr
inductive O where
  | cells (cs : List V) | mp (es : List (V × V)) | si (r : List UInt8) (pos : Nat) | gone
  deriving Repr
mutual
def V.beq : V → V → Bool
  | .any, .any | .undef, .undef | .nilp, .nilp | .nils, .nils | .nili, .nili | .nilf, .nilf | .nilm, .nilm => true
  | .bool a, .bool b => a == b
  | .int k a, .int j b => decide (k = j) && a == b
  | .str a, .str b => decide (a = b)
  | .ptr a i, .ptr b j => a == b && i == j
  | .eptr a i, .eptr b j => V.beqs a b && i == j
  | .sl a i, .sl b j => V.beqs a b && decide (i = j)
  | .hs a b c d e, .hs a' b' c' d' e' => a == a' && b == b' && c == c' && d == d' && e == e'
  | .agg a, .agg b => V.beqs a b
  | .tup a, .tup b => V.beqs a b
  | .ifc t a, .ifc u b => t == u && V.beq a b
  | .fn f a b, .fn g c d => f == g && V.beqs a c && V.beqs b d
  | .mp a, .mp b => a == b
  | .hg a b c d, .hg a' b' c' d' => a == a' && b == b' && c == c' && d == d'
  | .mth i a, .mth j b => i == j && V.beq a b
  | _, _ => false
def V.beqs : List V → List V → Bool
  | [], [] => true
  | x :: xs, y :: ys => V.beq x y && V.beqs xs ys
  | _, _ => false
end
mutual
def V.rb (n : Nat) : V → Bool
  | .ptr o _ => decide (o < n)
  | .hs o _ _ _ _ => decide (o < n)
  | .mp o => decide (o < n)
  | .eptr cs _ => V.rbs n cs
  | .sl xs _ => V.rbs n xs
  | .agg cs => V.rbs n cs
  | .tup cs => V.rbs n cs
  | .ifc _ x => V.rb n x
  | .fn _ a b => V.rbs n a && V.rbs n b
  | .hg o _ _ _ => decide (o < n)
  | .mth _ x => V.rb n x
  | _ => true
def V.rbs (n : Nat) : List V → Bool
  | [] => true
  | x :: xs => V.rb n x && V.rbs n xs
end
def V.ng : V → V
  | .sl xs _ => .sl xs .no
  | .hg o len sz ag => .hs o 0 len sz ag
  | x => x
def V.isLk : V → Bool
  | .sl _ .lk => true
  | _ => false
def V.cells : V → List V
  | .agg cs => cs
  | x => [x]
def V.one : V → Bool
  | .any | .undef | .agg _ | .tup _ => false
  | _ => true
def part (ag : Bool) (sz : Nat) (cs : List V) (off : Nat) : Option V :=
  if ag then (if off + sz ≤ cs.length then some (.agg (((cs.drop off).take sz).map V.ng)) else none)
  else if sz = 1 then cs[off]?.map V.ng else none
def putAt : List V → Nat → List V → List V
  | cs, _, [] => cs
  | [], _, _ => []
  | _ :: cs, 0, x :: xs => x :: putAt cs 0 xs
  | c :: cs, n + 1, xs => c :: putAt cs n xs
def chunks (ag : Bool) (sz : Nat) (cs : List V) : Nat → Nat → Option (List V)
  | 0, _ => some []
  | n + 1, off => do
    let x ← part ag sz cs off
    let xs ← chunks ag sz cs n (off + sz)
    pure (x :: xs)
abbrev Objs := List O
def Objs.get (σ : Objs) (o : Nat) : Option (List V) :=
  match σ[o]? with
  | some (.cells cs) => some cs
  | _ => none
def fz (n : Nat) (σ : Objs) : Nat → V → Option V
  | 0, x => if x.rb n then some x else none
  | f + 1, x =>
    if x.rb n then some x else
    match x with
    | .ptr o off => do
      let cs ← Objs.get σ o
      let ds ← cs.mapM (fz n σ f)
      pure (.eptr ds off)
    | .hs o off len sz ag => do
      let cs ← Objs.get σ o
      let xs ← chunks ag sz cs len off
      let ys ← xs.mapM (fz n σ f)
      pure (.sl ys .no)
    | .hg o len sz ag => do
      let cs ← Objs.get σ o
      let xs ← chunks ag sz cs len 0
      let ys ← xs.mapM (fz n σ f)
      pure (.sl ys .no)
    | .eptr cs off => do pure (.eptr (← cs.mapM (fz n σ f)) off)
    | .sl xs c => do pure (.sl (← xs.mapM (fz n σ f)) c)
    | .agg cs => do pure (.agg (← cs.mapM (fz n σ f)))
    | .tup cs => do pure (.tup (← cs.mapM (fz n σ f)))
    | .ifc t x => do pure (.ifc t (← fz n σ f x))
    | .fn g a b => do pure (.fn g (← a.mapM (fz n σ f)) (← b.mapM (fz n σ f)))
    | _ => none
def fzD : Nat := 40
def fzO (n : Nat) (σ : Objs) : O → Option O
  | .cells cs => if V.rbs n cs then some (.cells cs) else (cs.mapM (fz n σ fzD)).map O.cells
  | .mp es => if V.rbs n (es.map Prod.fst) && V.rbs n (es.map Prod.snd) then some (.mp es) else none
  | x => some x
def cuO (n : Nat) (σ : Objs) : Option Objs := (σ.take n).mapM (fzO n σ)
def cutSlots (n : Nat) (σ : Objs) (live : List Nat) : Nat → List V → Option (List V)
  | _, [] => some []
  | i, x :: xs => do
    let y ← if live.contains i then fz n σ fzD x else some .any
    let ys ← cutSlots n σ live (i + 1) xs
    pure (y :: ys)
inductive Arg where
  | t (n : Nat) | c (x : V) | g (n : Nat) | f (id : FuncId)
  deriving Repr
inductive CK where
  | b | i | s
  deriving Repr, DecidableEq
inductive EqK where
  | no | bool | ptr | row | ifc | fn | mp | agg (ks : List CK)
  deriving Repr, DecidableEq
inductive Conv where
  | toInt (k : IntKind) | same | intStr | strBytes | bytesStr | bytesStrN
  deriving Repr, DecidableEq
inductive Ins where
  | mv (x : Arg) (tk : Bool)
  | pick (c a b : Arg)
  | alloc (z : List V)
  | box (x : Arg)
  | build (z : List V) (parts : List (Nat × Nat × Arg))
  | buildSl (ag : Bool) (sz len : Nat) (z : V) (parts : List (Nat × Arg)) (h : Bool)
  | load (ag : Bool) (sz : Nat) (x : Arg)
  | loadT (x : Arg)
  | store (sz : Nat) (p x : Arg) (tk : Bool)
  | nilc (x : Arg)
  | bin (op : BinOp) (k : EqK) (x y : Arg)
  | un (op : UnOp) (x : Arg)
  | conv (k : Conv) (x : Arg)
  | cutS (x : Arg) (lo hi : Option Arg)
  | cut (sz : Nat) (x : Arg) (lo hi mx : Option Arg)
  | cutA (n sz : Nat) (ag : Bool) (x : Arg) (lo hi : Option Arg)
  | faddr (off : Nat) (x : Arg)
  | field (ag : Bool) (off sz : Nat) (x : Arg)
  | iaddr (sz : Nat) (x i : Arg)
  | iaddrA (n sz : Nat) (x i : Arg)
  | idx (x i : Arg)
  | idxA (n : Nat) (ag : Bool) (sz : Nat) (x i : Arg)
  | lenS (x : Arg)
  | len (x : Arg)
  | app (str ag : Bool) (sz bytes : Nat) (x y : Arg) (tk : Bool)
  | appH (str ag : Bool) (sz bytes : Nat) (x y : Arg)
  | bytesH (x : Arg)
  | call (f : FuncId) (args : List Arg)
  | callv (x : Arg) (args : List Arg)
  | mkfn (f : FuncId) (first caps : List Arg)
  | mkif (t : TypeId) (x : Arg)
  | extr (x : Arg) (i : Nat)
  | mkSl (ag : Bool) (sz bytes : Nat) (z : V) (l c : Arg) (h : Bool)
  | mm (mx : Bool) (args : List Arg)
  | mkmp
  | mset (kk : CK) (m k x : Arg)
  | mget (kk : CK) (z : V) (m k : Arg) (ok : Bool)
  | buildG (ag : Bool) (sz len : Nat) (z : V) (parts : List (Nat × Arg))
  | mark (x : Arg)
  | no
  | mth (k : Nat) (x : Arg)
  | nilm (k : Nat) (ts : List (TypeId × Bool)) (x : Arg)
  | calli (x : Arg) (ms : List (TypeId × FuncId × Option (Nat × Nat))) (args : List Arg)
  | callT (f : FuncId) (args : List Arg) (j : Nat)
  | rng (x : Arg)
  | nxt (x : Arg)
  | cpy (str : Bool) (sz : Nat) (x y : Arg)
  | clr (sz : Nat) (z : V) (x : Arg)
  | appG (str ag : Bool) (sz bytes : Nat) (x y : Arg)
  deriving Repr
structure Step where
  dst : Option Nat
  gd : Option (Nat × Bool)
  ins : Ins
  deriving Repr
structure DS where
  s : Step
  op : Nat
  un : List Nat
  deriving Repr
inductive Cd where
  | skip | ret
  | ops (k : Nat) (l : List Step)
  | drw (k : Nat) (l : List DS)
  | no
  | seq (a b : Cd)
  | cond (c : Arg) (a b : Cd)
  | block (id : Nat) (b : Cd)
  | loop (lin lout kp : List Nat) (b : Cd)
  | exit (id : Nat)
  deriving Repr
inductive Res where
  | tmp (t : Nat) | cell (t : Nat) (ag : Bool) (sz : Nat)
  deriving Repr
structure Fn where
  nt : Nat
  res : List Res
  keep : Bool
  esc : Bool
  body : Cd
  deriving Repr
def bytesLess : List UInt8 → List UInt8 → Bool
  | _, [] => false
  | [], _ :: _ => true
  | a :: x, b :: y => a < b || (a == b && bytesLess x y)
def eqCellK : CK → V → V → Option Bool
  | .b, .bool a, .bool b => some (a == b)
  | .i, .int k a, .int j b => if k = j then some (a == b) else none
  | .s, .str a, .str b => some (decide (a = b))
  | _, _, _ => none
def eqCells : List CK → List V → List V → Option Bool
  | [], [], [] => some true
  | k :: ks, x :: xs, y :: ys => do
    let a ← eqCellK k x y
    let b ← eqCells ks xs ys
    pure (a && b)
  | _, _, _ => none
def eqV (k : EqK) (x y : V) : Option Bool :=
  match k, x, y with
  | .bool, .bool a, .bool b => some (a == b)
  | .ptr, .nilp, .nilp => some true
  | .ptr, .nilp, .ptr _ _ | .ptr, .ptr _ _, .nilp | .ptr, .nilp, .eptr _ _ | .ptr, .eptr _ _, .nilp => some false
  | .row, .nils, .nils => some true
  | .row, .nils, .sl _ _ | .row, .sl _ _, .nils | .row, .nils, .hs .. | .row, .hs .., .nils => some false
  | .ifc, .nili, .nili => some true
  | .ifc, .nili, .ifc _ _ | .ifc, .ifc _ _, .nili => some false
  | .fn, .nilf, .nilf => some true
  | .fn, .nilf, .fn .. | .fn, .fn .., .nilf => some false
  | .mp, .nilm, .nilm => some true
  | .mp, .nilm, .mp _ | .mp, .mp _, .nilm => some false
  | .agg ks, .agg a, .agg b => eqCells ks a b
  | _, _, _ => none
def strMax : Nat := 4611686018427387904
def rowMax : Nat := 140737488355328
def eB (op : BinOp) (e : EqK) (x y : V) : Option V :=
  match x, y with
  | .int k a, .int j b =>
    match op with
    | .shl => if b < 0 then none else some (.int k (k.wrap (a * 2 ^ (min b.toNat k.bits))))
    | .shr => if b < 0 then none else some (.int k (a.fdiv (2 ^ (min b.toNat k.bits))))
    | _ => if k = j then
      match op with
      | .add => some (.int k (k.wrap (a + b)))
      | .sub => some (.int k (k.wrap (a - b)))
      | .mul => some (.int k (k.wrap (a * b)))
      | .quo => if b = 0 then none else some (.int k (k.wrap (a.tdiv b)))
      | .rem => if b = 0 then none else some (.int k (a.tmod b))
      | .and => some (.int k (k.wrap (BitVec.ofInt k.bits a &&& BitVec.ofInt k.bits b).toNat))
      | .or => some (.int k (k.wrap (BitVec.ofInt k.bits a ||| BitVec.ofInt k.bits b).toNat))
      | .xor => some (.int k (k.wrap (BitVec.ofInt k.bits a ^^^ BitVec.ofInt k.bits b).toNat))
      | .andNot => some (.int k (k.wrap (BitVec.ofInt k.bits a &&& ~~~ BitVec.ofInt k.bits b).toNat))
      | .eql => some (.bool (a == b))
      | .neq => some (.bool (a != b))
      | .lss => some (.bool (decide (a < b)))
      | .leq => some (.bool (decide (a ≤ b)))
      | .gtr => some (.bool (decide (a > b)))
      | .geq => some (.bool (decide (a ≥ b)))
      | _ => none
      else none
  | .str a, .str b =>
    match op with
    | .add => if a.length + b.length ≤ strMax then some (.str (a ++ b)) else none
    | .eql => some (.bool (decide (a = b)))
    | .neq => some (.bool (!decide (a = b)))
    | .lss => some (.bool (bytesLess a b))
    | .leq => some (.bool (bytesLess a b || decide (a = b)))
    | .gtr => some (.bool (!(bytesLess a b || decide (a = b))))
    | .geq => some (.bool (!bytesLess a b))
    | _ => none
  | x, y =>
    match op with
    | .eql => (eqV e x y).map V.bool
    | .neq => (eqV e x y).map fun b => .bool (!b)
    | _ => none
def evUn (op : UnOp) (x : V) : Option V :=
  match op, x with
  | .neg, .int k n => some (.int k (k.wrap (0 - n)))
  | .xor, .int k n => some (.int k (k.wrap (BitVec.ofInt k.bits (if k.signed then -1 else k.max) ^^^ BitVec.ofInt k.bits n).toNat))
  | .not, .bool b => some (.bool !b)
  | _, _ => none
def runeOf (s : List UInt8) : Nat × Nat :=
  let at' (k : Nat) : Nat := (s.getD k 0).toNat
  let cont (k : Nat) : Bool := k < s.length && at' k / 64 == 2
  let b0 := at' 0
  if b0 < 0x80 then (b0, 1)
  else if b0 / 32 == 6 && cont 1 then
    let c := (b0 % 32) * 64 + at' 1 % 64
    if c ≥ 0x80 then (c, 2) else (0xFFFD, 1)
  else if b0 / 16 == 14 && cont 1 && cont 2 then
    let c := (b0 % 16) * 4096 + (at' 1 % 64) * 64 + at' 2 % 64
    if c ≥ 0x800 && Utf8.valid c then (c, 3) else (0xFFFD, 1)
  else if b0 / 8 == 30 && cont 1 && cont 2 && cont 3 then
    let c := (b0 % 8) * 262144 + (at' 1 % 64) * 4096 + (at' 2 % 64) * 64 + at' 3 % 64
    if c ≥ 0x10000 && Utf8.valid c then (c, 4) else (0xFFFD, 1)
  else (0xFFFD, 1)
def bytesOf : List V → Option (List UInt8)
  | [] => some []
  | .int .u8 n :: xs => do
    let bs ← bytesOf xs
    pure (UInt8.ofNat n.toNat :: bs)
  | _ => none
def ofBytes (s : List UInt8) : List V := s.map fun b => .int .u8 b.toNat
def rowOf (σ : Objs) : V → Option (List V)
  | .nils => some []
  | .sl xs _ => some xs
  | .hs o off len sz ag => do
    let cs ← Objs.get σ o
    chunks ag sz cs len off
  | _ => none
def srcOf (str : Bool) (σ : Objs) (x : V) : Option (List V) :=
  if str then (match x with | .str s => some (ofBytes s) | _ => none) else rowOf σ x
def eC (σ : Objs) (k : Conv) (x : V) : Option V :=
  match k, x with
  | .toInt k, .int _ n => some (.int k (k.wrap n))
  | .same, .str s => some (.str s)
  | .intStr, .int _ n => some (.str (Utf8.encode n).data.toList)
  | .strBytes, .str s => some (.sl (ofBytes s) (.gr 1))
  | .bytesStr, .nils => some (.str [])
  | .bytesStr, .sl xs _ => (bytesOf xs).map V.str
  | .bytesStrN, .nils => some (.str [])
  | .bytesStrN, .sl xs _ => (bytesOf xs).map V.str
  | .bytesStr, .hs o off len sz ag => do
    let xs ← rowOf σ (.hs o off len sz ag)
    (bytesOf xs).map V.str
  | _, _ => none
def bound (x : V) (hi : Nat) : Option Nat :=
  match x with
  | .int _ i => if 0 ≤ i ∧ i ≤ hi then some i.toNat else none
  | _ => none
def bounds (len : Nat) (lo hi mx : Option V) : Option (Nat × Nat × Option Nat) := do
  let m ← match mx with | some v => (bound v len).map some | none => some none
  let h ← match hi with | some v => bound v (m.getD len) | none => some len
  let l ← match lo with | some v => bound v h | none => some 0
  pure (l, h, m)
def evCutS (x : V) (lo hi : Option V) : Option V :=
  match x with
  | .str s => do
    let (l, h, _) ← bounds s.length lo hi none
    some (.str ((s.drop l).take (h - l)))
  | _ => none
def evCut (sz : Nat) (x : V) (lo hi mx : Option V) : Option V :=
  match x with
  | .nils => do
    let (_, _, _) ← bounds 0 lo hi mx
    some .nils
  | .sl xs _ => do
    let (l, h, m) ← bounds xs.length lo hi mx
    if xs.all (fun y => decide (y.cells.length = sz)) then some (.sl ((xs.drop l).take (h - l)) (if m = some h then .fx else .no)) else none
  | .hs o off len s ag => do
    let (l, h, _) ← bounds len lo hi mx
    if s = sz then some (if l = h then .sl [] .no else .hs o (off + l * sz) (h - l) sz ag) else none
  | _ => none
def okCells (cs : List V) : Bool := cs.all V.one
def evCutA (n sz : Nat) (ag : Bool) (x : V) (lo hi : Option V) : Option V := do
  let (l, h, _) ← bounds n lo hi none
  match x with
  | .ptr o off => some (if l = h then .sl [] .no else .hs o (off + l * sz) (h - l) sz ag)
  | .eptr cs off => do
    let xs ← chunks ag sz cs (h - l) (off + l * sz)
    if okCells cs then some (.sl xs .no) else none
  | _ => none
def index (i : V) (n : Nat) : Option Nat :=
  match i with
  | .int _ i => if 0 ≤ i ∧ i < n then some i.toNat else none
  | _ => none
def mmInt (mx : Bool) : V → List V → Option V
  | x, [] => some x
  | .int k a, .int j b :: r => if k = j then mmInt mx (.int k (if mx then (if b > a then b else a) else (if b < a then b else a))) r else none
  | _, _ => none
def agOk (ag : Bool) : V → Bool
  | .agg _ => ag
  | _ => !ag
def lay (z : List V) : List (Nat × Nat × V) → Option (List V)
  | [] => some z
  | (off, sz, x) :: r =>
    if x.cells.length = sz ∧ off + sz ≤ z.length ∧ okCells x.cells then lay (putAt z off (x.cells.map V.ng)) r else none
def laySl (sz : Nat) (z : List V) : List (Nat × V) → Option (List V)
  | [] => some z
  | (i, x) :: r => if x.cells.length = sz ∧ i < z.length ∧ okCells x.cells then laySl sz (z.set i x.ng) r else none
def intOf : V → Option Int
  | .int _ n => some n
  | _ => none
def mfind (kk : CK) (k : V) : List (V × V) → Option (Option V)
  | [] => some none
  | (k', x) :: r =>
    match eqCellK kk k k' with
    | some true => some (some x)
    | some false => mfind kk k r
    | none => none
def mput (kk : CK) (k x : V) : List (V × V) → Option (List (V × V))
  | [] => some [(k, x)]
  | (k', y) :: r =>
    match eqCellK kk k k' with
    | some true => some ((k, x) :: r)
    | some false => (mput kk k x r).map fun r' => (k', y) :: r'
    | none => none
def mlook (kk : CK) (σ : Objs) (m k : V) : Option (Option V) :=
  match m with
  | .nilm => some none
  | .mp o => (match σ[o]? with | some (.mp es) => mfind kk k es | _ => none)
  | _ => none
def isKey : CK → V → Bool
  | .b, .bool _ | .i, .int _ _ | .s, .str _ => true
  | _, _ => false
structure GV where
  g : Nat → V
  ex : List (Nat × Nat × Value)
instance : CoeFun GV (fun _ => Nat → V) := ⟨GV.g⟩
section
variable (G : GV) (call : FuncId → List V → Objs → Option (V × Objs))
def argT (ρ : List V) : Arg → V
  | .t n => ρ.getD n .undef
  | .c x => x
  | .g n => G n
  | .f id => .fn id [] []
def arg (ρ : List V) (x : Arg) : V := (argT G ρ x).ng
def keepIf (tk : Bool) (x : V) : V := if tk then x else x.ng
def unslot (ρ : List V) (x : Arg) (tk : Bool) : List V :=
  match x, tk with
  | .t n, true => ρ.set n (ρ.getD n .undef).ng
  | _, _ => ρ
def put (ρ : List V) (d : Option Nat) (x : V) : List V :=
  match d with
  | some d => ρ.set d x
  | none => ρ
def Ins.takes : Ins → Arg × Bool
  | .mv x tk => (x, tk)
  | .store _ _ x tk => (x, tk)
  | .app _ _ _ _ x _ tk => (x, tk)
  | .mark x => (x, true)
  | .appG _ _ _ _ x _ => (x, true)
  | .callT _ args j => (args.getD j (.c .undef), true)
  | _ => (.c .undef, false)
def eL (σ : Objs) (ag : Bool) (sz : Nat) : V → Option V
  | .ptr o off => do
    let cs ← Objs.get σ o
    part ag sz cs off
  | .eptr cs off => part ag sz cs off
  | _ => none
def eF (off : Nat) : V → Option V
  | .ptr o a => some (.ptr o (a + off))
  | .eptr cs a => some (.eptr cs (a + off))
  | _ => none
def evField (ag : Bool) (off sz : Nat) : V → Option V
  | .agg cs => part ag sz cs off
  | _ => none
def eI (sz : Nat) (i : V) : V → Option V
  | .sl xs _ => do
    let j ← index i xs.length
    let e ← xs[j]?
    if e.cells.length = sz then some (.eptr e.cells 0) else none
  | .hs o off len s _ => do
    let j ← index i len
    if s = sz then some (.ptr o (off + j * sz)) else none
  | _ => none
def evIaddrA (n sz : Nat) (i x : V) : Option V := do
  let j ← index i n
  match x with
  | .ptr o a => some (.ptr o (a + j * sz))
  | .eptr cs a => some (.eptr cs (a + j * sz))
  | _ => none
def evIdx (i : V) : V → Option V
  | .str s => do
    let j ← index i s.length
    let b ← s[j]?
    some (.int .u8 b.toNat)
  | _ => none
def evIdxA (n : Nat) (ag : Bool) (sz : Nat) (i x : V) : Option V := do
  let j ← index i n
  match x with
  | .agg cs => part ag sz cs (j * sz)
  | _ => none
def eX (i : Nat) : V → Option V
  | .tup vs => vs[i]?
  | _ => none
def evLenS : V → Option V
  | .str s => some (.int .i64 s.length)
  | _ => none
def evLen : V → Option V
  | .nils => some (.int .i64 0)
  | .sl xs _ => some (.int .i64 xs.length)
  | .hs _ _ len _ _ => some (.int .i64 len)
  | _ => none
def evNilc : V → Option V
  | .ptr o off => some (.ptr o off)
  | .eptr cs off => some (.eptr cs off)
  | .fn f a b => some (.fn f a b)
  | _ => none
def isAggV : V → Bool
  | .agg _ => true
  | _ => false
def evNilm (k : Nat) (ts : List (TypeId × Bool)) : V → Option V
  | .mth j (.ifc t y) =>
    match ts.find? fun p => p.1 == t with
    | some (_, ag) => if j = k ∧ (ag = true → isAggV y = true) then some (.mth j (.ifc t y)) else none
    | none => none
  | _ => none
def evPure (A : Arg → V) (σ : Objs) : Ins → Option V
  | .pick c a b =>
    match A c with
    | .bool t => some (if t then A a else A b)
    | _ => none
  | .build z parts => (lay z (parts.map fun (o, s, x) => (o, s, A x))).map V.agg
  | .nilc x => evNilc (A x)
  | .mth k x =>
    match A x with
    | .ifc t y => some (.mth k (.ifc t y))
    | _ => none
  | .nilm k ts x => evNilm k ts (A x)
  | .bin op k x y => eB op k (A x) (A y)
  | .un op x => evUn op (A x)
  | .conv k x => eC σ k (A x)
  | .cutS x lo hi => evCutS (A x) (lo.map A) (hi.map A)
  | .cut sz x lo hi mx => evCut sz (A x) (lo.map A) (hi.map A) (mx.map A)
  | .cutA n sz ag x lo hi => evCutA n sz ag (A x) (lo.map A) (hi.map A)
  | .load ag sz x => eL σ ag sz (A x)
  | .faddr off x => eF off (A x)
  | .field ag off sz x => evField ag off sz (A x)
  | .iaddr sz x i => eI sz (A i) (A x)
  | .iaddrA n sz x i => evIaddrA n sz (A i) (A x)
  | .idx x i => evIdx (A i) (A x)
  | .idxA n ag sz x i => evIdxA n ag sz (A i) (A x)
  | .lenS x => evLenS (A x)
  | .len x => evLen (A x)
  | .mkfn f first caps => some (.fn f (first.map A) (caps.map A))
  | .mkif t x => some (.ifc t (A x))
  | .extr x i => eX i (A x)
  | .mm mx args =>
    match args.map A with
    | x :: r => if (intOf x).isSome then mmInt mx x r else none
    | [] => none
  | .mget kk z m k ok => do
    let r ← mlook kk σ (A m) (A k)
    let x := r.getD z
    if isKey kk (A k) then some (if ok then .tup [x, .bool r.isSome] else x) else none
  | _ => none
def okRow (ag : Bool) (sz : Nat) (ys : List V) : Bool := ys.all fun y => decide (y.cells.length = sz) && okCells y.cells && agOk ag y
def evApp (ag : Bool) (sz bytes : Nat) (x : V) (ys : List V) : Option V :=
  if okRow ag sz ys then
    match x with
    | .nils => if ys = [] then some .nils else if ys.length * bytes ≤ rowMax then some (.sl ys (.gr sz)) else none
    | .sl xs c =>
      match ys with
      | [] => some (.sl xs c)
      | _ :: _ =>
        if (c = .fx ∨ c = .gr sz) ∧ xs.all (fun y => decide (y.cells.length = sz)) ∧ (xs.length + ys.length) * bytes ≤ rowMax then some (.sl (xs ++ ys) (.gr sz)) else none
    | _ => none
  else none
def evIns (A T : Arg → V) (σ : Objs) : Ins → Option (V × Objs)
  | .mv x tk => some (if tk then T x else A x, σ)
  | .alloc z => if okCells z then some (.ptr σ.length 0, σ ++ [.cells z]) else none
  | .box x =>
    let cs := (A x).cells
    if okCells cs then some (.ptr σ.length 0, σ ++ [.cells (cs.map V.ng)]) else none
  | .buildSl ag sz len z parts h => do
    let xs ← laySl sz (List.replicate len z) (parts.map fun (i, x) => (i, A x))
    if okRow ag sz xs then
      if h then some (.hg σ.length len sz ag, σ ++ [.cells ((xs.flatMap V.cells).map V.ng)])
      else some (.sl xs .fx, σ)
    else none
  | .buildG ag sz len z parts => do
    let xs ← laySl sz (List.replicate len z) (parts.map fun (i, x) => (i, A x))
    if okRow ag sz xs then some (.sl xs (.gr sz), σ) else none
  | .mark x =>
    match T x with
    | .sl xs (.gr _) => some (.sl xs .no, σ)
    | _ => none
  | .store sz p x tk =>
    match A p with
    | .ptr o off => do
      let cs ← Objs.get σ o
      let v := A x
      let ds := v.cells
      if ds.length = sz ∧ off + sz ≤ cs.length ∧ okCells ds then
        match v with
        | .agg _ => some (.undef, σ.set o (.cells (putAt cs off (ds.map V.ng))))
        | _ => if (if tk then T x else v).isLk then none else some (.undef, σ.set o (.cells (cs.set off (if tk then T x else v))))
      else none
    | _ => none
  | .loadT x =>
    match A x with
    | .ptr o off => do
      let cs ← Objs.get σ o
      let v ← cs[off]?
      match v with
      | .sl xs (.gr s) => some (.sl xs (.gr s), σ.set o (.cells (cs.set off (.sl xs .no))))
      | .sl _ .lk => none
      | v => some (v, σ)
    | .eptr cs off => do
      let v ← cs[off]?
      some (v.ng, σ)
    | _ => none
  | .app str ag sz bytes x y tk => do
    let ys ← srcOf str σ (A y)
    let v ← evApp ag sz bytes (if tk then T x else A x) ys
    some (v, σ)
  | .appH str ag sz bytes x y => do
    let ys ← srcOf str σ (A y)
    match ys with
    | [] => do
      let v ← evApp ag sz bytes (A x) []
      some (v.ng, σ)
    | _ :: _ => do
      let v ← evApp ag sz bytes (A x) ys
      match v with
      | .sl xs _ => some (.hs σ.length 0 xs.length sz ag, σ ++ [.cells ((xs.flatMap V.cells).map V.ng)])
      | _ => none
  | .bytesH x =>
    match A x with
    | .str b => some (.hs σ.length 0 b.length 1 false, σ ++ [.cells (ofBytes b)])
    | _ => none
  | .mkSl ag sz bytes z l c h => do
    let l ← intOf (A l)
    let c ← intOf (A c)
    if 0 ≤ l ∧ l ≤ c ∧ c * bytes ≤ rowMax ∧ z.cells.length = sz ∧ okCells z.cells ∧ agOk ag z then
      if h then
        some (.hs σ.length 0 l.toNat sz ag, σ ++ [.cells ((List.replicate c.toNat z).flatMap V.cells)])
      else some (.sl (List.replicate l.toNat z) (if l = c then .fx else .gr sz), σ)
    else none
  | .mkmp => some (.mp σ.length, σ ++ [.mp []])
  | .mset kk m k x =>
    match A m with
    | .mp o =>
      match σ[o]? with
      | some (.mp es) => do
        let es' ← mput kk (A k) (A x) es
        if isKey kk (A k) then some (.undef, σ.set o (.mp es')) else none
      | _ => none
    | _ => none
  | .call f args => call f (args.map A) σ
  | .callv x args =>
    match A x with
    | .fn f first caps => call f (((first ++ args.map A) ++ caps).map V.ng) σ
    | _ => none
  | .no => none
  | .calli x ms args =>
    match A x with
    | .ifc t y =>
      match ms.find? fun p => p.1 == t with
      | some (_, f, none) => call f (y.ng :: args.map A) σ
      | some (_, f, some (off, sz)) => do
        let z ← evField true off sz y
        call f (z :: args.map A) σ
      | none => none
    | _ => none
  | .callT f args j => call f ((args.zipIdx).map fun p => if p.2 = j then T p.1 else A p.1) σ
  | .rng x =>
    match A x with
    | .str s => some (.ptr σ.length 0, σ ++ [.si s 0])
    | _ => none
  | .nxt x =>
    match A x with
    | .ptr o 0 =>
      match σ[o]? with
      | some (.si [] _) => some (.tup [.bool false], σ)
      | some (.si (b :: s) pos) =>
        let r := runeOf (b :: s)
        some (.tup [.bool true, .int .i64 pos, .int .i32 r.1], σ.set o (.si ((b :: s).drop r.2) (pos + r.2)))
      | _ => none
    | _ => none
  | .cpy str sz x y =>
    match A x with
    | .hs o off len s ag => do
      let ys ← srcOf str σ (A y)
      let cs ← Objs.get σ o
      if s = sz ∧ ys.length ≤ len ∧ okRow ag sz ys ∧ off + ys.length * sz ≤ cs.length then
        some (.int .i64 ys.length, σ.set o (.cells (putAt cs off ((ys.flatMap V.cells).map V.ng))))
      else none
    | _ => none
  | .clr sz z x =>
    match A x with
    | .nils => some (.undef, σ)
    | .hs o off len s ag => do
      let cs ← Objs.get σ o
      if s = sz ∧ z.cells.length = sz ∧ off + len * sz ≤ cs.length ∧ okCells z.cells then
        some (.undef, σ.set o (.cells (putAt cs off ((List.replicate len z).flatMap V.cells))))
      else none
    | _ => none
  | .appG str ag sz bytes x y => do
    let ys ← srcOf str σ (A y)
    match T x with
    | .hg o len s ag' => do
      let cs ← Objs.get σ o
      if s = sz ∧ okRow ag sz ys ∧ cs.length = len * sz ∧ (len + ys.length) * bytes ≤ rowMax then
        match ys with
        | [] => some (.hg o len sz ag, σ)
        | _ :: _ => some (.hg σ.length (len + ys.length) sz ag, σ.set o .gone ++ [.cells (cs ++ (ys.flatMap V.cells).map V.ng)])
      else none
    | .nils =>
      match ys with
      | [] => some (.nils, σ)
      | _ :: _ =>
        if okRow ag sz ys ∧ ys.length * bytes ≤ rowMax then some (.hg σ.length ys.length sz ag, σ ++ [.cells ((ys.flatMap V.cells).map V.ng)]) else none
    | _ => none
  | .conv .strBytes x => do
    let v ← eC σ .strBytes (A x)
    some (v, σ)
  | i => do
    let v ← evPure A σ i
    some (v.ng, σ)
def ev1 (s : Step) (ρ : List V) (σ : Objs) : Option (List V × Objs) := do
  let (v, σ') ← evIns call (arg G ρ) (argT G ρ) σ s.ins
  some (put (unslot ρ s.ins.takes.1 s.ins.takes.2) s.dst v, σ')
def wanted (ρ : List V) : Option (Nat × Bool) → Option Bool
  | none => some true
  | some (g, b) =>
    match ρ.getD g .undef with
    | .bool t => some (t == b)
    | .undef => some false
    | _ => none
def evStep (s : Step) (ρ : List V) (σ : Objs) : Option (List V × Objs) := do
  if ← wanted ρ s.gd then ev1 G call s ρ σ else some (put ρ s.dst .undef, σ)
def evSteps : List Step → List V → Objs → Option (List V × Objs)
  | [], ρ, σ => some (ρ, σ)
  | s :: r, ρ, σ => do
    let (ρ', σ') ← evStep G call s ρ σ
    evSteps r ρ' σ'
inductive Rd where
  | none | same (ex : Bool) (o off n : Nat) | made (o : Nat) | took (o off : Nat)
def reads (A : Arg → V) (σ : Objs) : Ins → Rd
  | .load ag sz x => match A x with | .ptr o off => .same false o off (if ag then sz else 1) | _ => .none
  | .loadT x =>
    match A x with
    | .ptr o off =>
      match (Objs.get σ o).bind (·[off]?) with
      | some (.sl _ (.gr _)) => .took o off
      | _ => .same true o off 1
    | _ => .none
  | .alloc _ | .box _ => .made σ.length
  | .mkSl _ _ _ _ _ _ h => if h then .made σ.length else .none
  | _ => .none
def Rd.cell : Rd → Option (Nat × Nat)
  | .took o off => some (o, off)
  | _ => Option.none
def stable (σ σ' : Objs) : Rd → Bool
  | .same ex o off n =>
    match Objs.get σ o, Objs.get σ' o with
    | some cs, some ds => decide (cs.length = ds.length) && (if ex then V.beqs ((cs.drop off).take n) ((ds.drop off).take n) else V.beqs (((cs.drop off).take n).map V.ng) (((ds.drop off).take n).map V.ng))
    | _, _ => false
  | .made o =>
    match Objs.get σ o, Objs.get σ' o with
    | some cs, some ds => V.beqs cs ds
    | _, _ => false
  | _ => true
def lockC (σ : Objs) : List (Nat × Nat) → Option Objs
  | [] => some σ
  | (o, off) :: r =>
    match Objs.get σ o with
    | some cs =>
      match cs[off]? with
      | some (.sl xs _) => lockC (σ.set o (.cells (cs.set off (.sl xs .lk)))) r
      | _ => none
    | none => none
def openC (σ : Objs) : List (Nat × Nat) → Option Objs
  | [] => some σ
  | (o, off) :: r =>
    match Objs.get σ o with
    | some cs =>
      match cs[off]? with
      | some (.sl xs .lk) => openC (σ.set o (.cells (cs.set off (.sl xs .no)))) r
      | _ => none
    | none => none
def evDrw (past : List Rd) : List DS → List V → Objs → Option (List V × Objs)
  | [], ρ, σ => some (ρ, σ)
  | d :: r, ρ, σ => do
    let seen := d.un.map fun k => past.getD k .none
    let taken := seen.filterMap Rd.cell
    let σ0 ← lockC σ taken
    let (ρ', σ1) ← evStep G call d.s ρ σ0
    let σ' ← openC σ1 taken
    if seen.all (stable σ σ') then
      evDrw (past ++ [if (wanted ρ d.s.gd).getD false then reads (arg G ρ) σ d.s.ins else .none]) r ρ' σ'
    else none
inductive Out where
  | norm | ex (id : Nat) | ret
abbrev Ran := Option (Out × List V × Objs)
def objOf (n : Nat) : V → Option Nat
  | .ptr o _ => if n ≤ o then some o else none
  | .hs o _ _ _ _ => if n ≤ o then some o else none
  | .hg o _ _ _ => if n ≤ o then some o else none
  | .mp o => if n ≤ o then some o else none
  | _ => none
def mpOf (n : Nat) : V → Option Nat
  | .mp o => if n ≤ o then some o else none
  | _ => none
def dedup : List Nat → List Nat
  | [] => []
  | x :: xs => if xs.contains x then dedup xs else x :: dedup xs
def closeK (n : Nat) (σ : Objs) (ks : List Nat) : List Nat :=
  dedup (ks ++ ks.flatMap fun o => match Objs.get σ o with | some cs => cs.filterMap (mpOf n) | none => [])
def goneAt (ks : List Nat) (σ : Objs) : Objs := ks.foldl (fun σ o => σ.set o .gone) σ
def ren (n : Nat) (ks : List Nat) (o : Nat) : Nat := if o < n then o else n + ks.idxOf o
def escOne (n : Nat) (ks : List Nat) (σg : Objs) (x : V) : Option V :=
  match x with
  | .ptr o off => if o < n || ks.contains o then some (.ptr (ren n ks o) off) else fz n σg fzD x
  | .hs o off len sz ag => if o < n || ks.contains o then some (.hs (ren n ks o) off len sz ag) else fz n σg fzD x
  | .hg o len sz ag => if o < n || ks.contains o then some (.hg (ren n ks o) len sz ag) else fz n σg fzD x
  | .mp o => if o < n || ks.contains o then some (.mp (ren n ks o)) else none
  | x => fz n σg fzD x
def escV (n : Nat) (ks : List Nat) (σg : Objs) : V → Option V
  | .agg cs => (cs.mapM (escOne n ks σg)).map V.agg
  | .tup cs => (cs.mapM (escOne n ks σg)).map V.tup
  | x => escOne n ks σg x
def escOf (n : Nat) : V → List Nat
  | .agg cs => cs.filterMap (objOf n)
  | .tup cs => cs.filterMap (objOf n)
  | x => (objOf n x).toList
def keepSlot (n : Nat) (σg : Objs) (live kp ks : List Nat) (i : Nat) (x : V) : Option V :=
  if live.contains i then (if kp.contains i then escOne n ks σg x else fz n σg fzD x) else some .any
def keepSlots (n : Nat) (σg : Objs) (live kp ks : List Nat) : Nat → List V → Option (List V)
  | _, [] => some []
  | i, x :: xs => (keepSlot n σg live kp ks i x).bind fun y => (keepSlots n σg live kp ks (i + 1) xs).bind fun ys => some (y :: ys)
def keepOne (n : Nat) (ks : List Nat) (σg : Objs) : O → Option O
  | .cells cs => (cs.mapM (escOne n ks σg)).map O.cells
  | .mp es => (es.mapM fun p => if V.rb n p.1 then (fz n σg fzD p.2).map fun y => (p.1, y) else none).map O.mp
  | _ => none
def keepObjs (n : Nat) (σ : Objs) (ks : List Nat) : Option Objs := do
  let os ← ks.mapM fun o => (σ[o]?).bind (keepOne n ks (goneAt ks σ))
  let base ← cuO n (goneAt ks σ)
  some (base ++ os)
def endV : Bool → Nat → Objs → V → Option (V × Objs)
  | true, n, σ', r =>
    (escV n (closeK n σ' (escOf n r)) (goneAt (closeK n σ' (escOf n r)) σ') r).bind fun r' => (keepObjs n σ' (closeK n σ' (escOf n r))).map fun s => (r', s)
  | false, n, σ', r => (cuO n σ').bind fun s => (fz n σ' fzD r).map fun r' => (r', s)
def keepAll (n : Nat) (live kp : List Nat) (ρ : List V) (σ : Objs) : Option (List V × Objs) := do
  let ks := closeK n σ (kp.filterMap fun t => if live.contains t then objOf n (ρ.getD t .undef) else none)
  let ρ' ← keepSlots n (goneAt ks σ) live kp ks 0 ρ
  let σ' ← keepObjs n σ ks
  some (ρ', σ')
def loopN (lin lout kp : List Nat) (n : Nat) (rd : List V → Objs → Ran) : Nat → List V → Objs → Ran
  | 0, _, _ => none
  | k + 1, ρ, σ =>
    match rd ρ σ with
    | none => none
    | some (.norm, ρ', σ') => do
      let (ρ'', σ'') ← keepAll n lin kp ρ' σ'
      loopN lin lout kp n rd k ρ'' σ''
    | some (e, ρ', σ') => do
      let (ρ'', σ'') ← keepAll n lout kp ρ' σ'
      some (e, ρ'', σ'')
def evCd (fuel : Nat) : Cd → List V → Objs → Ran
  | .skip, ρ, σ => some (.norm, ρ, σ)
  | .ret, ρ, σ => some (.ret, ρ, σ)
  | .exit id, ρ, σ => some (.ex id, ρ, σ)
  | .ops _ l, ρ, σ => (evSteps G call l ρ σ).map fun (ρ', σ') => (.norm, ρ', σ')
  | .drw _ l, ρ, σ => (evDrw G call [] l ρ σ).map fun (ρ', σ') => (.norm, ρ', σ')
  | .seq a b, ρ, σ =>
    match evCd fuel a ρ σ with
    | some (.norm, ρ', σ') => evCd fuel b ρ' σ'
    | r => r
  | .cond c a b, ρ, σ =>
    match arg G ρ c with
    | .bool true => evCd fuel a ρ σ
    | .bool false => evCd fuel b ρ σ
    | _ => none
  | .block id b, ρ, σ =>
    match evCd fuel b ρ σ with
    | some (.ex i, ρ', σ') => if i = id then some (.norm, ρ', σ') else some (.ex i, ρ', σ')
    | r => r
  | .loop lin lout kp b, ρ, σ => do
    let ρ' ← cutSlots σ.length σ lin 0 ρ
    loopN lin lout kp σ.length (evCd fuel b) fuel ρ' σ
  | .no, _, _ => none
def resV (ρ : List V) (σ : Objs) : Res → Option V
  | .tmp t => some (ρ.getD t .undef)
  | .cell t ag sz =>
    match ρ.getD t .undef with
    | .ptr o off => do
      let cs ← Objs.get σ o
      part ag sz cs off
    | _ => none
def results (keep : Bool) (ρ : List V) (σ : Objs) : List Res → Option V
  | [r] => do
    let v ← resV ρ σ r
    if v.one || agOk true v then some (keepIf keep v) else none
  | rs => do
    let vs ← rs.mapM (resV ρ σ)
    some (.tup (vs.map V.ng))
def evFn (F : Fn) (fuel : Nat) (args : List V) (σ : Objs) : Option (V × Objs) := do
  let fin (ρ : List V) (σ' : Objs) : Option (V × Objs) := do
    let r ← results F.keep ρ σ' F.res
    endV F.esc σ.length σ' r
  match ← evCd G call fuel F.body (args ++ List.replicate (F.nt - args.length) .undef) σ with
  | (.ret, ρ, σ') => fin ρ σ'
  | (.norm, ρ, σ') => fin ρ σ'
  | _ => none
end
structure Ctx where
  G : GV
  code : FuncId → Option Fn
  prim : FuncId → Option (List V → Objs → Option (V × Objs))
def ev (C : Ctx) : Nat → FuncId → List V → Objs → Option (V × Objs)
  | 0, _, _, _ => none
  | n + 1, f, args, σ =>
    match C.prim f with
    | some h => h args σ
    | none =>
      match C.code f with
      | some F => evFn C.G (ev C n) F n args σ
      | none => none
end Go.Ev
set_option linter.unusedSimpArgs false
set_option linter.unusedVariables false
namespace Go.Ev
open Go
abbrev Mem := Nat → Nat → Option Value
structure Plc where
  at' : Nat → Option Nat
  sz : Nat → Option Nat
instance : CoeFun Plc fun _ => Nat → Option Nat := ⟨Plc.at'⟩
def digits256 : Nat → Nat → List Char
  | 0, _ => []
  | f + 1, n => if n = 0 then [] else Char.ofNat (n % 256) :: digits256 f (n / 256)
def mthName (k : Nat) : String := String.ofList (digits256 100 k)
inductive Rep (M : Mem) (ι : Plc) : Value → V → Prop
  | any (v : Value) : Rep M ι v .any
  | undef : Rep M ι (.tuple #[]) .undef
  | bool (b : Bool) : Rep M ι (.bool b) (.bool b)
  | int (k : IntKind) (n : Int) : Rep M ι (.int k n) (.int k n)
  | str (s : ByteArray) (l : List UInt8) (h : s.data.toList = l) : Rep M ι (.string s) (.str l)
  | nilp : Rep M ι (.pointer none) .nilp
  | ptr (o off b : Nat) (h : ι o = some b) : Rep M ι (.pointer (some ⟨b, off, none⟩)) (.ptr o off)
  | eptr (cs : List V) (off b base : Nat) (us : List Value) (hl : us.length = cs.length)
      (hm : ∀ (i : Nat) u, us[i]? = some u → M b (base + i) = some u) (hr : ∀ (i : Nat) u c, us[i]? = some u → cs[i]? = some c → Rep M ι u c) :
      Rep M ι (.pointer (some ⟨b, base + off, none⟩)) (.eptr cs off)
  | nils : Rep M ι (.slice none 0 0) .nils
  | sl (xs : List V) (c : Cap) (b off cap sz : Nat) (us : List Value) (hs : ∀ x ∈ xs, x.cells.length = sz) (hl : us.length = (xs.flatMap V.cells).length)
      (hm : ∀ (i : Nat) u, us[i]? = some u → M b (off + i) = some u) (hr : ∀ (i : Nat) u c, us[i]? = some u → (xs.flatMap V.cells)[i]? = some c → Rep M ι u c)
      (hcap : xs.length ≤ cap) (hfx : c = .fx → cap = xs.length) : Rep M ι (.slice (some ⟨b, off, none⟩) xs.length cap) (.sl xs c)
  | sl0 (a : Addr) (c : Cap) (hg : ∀ s, c ≠ .gr s) : Rep M ι (.slice (some a) 0 0) (.sl [] c)
  | hs (o off len sz : Nat) (ag : Bool) (b cap : Nat) (h : ι o = some b) (hc : len ≤ cap) : Rep M ι (.slice (some ⟨b, off, none⟩) len cap) (.hs o off len sz ag)
  | agg (vs : Array Value) (cs : List V) (hl : vs.size = cs.length) (hr : ∀ (i : Nat) v c, vs[i]? = some v → cs[i]? = some c → Rep M ι v c) : Rep M ι (.agg vs) (.agg cs)
  | tup (vs : Array Value) (cs : List V) (hl : vs.size = cs.length) (hr : ∀ (i : Nat) v c, vs[i]? = some v → cs[i]? = some c → Rep M ι v c) : Rep M ι (.tuple vs) (.tup cs)
  | ifc (t : TypeId) (v : Value) (x : V) (h : Rep M ι v x) : Rep M ι (.iface t v) (.ifc t x)
  | nili : Rep M ι .nilIface .nili
  | fn (f : FuncId) (ars bs : Array Value) (first caps : List V) (ha : ars.size = first.length) (hb : bs.size = caps.length)
      (hra : ∀ (i : Nat) v c, ars[i]? = some v → first[i]? = some c → Rep M ι v c) (hrb : ∀ (i : Nat) v c, bs[i]? = some v → caps[i]? = some c → Rep M ι v c) :
      Rep M ι (.func (.func f) ars bs) (.fn f first caps)
  | nilf : Rep M ι .nilFunc .nilf
  | mp (o r : Nat) (h : ι o = some r) : Rep M ι (.map (some r)) (.mp o)
  | nilm : Rep M ι (.map none) .nilm
  | hg (o len sz : Nat) (ag : Bool) (b cap n : Nat) (h : ι o = some b) (hn : ι.sz b = some n) (hc : len ≤ cap) (hr : cap * sz ≤ n) : Rep M ι (.slice (some ⟨b, 0, none⟩) len cap) (.hg o len sz ag)
  | mth (k : Nat) (v : Value) (x : V) (h : Rep M ι v x) : Rep M ι (.func (.method (mthName k)) #[v] #[]) (.mth k x)
structure MemLe (M M' : Mem) : Prop where
  le : ∀ b i u, M b i = some u → M' b i = some u
structure PlcLe (ι ι' : Plc) : Prop where
  le : ∀ o b, ι o = some b → ι' o = some b
  sz : ∀ b n, ι.sz b = some n → ι'.sz b = some n
theorem MemLe.refl (M : Mem) : MemLe M M := ⟨fun _ _ _ h => h⟩
theorem MemLe.trans {M M' M'' : Mem} (h : MemLe M M') (k : MemLe M' M'') : MemLe M M'' := ⟨fun b i u e => k.le b i u (h.le b i u e)⟩
theorem PlcLe.refl (ι : Plc) : PlcLe ι ι := ⟨fun _ _ h => h, fun _ _ h => h⟩
theorem PlcLe.trans {ι ι' ι'' : Plc} (h : PlcLe ι ι') (k : PlcLe ι' ι'') : PlcLe ι ι'' := ⟨fun o b e => k.le o b (h.le o b e), fun b n e => k.sz b n (h.sz b n e)⟩
theorem Rep.mono {M M' : Mem} {ι ι' : Plc} (hm : MemLe M M') (hi : PlcLe ι ι') {v : Value} {x : V} (h : Rep M ι v x) : Rep M' ι' v x := by
  induction h with
  | any v => exact .any v
  | undef => exact .undef
  | bool b => exact .bool b
  | int k n => exact .int k n
  | str s l h => exact .str s l h
  | nilp => exact .nilp
  | ptr o off b h => exact .ptr o off b (hi.le _ _ h)
  | eptr cs off b base us hl hmm hr ih => exact .eptr cs off b base us hl (fun i u e => hm.le _ _ _ (hmm i u e)) ih
  | nils => exact .nils
  | sl xs c b off cap sz us hs hl hmm hr hcap hfx ih => exact .sl xs c b off cap sz us hs hl (fun i u e => hm.le _ _ _ (hmm i u e)) ih hcap hfx
  | sl0 a c hg => exact .sl0 a c hg
  | hs o off len sz ag b cap h hc => exact .hs o off len sz ag b cap (hi.le _ _ h) hc
  | agg vs cs hl hr ih => exact .agg vs cs hl ih
  | tup vs cs hl hr ih => exact .tup vs cs hl ih
  | ifc t v x h ih => exact .ifc t v x ih
  | nili => exact .nili
  | fn f ars bs first caps ha hb hra hrb iha ihb => exact .fn f ars bs first caps ha hb iha ihb
  | nilf => exact .nilf
  | mp o r h => exact .mp o r (hi.le _ _ h)
  | nilm => exact .nilm
  | hg o len sz ag b cap n h hn hc hr => exact .hg o len sz ag b cap n (hi.le _ _ h) (hi.sz _ _ hn) hc hr
  | mth k v x h ih => exact .mth k v x ih
theorem Rep.ng {M : Mem} {ι : Plc} {v : Value} {x : V} (h : Rep M ι v x) : Rep M ι v x.ng := by
  cases h with
  | sl xs c b off cap sz us hs hl hmm hr hcap hfx => exact .sl xs .no b off cap sz us hs hl hmm hr hcap (fun e => by cases e)
  | sl0 a c hg => exact .sl0 a .no (fun s e => by cases e)
  | any v => exact .any v
  | undef => exact .undef
  | bool b => exact .bool b
  | int k n => exact .int k n
  | str s l h => exact .str s l h
  | nilp => exact .nilp
  | ptr o off b h => exact .ptr o off b h
  | eptr cs off b base us hl hmm hr => exact .eptr cs off b base us hl hmm hr
  | nils => exact .nils
  | hs o off len sz ag b cap h hc => exact .hs o off len sz ag b cap h hc
  | agg vs cs hl hr => exact .agg vs cs hl hr
  | tup vs cs hl hr => exact .tup vs cs hl hr
  | ifc t v x h => exact .ifc t v x h
  | nili => exact .nili
  | fn f ars bs first caps ha hb hra hrb => exact .fn f ars bs first caps ha hb hra hrb
  | nilf => exact .nilf
  | mp o r h => exact .mp o r h
  | nilm => exact .nilm
  | hg o len sz ag b cap n h hn hc hr => exact .hs o 0 len sz ag b cap h hc
  | mth k v x h => exact .mth k v x h
theorem V.nogr_cells_length (x : V) : x.ng.cells.length = x.cells.length := by cases x <;> rfl
theorem V.nogr_one (x : V) : x.ng.one = x.one := by cases x <;> rfl
theorem V.nogr_nogr (x : V) : x.ng.ng = x.ng := by cases x <;> rfl
def Reps (M : Mem) (ι : Plc) (us : List Value) (cs : List V) : Prop := us.length = cs.length ∧ ∀ (i : Nat) u c, us[i]? = some u → cs[i]? = some c → Rep M ι u c
theorem Reps.nil {M : Mem} {ι : Plc} : Reps M ι [] [] := ⟨rfl, fun i u c h => by simp at h⟩
theorem Reps.cons {M : Mem} {ι : Plc} {u : Value} {c : V} {us : List Value} {cs : List V} (h : Rep M ι u c) (hs : Reps M ι us cs) : Reps M ι (u :: us) (c :: cs) :=
  ⟨by simp [hs.1], fun i u' c' hu hc => by
    cases i with
    | zero => simp at hu hc; subst hu hc; exact h
    | succ i => simp at hu hc; exact hs.2 i u' c' hu hc⟩
theorem Reps.head {M : Mem} {ι : Plc} {u : Value} {c : V} {us : List Value} {cs : List V} (h : Reps M ι (u :: us) (c :: cs)) : Rep M ι u c := h.2 0 u c rfl rfl
theorem Reps.tail {M : Mem} {ι : Plc} {u : Value} {c : V} {us : List Value} {cs : List V} (h : Reps M ι (u :: us) (c :: cs)) : Reps M ι us cs :=
  ⟨by have := h.1; simpa using this, fun i u' c' hu hc => h.2 (i + 1) u' c' (by simpa using hu) (by simpa using hc)⟩
theorem Reps.mono {M M' : Mem} {ι ι' : Plc} (hm : MemLe M M') (hi : PlcLe ι ι') {us : List Value} {cs : List V} (h : Reps M ι us cs) : Reps M' ι' us cs :=
  ⟨h.1, fun i u c hu hc => (h.2 i u c hu hc).mono hm hi⟩
theorem Reps.append {M : Mem} {ι : Plc} {us us' : List Value} {cs cs' : List V} (h : Reps M ι us cs) (h' : Reps M ι us' cs') : Reps M ι (us ++ us') (cs ++ cs') := by
  refine ⟨by simp [h.1, h'.1], fun i u c hu hc => ?_⟩
  rw [List.getElem?_append] at hu hc
  rw [← h.1] at hc
  split at hu
  · rename_i hi; rw [if_pos hi] at hc; exact h.2 i u c hu hc
  · rename_i hi; rw [if_neg hi] at hc; exact h'.2 _ u c hu hc
theorem Reps.drop {M : Mem} {ι : Plc} {us : List Value} {cs : List V} (h : Reps M ι us cs) (n : Nat) : Reps M ι (us.drop n) (cs.drop n) :=
  ⟨by simp [h.1], fun i u c hu hc => h.2 (n + i) u c (by simpa using hu) (by simpa using hc)⟩
theorem Reps.take {M : Mem} {ι : Plc} {us : List Value} {cs : List V} (h : Reps M ι us cs) (n : Nat) : Reps M ι (us.take n) (cs.take n) :=
  ⟨by simp [h.1], fun i u c hu hc => by
    rw [List.getElem?_take] at hu hc
    split at hu
    · rename_i hi; rw [if_pos hi] at hc; exact h.2 i u c hu hc
    · cases hu⟩
theorem Reps.ng {M : Mem} {ι : Plc} {us : List Value} {cs : List V} (h : Reps M ι us cs) : Reps M ι us (cs.map V.ng) :=
  ⟨by simp [h.1], fun i u c hu hc => by
    simp only [List.getElem?_map, Option.map_eq_some_iff] at hc
    obtain ⟨c', hc', rfl⟩ := hc
    exact (h.2 i u c' hu hc').ng⟩
theorem Reps.get {M : Mem} {ι : Plc} {us : List Value} {cs : List V} (h : Reps M ι us cs) {i : Nat} {c : V} (hc : cs[i]? = some c) : ∃ u, us[i]? = some u ∧ Rep M ι u c := by
  have hi : i < us.length := by rw [h.1]; exact (List.getElem?_eq_some_iff.1 hc).1
  exact ⟨us[i], List.getElem?_eq_getElem hi, h.2 i _ c (List.getElem?_eq_getElem hi) hc⟩
theorem Reps.get' {M : Mem} {ι : Plc} {us : List Value} {cs : List V} (h : Reps M ι us cs) {i : Nat} {u : Value} (hu : us[i]? = some u) : ∃ c, cs[i]? = some c ∧ Rep M ι u c := by
  have hi : i < cs.length := by rw [← h.1]; exact (List.getElem?_eq_some_iff.1 hu).1
  exact ⟨cs[i], List.getElem?_eq_getElem hi, h.2 i u _ hu (List.getElem?_eq_getElem hi)⟩
theorem Reps.set {M : Mem} {ι : Plc} {us : List Value} {cs : List V} (h : Reps M ι us cs) {u : Value} {c : V} (hu : Rep M ι u c) (i : Nat) : Reps M ι (us.set i u) (cs.set i c) := by
  refine ⟨by simp [h.1], fun j u' c' hu' hc' => ?_⟩
  rw [List.getElem?_set] at hu' hc'
  by_cases hij : i = j
  · subst hij
    rw [if_pos rfl] at hu' hc'
    split at hu'
    · rename_i hlt; rw [if_pos (by rw [← h.1]; exact hlt)] at hc'; cases hu'; cases hc'; exact hu
    · cases hu'
  · rw [if_neg hij] at hu' hc'; exact h.2 j u' c' hu' hc'
theorem Rep.agg_iff {M : Mem} {ι : Plc} {vs : Array Value} {cs : List V} : Rep M ι (.agg vs) (.agg cs) ↔ Reps M ι vs.toList cs := by
  constructor
  · intro h
    cases h with
    | agg _ _ hl hr => exact ⟨by simpa using hl, fun i u c hu hc => hr i u c (by simpa using hu) hc⟩
  · intro h
    exact .agg vs cs (by simpa using h.1) (fun i v c hv hc => h.2 i v c (by simpa using hv) hc)
theorem Rep.cells {M : Mem} {ι : Plc} {v : Value} {x : V} (h : Rep M ι v x) (hx : ∀ c ∈ x.cells, c.one = true) : Reps M ι v.cells.toList x.cells := by
  cases h with
  | agg vs cs hl hr => exact Rep.agg_iff.1 (.agg vs cs hl hr)
  | any v => exact absurd (hx .any (by simp [V.cells])) (by simp [V.one])
  | undef => exact absurd (hx .undef (by simp [V.cells])) (by simp [V.one])
  | tup vs cs hl hr => exact absurd (hx (.tup cs) (by simp [V.cells])) (by simp [V.one])
  | bool b => exact Reps.cons (.bool b) Reps.nil
  | int k n => exact Reps.cons (.int k n) Reps.nil
  | str s l h => exact Reps.cons (.str s l h) Reps.nil
  | nilp => exact Reps.cons .nilp Reps.nil
  | ptr o off b h => exact Reps.cons (.ptr o off b h) Reps.nil
  | eptr cs off b base us hl hmm hr => exact Reps.cons (.eptr cs off b base us hl hmm hr) Reps.nil
  | nils => exact Reps.cons .nils Reps.nil
  | sl xs c b off cap sz us hs hl hmm hr hcap hfx => exact Reps.cons (.sl xs c b off cap sz us hs hl hmm hr hcap hfx) Reps.nil
  | sl0 a c hg => exact Reps.cons (.sl0 a c hg) Reps.nil
  | hs o off len sz ag b cap h hc => exact Reps.cons (.hs o off len sz ag b cap h hc) Reps.nil
  | ifc t v x h => exact Reps.cons (.ifc t v x h) Reps.nil
  | nili => exact Reps.cons .nili Reps.nil
  | fn f ars bs first caps ha hb hra hrb => exact Reps.cons (.fn f ars bs first caps ha hb hra hrb) Reps.nil
  | nilf => exact Reps.cons .nilf Reps.nil
  | mp o r h => exact Reps.cons (.mp o r h) Reps.nil
  | nilm => exact Reps.cons .nilm Reps.nil
  | hg o len sz ag b cap n h hn hc hr => exact Reps.cons (.hg o len sz ag b cap n h hn hc hr) Reps.nil
  | mth k v x h => exact Reps.cons (.mth k v x h) Reps.nil
theorem Rep.one {M : Mem} {ι : Plc} {v : Value} {x : V} (h : Rep M ι v x) (hx : x.one = true) : v.oneCell = true := by
  cases h <;> first | rfl | simp [V.one] at hx
end Go.Ev
set_option linter.unusedSimpArgs false
set_option linter.unusedVariables false
namespace Go.Ev
open Go
def ownB : Value → V → Option Nat
  | .slice (some a) _ _, .sl _ (.gr _) => some a.block
  | _, _ => none
def frozenAt (fz : Nat × Nat) (i : Nat) : Bool := decide (fz.1 ≤ i) && decide (i < fz.2)
theorem ownB_nogr (v : Value) (x : V) : ownB v x.ng = none := by
  unfold ownB
  split
  · rename_i heq
    cases x <;> simp [V.ng] at heq
  · rfl
inductive Pl where
  | s (i : Nat) | c (o i : Nat)
abbrev Own := Nat → Option Pl
def At (ι : Plc) (w : World) (us : List Value) (ρ : List V) (σ : Objs) : Pl → Value → V → Prop
  | .s i, v, x => us[i]? = some v ∧ ρ[i]? = some x
  | .c o i, v, x => ∃ b ws T fz cs, ι o = some b ∧ w.heap[b]? = some (.cells ws T fz) ∧ σ[o]? = some (.cells cs) ∧ ws[i]? = some v ∧ cs[i]? = some x
structure GrOK (M : Mem) (w : World) (v : Value) (x : V) : Prop where
  ok : ∀ xs sz, x = .sl xs (.gr sz) → ∀ a len cap, v = .slice (some a) len cap →
    (∀ y ∈ xs, y.cells.length = sz) ∧ (∀ i, a.off + (xs.flatMap V.cells).length ≤ i → M a.block i = none) ∧
    ∃ ws T fz, w.heap[a.block]? = some (.cells ws T fz) ∧ a.off + cap * sz ≤ ws.size ∧ ∀ i, a.off + (xs.flatMap V.cells).length ≤ i → i < ws.size → frozenAt fz i = false
theorem GrOK.of_none {M : Mem} {w : World} {v : Value} {x : V} (h : ownB v x = none) : GrOK M w v x := by
  refine ⟨fun xs sz hx a len cap hv => ?_⟩
  subst hx hv
  simp [ownB] at h
def EntRep (M : Mem) (ι : Plc) (en : List MapEntry) (es : List (V × V)) : Prop :=
  en.length = es.length ∧ ∀ (i : Nat) e p, en[i]? = some e → es[i]? = some p → Rep M ι e.key p.1 ∧ Rep M ι e.val p.2
def ObjRep (M : Mem) (ι : Plc) (w : World) (b : Nat) : O → Prop
  | .cells cs => ∃ ws T fz, w.heap[b]? = some (.cells ws T fz) ∧ Reps M ι (ws.toList.take cs.length) cs ∧ (∀ i, i < cs.length → frozenAt fz i = false) ∧ (∀ i, M b i = none) ∧ ∀ c ∈ cs, c.one = true
  | .mp es => ∃ en clock, w.heap[b]? = some (.map en clock) ∧ EntRep M ι en.toList es
  | .si r pos => ∃ s : ByteArray, w.heap[b]? = some (.stringIter s pos) ∧ s.data.toList.drop pos = r
  | .gone => True
structure Wd (M : Mem) (ι : Plc) (X : Nat → Prop) (κ : Own) (w : World) (σ : Objs) : Prop where
  mem : ∀ b i u, M b i = some u → w.cell? ⟨b, i, none⟩ = some u
  obj : ∀ o b, ι o = some b → ∃ O, σ[o]? = some O ∧ ObjRep M ι w b O
  olt : ∀ o b, ι o = some b → b < w.heap.size
  inj : ∀ o o' b, ι o = some b → ι o' = some b → σ[o]? ≠ some .gone → σ[o']? ≠ some .gone → o = o'
  xlt : ∀ b, X b → b < w.heap.size
  xobj : ∀ o b, ι o = some b → ¬ X b
  kap : ∀ b p, κ b = some p → ¬ X b ∧ (∀ o, ι o ≠ some b) ∧ b < w.heap.size
  szs : ∀ b n, ι.sz b = some n → (∃ o, ι o = some b) ∧ ∃ ws T fz, w.heap[b]? = some (.cells ws T fz) ∧ ws.size = n ∧ ∀ i, i < n → frozenAt fz i = false
structure St (M : Mem) (ι : Plc) (X : Nat → Prop) (κ : Own) (w : World) (us : List Value) (ρ : List V) (σ : Objs) : Prop where
  wd : Wd M ι X κ w σ
  rep : Reps M ι us ρ
  own : ∀ p v x b, At ι w us ρ σ p v x → ownB v x = some b → κ b = some p
  gr : ∀ p v x, At ι w us ρ σ p v x → GrOK M w v x
structure Ext (X : Nat → Prop) (M : Mem) (ι : Plc) (w : World) (M' : Mem) (ι' : Plc) (w' : World) : Prop where
  m : MemLe M M'
  i : PlcLe ι ι'
  mX : ∀ b i, X b → M' b i = M b i
  size : w.heap.size ≤ w'.heap.size
  keep : ∀ b, X b → w'.heap[b]? = w.heap[b]?
  os : w'.os = w.os
  tape : w'.tape = w.tape
  output : w'.output = w.output
theorem Ext.refl (X : Nat → Prop) (M : Mem) (ι : Plc) (w : World) : Ext X M ι w M ι w :=
  ⟨.refl _, .refl _, fun _ _ _ => rfl, Nat.le_refl _, fun _ _ => rfl, rfl, rfl, rfl⟩
theorem Ext.trans {X : Nat → Prop} {M M' M'' : Mem} {ι ι' ι'' : Plc} {w w' w'' : World} (h : Ext X M ι w M' ι' w') (k : Ext X M' ι' w' M'' ι'' w'') : Ext X M ι w M'' ι'' w'' :=
  ⟨h.m.trans k.m, h.i.trans k.i, fun b i hx => (k.mX b i hx).trans (h.mX b i hx), Nat.le_trans h.size k.size, fun b hx => (k.keep b hx).trans (h.keep b hx), k.os.trans h.os, k.tape.trans h.tape, k.output.trans h.output⟩
theorem Ext.less {X X' : Nat → Prop} {M M' : Mem} {ι ι' : Plc} {w w' : World} (h : Ext X M ι w M' ι' w') (hX : ∀ b, X' b → X b) : Ext X' M ι w M' ι' w' :=
  ⟨h.m, h.i, fun b i hx => h.mX b i (hX b hx), h.size, fun b hx => h.keep b (hX b hx), h.os, h.tape, h.output⟩
section
variable {M : Mem} {ι : Plc} {X : Nat → Prop} {κ : Own} {w : World} {us : List Value} {ρ : List V} {σ : Objs}
theorem Wd.lt (h : Wd M ι X κ w σ) {b i : Nat} {u : Value} (hm : M b i = some u) : b < w.heap.size := by
  have := h.mem b i u hm
  unfold World.cell? at this
  rcases Nat.lt_or_ge b w.heap.size with hb | hb
  · exact hb
  · simp [Array.getElem?_eq_none hb] at this
theorem Wd.drew (h : Wd M ι X κ w σ) : Wd M ι X κ { w with drawn := w.drawn + 1 } σ :=
  ⟨h.mem, fun o b hi => by
    obtain ⟨O, hO, hr⟩ := h.obj o b hi
    refine ⟨O, hO, ?_⟩
    cases O <;> exact hr, h.olt, h.inj, h.xlt, h.xobj, h.kap, h.szs⟩
theorem At.heap {w' : World} (hw : w'.heap = w.heap) {p : Pl} {v : Value} {x : V} (h : At ι w' us ρ σ p v x) : At ι w us ρ σ p v x := by
  cases p with
  | s i => exact h
  | c o i => obtain ⟨b, ws, T, fz, cs, h1, h2, h3⟩ := h; exact ⟨b, ws, T, fz, cs, h1, hw ▸ h2, h3⟩
theorem GrOK.heap {w' : World} {v : Value} {x : V} (hw : w'.heap = w.heap) (h : GrOK M w v x) : GrOK M w' v x :=
  ⟨fun xs sz hx a len cap hv => by
    obtain ⟨h1, h2, ws, T, fz, h3, h4⟩ := h.ok xs sz hx a len cap hv
    exact ⟨h1, h2, ws, T, fz, hw.symm ▸ h3, h4⟩⟩
theorem St.drew (h : St M ι X κ w us ρ σ) : St M ι X κ { w with drawn := w.drawn + 1 } us ρ σ :=
  ⟨h.wd.drew, h.rep, fun p v x b ha => h.own p v x b (At.heap (w := w) rfl ha), fun p v x ha => GrOK.heap (w := w) (w' := { w with drawn := w.drawn + 1 }) rfl (h.gr p v x (At.heap (w := w) rfl ha))⟩
theorem Ext.drew (X : Nat → Prop) (M : Mem) (ι : Plc) (w : World) : Ext X M ι w M ι { w with drawn := w.drawn + 1 } :=
  ⟨.refl _, .refl _, fun _ _ _ => rfl, Nat.le_refl _, fun _ _ => rfl, rfl, rfl, rfl⟩
theorem St.setSlot (h : St M ι X κ w us ρ σ) {v : Value} {x : V} (hr : Rep M ι v x) (ho : ownB v x = none) (d : Nat) : St M ι X κ w (us.set d v) (ρ.set d x) σ := by
  have key : ∀ p u y, At ι w (us.set d v) (ρ.set d x) σ p u y → At ι w us ρ σ p u y ∨ (u = v ∧ y = x) := by
    intro p u y ha
    cases p with
    | c o i => exact .inl ha
    | s i =>
      obtain ⟨h1, h2⟩ := ha
      rw [List.getElem?_set] at h1 h2
      by_cases hd : d = i
      · subst hd
        rw [if_pos rfl] at h1 h2
        split at h1
        · split at h2
          · cases h1; cases h2; exact .inr ⟨rfl, rfl⟩
          · cases h2
        · cases h1
      · rw [if_neg hd] at h1 h2; exact .inl ⟨h1, h2⟩
  refine ⟨h.wd, h.rep.set hr d, fun p u y b ha hb => ?_, fun p u y ha => ?_⟩
  · rcases key p u y ha with ha | ⟨rfl, rfl⟩
    · exact h.own p u y b ha hb
    · rw [ho] at hb; cases hb
  · rcases key p u y ha with ha | ⟨rfl, rfl⟩
    · exact h.gr p u y ha
    · exact .of_none ho
theorem St.dropSlot (h : St M ι X κ w us ρ σ) (n : Nat) : St M ι X κ w us (ρ.set n (ρ.getD n .undef).ng) σ := by
  by_cases hn : n < ρ.length
  · have hu : us[n]? = some (us[n]'(by rw [h.rep.1]; exact hn)) := List.getElem?_eq_getElem _
    have hx : ρ[n]? = some (ρ[n]) := List.getElem?_eq_getElem hn
    have := h.setSlot ((h.rep.2 n _ _ hu hx).ng) (ownB_nogr _ _) n
    rw [show us.set n (us[n]'(by rw [h.rep.1]; exact hn)) = us from List.set_getElem_self _] at this
    simpa [List.getD, hx] using this
  · rw [List.set_eq_of_length_le (by omega)]; exact h
theorem St.moveSlot (h : St M ι X κ w us ρ σ) {n d : Nat} {v : Value} {x : V} (hv : us[n]? = some v) (hx : ρ[n]? = some x) :
    ∃ κ', St M ι X κ' w (us.set d v) ((ρ.set n x.ng).set d x) σ ∧ (∀ b, (κ b).isNone → (κ' b).isNone) := by
  have hd := h.dropSlot n
  have hg : ρ.getD n .undef = x := by simp [List.getD, hx]
  rw [hg] at hd
  have hrx := h.rep.2 n v x hv hx
  have hnlt : n < ρ.length := (List.getElem?_eq_some_iff.1 hx).1
  cases hb : ownB v x with
  | none => exact ⟨κ, hd.setSlot hrx hb d, fun b hb => hb⟩
  | some b =>
    have hat : At ι w us ρ σ (.s n) v x := ⟨hv, hx⟩
    have hk := h.own _ v x b hat hb
    refine ⟨fun b' => if b' = b then some (.s d) else κ b', ⟨⟨h.wd.mem, h.wd.obj, h.wd.olt, h.wd.inj, h.wd.xlt, h.wd.xobj, ?_, h.wd.szs⟩, hd.rep.set hrx d, ?_, ?_⟩, ?_⟩
    · intro b' p hp
      by_cases hbb : b' = b
      · subst hbb; exact h.wd.kap b' _ hk
      · rw [if_neg hbb] at hp; exact h.wd.kap b' p hp
    · intro p u y b' ha hb'
      have hcase : p = .s d ∧ u = v ∧ y = x ∨ (p ≠ .s d ∧ At ι w us (ρ.set n x.ng) σ p u y) := by
        cases p with
        | c o i => exact .inr ⟨by simp, ha⟩
        | s i =>
          obtain ⟨h1, h2⟩ := ha
          rw [List.getElem?_set] at h1 h2
          by_cases hd' : d = i
          · subst hd'
            rw [if_pos rfl] at h1 h2
            split at h1
            · split at h2
              · cases h1; cases h2; exact .inl ⟨rfl, rfl, rfl⟩
              · cases h2
            · cases h1
          · rw [if_neg hd'] at h1 h2; exact .inr ⟨by simpa using fun e => hd' e.symm, ⟨h1, h2⟩⟩
      rcases hcase with ⟨rfl, rfl, rfl⟩ | ⟨hp, ha'⟩
      · rw [hb] at hb'; cases hb'; rw [if_pos rfl]
      · have hk' := hd.own p u y b' ha' hb'
        by_cases hbb : b' = b
        · subst hbb
          rw [hk] at hk'
          cases hk'
          obtain ⟨h1, h2⟩ := ha'
          rw [List.getElem?_set_self hnlt] at h2
          cases h2
          rw [ownB_nogr] at hb'; cases hb'
        · rw [if_neg hbb]; exact hk'
    · intro p u y ha
      have hcase : (u = v ∧ y = x) ∨ At ι w us (ρ.set n x.ng) σ p u y := by
        cases p with
        | c o i => exact .inr ha
        | s i =>
          obtain ⟨h1, h2⟩ := ha
          rw [List.getElem?_set] at h1 h2
          by_cases hd' : d = i
          · subst hd'
            rw [if_pos rfl] at h1 h2
            split at h1
            · split at h2
              · cases h1; cases h2; exact .inl ⟨rfl, rfl⟩
              · cases h2
            · cases h1
          · rw [if_neg hd'] at h1 h2; exact .inr ⟨h1, h2⟩
      rcases hcase with ⟨rfl, rfl⟩ | ha'
      · exact h.gr _ _ _ hat
      · exact hd.gr p u y ha'
    · intro b' hb'
      by_cases hbb : b' = b
      · subst hbb; rw [hk] at hb'; cases hb'
      · simpa [hbb] using hb'
end
end Go.Ev
set_option linter.unusedSimpArgs false
set_option linter.unusedVariables false
namespace Go.Ev
open Go
theorem add_none (b off n : Nat) : (⟨b, off, none⟩ : Addr).add n = ⟨b, off + n, none⟩ := by
  unfold Addr.add
  split
  · rename_i h; subst h; rfl
  · rfl
theorem sem_pure_run {α : Type} (P : Program) (x : α) (w : World) : (pure x : Sem α).run P w = .ok x w := rfl
theorem sem_bind_run {α β : Type} (P : Program) (x : Sem α) (f : α → Sem β) (w : World) :
    (x >>= f).run P w = (x.run P w).andThen fun a w' => (f a).run P w' := Sem.run_bind' P x f w
theorem run_load {P : Program} {w : World} {a : Addr} {v : Value} (h : w.cell? a = some v) : (load a).run P w = .ok v w := by
  simp [load, Sem.run, h]
theorem run_loadCellsFrom {P : Program} {w : World} (b off : Nat) : ∀ (vs : List Value) (i : Nat) (acc : Array Value),
    (∀ (j : Nat) u, vs[j]? = some u → w.cell? ⟨b, off + (i + j), none⟩ = some u) →
    (loadCellsFrom ⟨b, off, none⟩ i vs.length acc).run P w = .ok (acc ++ vs.toArray) w
  | [], i, acc, _ => by simp [loadCellsFrom, sem_pure_run]
  | v :: vs, i, acc, h => by
    have h0 := h 0 v rfl
    simp only [List.length_cons, loadCellsFrom, add_none]
    rw [sem_bind_run, run_load (by simpa using h0)]
    simp only [Result.andThen]
    rw [run_loadCellsFrom b off vs (i + 1) (acc.push v) (fun j u hu => by
      have := h (j + 1) u (by simpa using hu)
      rw [show off + (i + 1 + j) = off + (i + (j + 1)) from by omega]
      exact this)]
    simp
theorem run_loadCells {P : Program} {w : World} (b off : Nat) (vs : List Value) (h : ∀ (j : Nat) u, vs[j]? = some u → w.cell? ⟨b, off + j, none⟩ = some u) :
    (loadCells ⟨b, off, none⟩ vs.length).run P w = .ok vs.toArray w := by
  unfold loadCells
  rw [run_loadCellsFrom b off vs 0 #[] (fun j u hu => by simpa using h j u hu)]
  simp
def setRow (w : World) (b : Nat) (ws : Array Value) (T : TypeId) (fz : Nat × Nat) : World := { w with heap := w.heap.setIfInBounds b (.cells ws T fz) }
theorem setRow_heap (w : World) (b : Nat) (ws : Array Value) (T : TypeId) (fz : Nat × Nat) (c : Nat) :
    (setRow w b ws T fz).heap[c]? = if b = c then (if b < w.heap.size then some (.cells ws T fz) else none) else w.heap[c]? := by
  simp only [setRow, Array.getElem?_setIfInBounds]
theorem setRow_size (w : World) (b : Nat) (ws : Array Value) (T : TypeId) (fz : Nat × Nat) : (setRow w b ws T fz).heap.size = w.heap.size := by
  simp [setRow]
theorem setRow_same {w : World} {b : Nat} {ws : Array Value} {T : TypeId} {fz : Nat × Nat} (h : w.heap[b]? = some (.cells ws T fz)) : setRow w b ws T fz = w := by
  have hb : b < w.heap.size := (Array.getElem?_eq_some_iff.1 h).1
  have he : w.heap[b] = .cells ws T fz := by rw [Array.getElem?_eq_getElem hb] at h; exact Option.some.inj h
  unfold setRow
  have : w.heap.setIfInBounds b (.cells ws T fz) = w.heap := by
    apply Array.ext
    · simp
    · intro i h1 h2
      rw [Array.getElem_setIfInBounds (by simpa using h1)]
      split
      · rename_i hbi; subst hbi; exact he.symm
      · rfl
  rw [this]
def layA : Array Value → Nat → List Value → Array Value
  | ws, _, [] => ws
  | ws, i, u :: us => layA (ws.setIfInBounds i u) (i + 1) us
theorem layA_size : ∀ (us : List Value) (ws : Array Value) (i : Nat), (layA ws i us).size = ws.size
  | [], _, _ => rfl
  | u :: us, ws, i => by simp [layA, layA_size us]
theorem layA_get : ∀ (us : List Value) (ws : Array Value) (i j : Nat), i + us.length ≤ ws.size →
    (layA ws i us)[j]? = if i ≤ j ∧ j < i + us.length then us[j - i]? else ws[j]?
  | [], ws, i, j, _ => by
    have : ¬ (i ≤ j ∧ j < i + ([] : List Value).length) := by simp only [List.length_nil]; omega
    rw [if_neg this]
    rfl
  | u :: us, ws, i, j, h => by
    simp only [List.length_cons] at h
    simp only [layA]
    rw [layA_get us _ (i + 1) j (by simp; omega), Array.getElem?_setIfInBounds]
    by_cases hij : i = j
    · subst hij
      rw [if_neg (by omega), if_pos rfl, if_pos (by omega), if_pos (by simp)]
      simp
    · by_cases hc : i + 1 ≤ j ∧ j < i + 1 + us.length
      · rw [if_pos hc, if_pos (by simp; omega)]
        rw [show j - i = (j - (i + 1)) + 1 from by omega]
        simp
      · rw [if_neg hc, if_neg hij, if_neg (by simp; omega)]
theorem cell_row {w : World} {b : Nat} {ws : Array Value} {T : TypeId} {fz : Nat × Nat} (h : w.heap[b]? = some (.cells ws T fz)) (i : Nat) : w.cell? ⟨b, i, none⟩ = ws[i]? := by
  simp [World.cell?, h]
theorem frozen_row {w : World} {b : Nat} {ws : Array Value} {T : TypeId} {fz : Nat × Nat} (h : w.heap[b]? = some (.cells ws T fz)) (i : Nat) : w.frozen? ⟨b, i, none⟩ = frozenAt fz i := by
  simp [World.frozen?, h, frozenAt]
theorem setCell_row {w : World} {b : Nat} {ws : Array Value} {T : TypeId} {fz : Nat × Nat} (h : w.heap[b]? = some (.cells ws T fz)) (i : Nat) (u : Value) :
    w.setCell ⟨b, i, none⟩ u = setRow w b (ws.setIfInBounds i u) T fz := by
  have hb : b < w.heap.size := (Array.getElem?_eq_some_iff.1 h).1
  have he : w.heap[b] = .cells ws T fz := by rw [Array.getElem?_eq_getElem hb] at h; exact Option.some.inj h
  unfold World.setCell setRow
  have : w.heap.modify b (fun
      | .cells c elem frozen => .cells (if (⟨b, i, none⟩ : Addr).spot.isSome then c else c.setIfInBounds (⟨b, i, none⟩ : Addr).off u) elem frozen
      | o => o) = w.heap.setIfInBounds b (.cells (ws.setIfInBounds i u) T fz) := by
    apply Array.ext
    · simp
    · intro j h1 h2
      rw [Array.getElem_modify, Array.getElem_setIfInBounds (by simpa using h2)]
      split
      · rename_i hbj; subst hbj; simp [he]
      · rfl
  exact congrArg (fun h => ({ w with heap := h } : World)) this
theorem run_store {P : Program} {w : World} {b i : Nat} {ws : Array Value} {T : TypeId} {fz : Nat × Nat} {u : Value} (h : w.heap[b]? = some (.cells ws T fz))
    (hi : i < ws.size) (hf : frozenAt fz i = false) (hu : u.oneCell = true) : (store ⟨b, i, none⟩ u).run P w = .ok () (setRow w b (ws.setIfInBounds i u) T fz) := by
  have hc : w.cell? ⟨b, i, none⟩ = some ws[i] := by rw [cell_row h, Array.getElem?_eq_getElem hi]
  have hfz : w.frozen? ⟨b, i, none⟩ = false := by rw [frozen_row h, hf]
  rw [← setCell_row h i u]
  unfold store
  cases u <;> first | (simp [Value.oneCell] at hu; done) | simp [Sem.run, hc, hfz]
theorem run_storeCells {P : Program} (b off : Nat) (T : TypeId) (fz : Nat × Nat) : ∀ (us : List Value) (w : World) (ws : Array Value) (i : Nat),
    w.heap[b]? = some (.cells ws T fz) → off + i + us.length ≤ ws.size → (∀ j, off + i ≤ j → j < off + i + us.length → frozenAt fz j = false) → (∀ u ∈ us, u.oneCell = true) →
    (storeCells ⟨b, off, none⟩ us i).run P w = .ok () (setRow w b (layA ws (off + i) us) T fz)
  | [], w, ws, i, h, _, _, _ => by
    simp only [storeCells, layA]
    rw [setRow_same h]
    rfl
  | u :: us, w, ws, i, h, hl, hf, hu => by
    simp only [List.length_cons] at hl hf
    simp only [storeCells, add_none, layA]
    have hb : b < w.heap.size := (Array.getElem?_eq_some_iff.1 h).1
    rw [sem_bind_run, run_store h (by omega) (hf _ (by omega) (by omega)) (hu u (by simp))]
    simp only [Result.andThen]
    have h' : (setRow w b (ws.setIfInBounds (off + i) u) T fz).heap[b]? = some (.cells (ws.setIfInBounds (off + i) u) T fz) := by
      rw [setRow_heap, if_pos rfl, if_pos hb]
    rw [run_storeCells b off T fz us _ _ (i + 1) h' (by simp; omega) (fun j h1 h2 => hf j (by omega) (by omega)) (fun v hv => hu v (by simp [hv]))]
    congr 1
    unfold setRow
    simp only [Array.setIfInBounds_setIfInBounds, Nat.add_assoc]
def pushB (w : World) (o : Obj) : World := { w with heap := w.heap.push o }
theorem pushB_heap (w : World) (o : Obj) (c : Nat) : (pushB w o).heap[c]? = if c = w.heap.size then some o else w.heap[c]? := by
  simp only [pushB, Array.getElem?_push]
theorem pushB_size (w : World) (o : Obj) : (pushB w o).heap.size = w.heap.size + 1 := by simp [pushB]
theorem pushB_old (w : World) (o : Obj) {c : Nat} (h : c < w.heap.size) : (pushB w o).heap[c]? = w.heap[c]? := by
  rw [pushB_heap, if_neg (by omega)]
theorem pushB_new (w : World) (o : Obj) : (pushB w o).heap[w.heap.size]? = some o := by rw [pushB_heap, if_pos rfl]
def pushM (M : Mem) (s : Nat) (ws : List Value) : Mem := fun b i => if b = s then ws[i]? else M b i
section
variable {M : Mem} {ι : Plc} {X : Nat → Prop} {κ : Own} {w : World} {us : List Value} {ρ : List V} {σ : Objs}
theorem ObjRep.push (hw : Wd M ι X κ w σ) {M' : Mem} (hM : MemLe M M') (hM' : ∀ b i, b < w.heap.size → M' b i = M b i) {ι' : Plc} (hι : PlcLe ι ι') (o : Obj) {b : Nat} {O : O} (h : ObjRep M ι w b O)
    (hb : b < w.heap.size) : ObjRep M' ι' (pushB w o) b O := by
  cases O with
  | cells cs =>
    obtain ⟨ws, T, fz, h1, h2, h3, h4, h5⟩ := h
    exact ⟨ws, T, fz, by rw [pushB_old w o hb]; exact h1, h2.mono hM hι, h3, fun i => by rw [hM' b i hb]; exact h4 i, h5⟩
  | mp es =>
    obtain ⟨en, c, h1, h2⟩ := h
    exact ⟨en, c, by rw [pushB_old w o hb]; exact h1, h2.1, fun i e p he hp => ⟨(h2.2 i e p he hp).1.mono hM hι, (h2.2 i e p he hp).2.mono hM hι⟩⟩
  | si r pos =>
    obtain ⟨s, h1, h2⟩ := h
    exact ⟨s, by rw [pushB_old w o hb]; exact h1, h2⟩
  | gone => trivial
end
end Go.Ev
set_option linter.unusedSimpArgs false
set_option linter.unusedVariables false
namespace Go.Ev
open Go
section
variable {M : Mem} {ι : Plc} {X : Nat → Prop} {κ : Own} {w : World} {us : List Value} {ρ : List V} {σ : Objs}
theorem pushM_old {s : Nat} {ws : List Value} {b i : Nat} (h : b ≠ s) : pushM M s ws b i = M b i := by unfold pushM; rw [if_neg h]
theorem pushM_new {s : Nat} {ws : List Value} {i : Nat} : pushM M s ws s i = ws[i]? := by unfold pushM; rw [if_pos rfl]
theorem Wd.pushM_le (h : Wd M ι X κ w σ) (ws : List Value) : MemLe M (pushM M w.heap.size ws) :=
  ⟨fun b i u hm => by rw [pushM_old (by have := h.lt hm; omega)]; exact hm⟩
theorem Wd.push (h : Wd M ι X κ w σ) (o : Obj) (ws : List Value) (ho : ∀ (i : Nat) u, ws[i]? = some u → ∃ ars T fz, o = .cells ars T fz ∧ ars[i]? = some u) :
    Wd (pushM M w.heap.size ws) ι X κ (pushB w o) σ := by
  refine ⟨fun b i u hm => ?_, fun o' b hi => ?_, fun o' b hi => ?_, h.inj, fun b hx => ?_, h.xobj, fun b p hp => ?_, fun b n hz => ?_⟩
  · by_cases hb : b = w.heap.size
    · subst hb
      rw [pushM_new] at hm
      obtain ⟨ars, T, fz, rfl, ha⟩ := ho i u hm
      rw [cell_row (pushB_new w _)]; exact ha
    · rw [pushM_old hb] at hm
      have := h.mem b i u hm
      rw [← this]
      have hlt := h.lt hm
      simp only [World.cell?, pushB_old w o hlt]
  · obtain ⟨O, hO, hr⟩ := h.obj o' b hi
    exact ⟨O, hO, hr.push h (h.pushM_le ws) (fun b i hb => pushM_old (by omega)) (.refl _) o (h.olt o' b hi)⟩
  · have := h.olt o' b hi; rw [pushB_size]; omega
  · have := h.xlt b hx; rw [pushB_size]; omega
  · obtain ⟨h1, h2, h3⟩ := h.kap b p hp
    exact ⟨h1, h2, by rw [pushB_size]; omega⟩
  · obtain ⟨h1, ars, T, fz, h2, h3⟩ := h.szs b n hz
    exact ⟨h1, ars, T, fz, by rw [pushB_old w o (Array.getElem?_eq_some_iff.1 h2).1]; exact h2, h3⟩
theorem Ext.push (h : Wd M ι X κ w σ) (o : Obj) (ws : List Value) : Ext X M ι w (pushM M w.heap.size ws) ι (pushB w o) :=
  ⟨h.pushM_le ws, .refl _, fun b i hx => pushM_old (by have := h.xlt b hx; omega), by rw [pushB_size]; omega, fun b hx => pushB_old w o (h.xlt b hx), rfl, rfl, rfl⟩
theorem At.push (h : Wd M ι X κ w σ) {o : Obj} {p : Pl} {v : Value} {x : V} (ha : At ι (pushB w o) us ρ σ p v x) : At ι w us ρ σ p v x := by
  cases p with
  | s i => exact ha
  | c q i =>
    obtain ⟨b, ws, T, fz, cs, h1, h2, h3⟩ := ha
    rw [pushB_old w o (h.olt q b h1)] at h2
    exact ⟨b, ws, T, fz, cs, h1, h2, h3⟩
theorem GrOK.push {v : Value} {x : V} (h : GrOK M w v x) (o : Obj) (ws : List Value) (hl : ∀ a len cap, v = .slice (some a) len cap → ∀ b, ownB v x = some b → b < w.heap.size) :
    GrOK (pushM M w.heap.size ws) (pushB w o) v x := by
  refine ⟨fun xs sz hx a len cap hv => ?_⟩
  obtain ⟨h1, h2, ars, T, fz, h3, h4, h5⟩ := h.ok xs sz hx a len cap hv
  have hlt : a.block < w.heap.size := (Array.getElem?_eq_some_iff.1 h3).1
  exact ⟨h1, fun i hi => by rw [pushM_old (by omega)]; exact h2 i hi, ars, T, fz, by rw [pushB_old w o hlt]; exact h3, h4, h5⟩
theorem St.push (h : St M ι X κ w us ρ σ) (o : Obj) (ws : List Value) (ho : ∀ (i : Nat) u, ws[i]? = some u → ∃ ars T fz, o = .cells ars T fz ∧ ars[i]? = some u) :
    St (pushM M w.heap.size ws) ι X κ (pushB w o) us ρ σ :=
  ⟨h.wd.push o ws ho, h.rep.mono (h.wd.pushM_le ws) (.refl _), fun p v x b ha hb => h.own p v x b (At.push h.wd ha) hb, fun p v x ha =>
    (h.gr p v x (At.push h.wd ha)).push o ws fun a len cap hv b hb => (h.wd.kap b _ (h.own p v x b (At.push h.wd ha) hb)).2.2⟩
theorem St.setOwn (h : St M ι X κ w us ρ σ) {v : Value} {x : V} (hr : Rep M ι v x) {b : Nat} (hb : ownB v x = some b) (hk : κ b = none) (hX : ¬ X b) (hι : ∀ o, ι o ≠ some b) (hlt : b < w.heap.size)
    (hg : GrOK M w v x) (d : Nat) : ∃ κ', St M ι X κ' w (us.set d v) (ρ.set d x) σ := by
  have key : ∀ p u y, At ι w (us.set d v) (ρ.set d x) σ p u y → (p ≠ .s d ∧ At ι w us ρ σ p u y) ∨ (p = .s d ∧ u = v ∧ y = x) := by
    intro p u y ha
    cases p with
    | c o i => exact .inl ⟨by simp, ha⟩
    | s i =>
      obtain ⟨h1, h2⟩ := ha
      rw [List.getElem?_set] at h1 h2
      by_cases hd : d = i
      · subst hd
        rw [if_pos rfl] at h1 h2
        split at h1
        · split at h2
          · cases h1; cases h2; exact .inr ⟨rfl, rfl, rfl⟩
          · cases h2
        · cases h1
      · rw [if_neg hd] at h1 h2; exact .inl ⟨by simpa using fun e => hd e.symm, ⟨h1, h2⟩⟩
  refine ⟨fun b' => if b' = b then some (.s d) else κ b', ⟨h.wd.mem, h.wd.obj, h.wd.olt, h.wd.inj, h.wd.xlt, h.wd.xobj, ?_, h.wd.szs⟩, h.rep.set hr d, ?_, ?_⟩
  · intro b' p hp
    by_cases hbb : b' = b
    · subst hbb; exact ⟨hX, hι, hlt⟩
    · simp only [hbb, if_false] at hp; exact h.wd.kap b' p hp
  · intro p u y b' ha hb'
    rcases key p u y ha with ⟨hp, ha⟩ | ⟨rfl, rfl, rfl⟩
    · have hk' := h.own p u y b' ha hb'
      have hbb : b' ≠ b := fun e => by subst e; rw [hk] at hk'; cases hk'
      simp only [hbb, if_false]; exact hk'
    · rw [hb] at hb'; cases hb'; simp
  · intro p u y ha
    rcases key p u y ha with ⟨hp, ha⟩ | ⟨rfl, rfl, rfl⟩
    · exact h.gr p u y ha
    · exact hg
theorem kap_new (h : Wd M ι X κ w σ) : κ w.heap.size = none := by
  cases hk : κ w.heap.size with
  | none => rfl
  | some p => have := (h.kap _ p hk).2.2; omega
theorem inew (h : Wd M ι X κ w σ) : ∀ o, ι o ≠ some w.heap.size := fun o ho => by have := h.olt o _ ho; omega
theorem St.newRow (h : St M ι X κ w us ρ σ) (ars : Array Value) (T : TypeId) (fz : Nat × Nat) (xs : List V) (c : Cap) (cap sz : Nat)
    (hr : Reps M ι (ars.toList.take (xs.flatMap V.cells).length) (xs.flatMap V.cells)) (hs : ∀ y ∈ xs, y.cells.length = sz) (hcap : xs.length ≤ cap) (hfx : c = .fx → cap = xs.length)
    (hgr : ∀ s, c = .gr s → s = sz ∧ cap * sz ≤ ars.size ∧ ∀ i, (xs.flatMap V.cells).length ≤ i → i < ars.size → frozenAt fz i = false) (d : Nat) :
    ∃ M' κ', Ext X M ι w M' ι (pushB w (.cells ars T fz)) ∧ St M' ι X κ' (pushB w (.cells ars T fz)) (us.set d (.slice (some ⟨w.heap.size, 0, none⟩) xs.length cap)) (ρ.set d (.sl xs c)) σ ∧
      Rep M' ι (.slice (some ⟨w.heap.size, 0, none⟩) xs.length cap) (.sl xs c) := by
  generalize hk : (xs.flatMap V.cells).length = k at *
  have hM := h.wd.pushM_le (ars.toList.take k)
  have hst := h.push (.cells ars T fz) (ars.toList.take k) (fun i u hu => ⟨ars, T, fz, rfl, by
    rw [List.getElem?_take] at hu
    split at hu
    · simpa using hu
    · cases hu⟩)
  have hrep : Rep (pushM M w.heap.size (ars.toList.take k)) ι (.slice (some ⟨w.heap.size, 0, none⟩) xs.length cap) (.sl xs c) :=
    .sl xs c w.heap.size 0 cap sz (ars.toList.take k) hs (by rw [hr.1]) (fun i u hu => by simpa [pushM_new] using hu) (fun i u y hu hy => (hr.2 i u y hu hy).mono hM (.refl _)) hcap hfx
  cases ho : ownB (.slice (some ⟨w.heap.size, 0, none⟩) xs.length cap) (.sl xs c) with
  | none => exact ⟨_, κ, Ext.push h.wd _ _, hst.setSlot hrep ho d, hrep⟩
  | some b =>
    have hb : b = w.heap.size := by cases c <;> simp [ownB] at ho; exact ho.symm
    subst hb
    obtain ⟨s, hc⟩ : ∃ s, c = .gr s := by cases c <;> simp [ownB] at ho; exact ⟨_, rfl⟩
    subst hc
    obtain ⟨rfl, hroom, hfrz⟩ := hgr s rfl
    obtain ⟨κ', hst'⟩ := hst.setOwn hrep ho (kap_new h.wd) (fun hx => by have := h.wd.xlt _ hx; omega) (inew h.wd) (by rw [pushB_size]; omega)
      ⟨fun xs' sz' hx a len cap' hv => by
        cases hx; cases hv
        refine ⟨hs, fun i hi => ?_, ars, T, fz, pushB_new w _, by simpa using hroom, fun i h1 h2 => hfrz i (by simpa [hk] using h1) h2⟩
        rw [pushM_new, List.getElem?_take]
        rw [if_neg (by simp only [hk, Nat.zero_add] at hi; omega)]⟩ d
    exact ⟨_, κ', Ext.push h.wd _ _, hst', hrep⟩
def Plc.more (ι : Plc) (q b : Nat) (n : Option Nat) : Plc := ⟨fun o => if o = q then some b else ι o, fun c => if c = b then n else ι.sz c⟩
theorem more_at {q b o : Nat} {n : Option Nat} : ι.more q b n o = if o = q then some b else ι o := rfl
theorem more_sz {q b c : Nat} {n : Option Nat} : (ι.more q b n).sz c = if c = b then n else ι.sz c := rfl
theorem Wd.more_le (h : Wd M ι X κ w σ) {q : Nat} {n : Option Nat} (h0 : ι q = none) : PlcLe ι (ι.more q w.heap.size n) :=
  ⟨fun o b hb => by
    rw [more_at]
    by_cases ho : o = q
    · subst ho; rw [h0] at hb; cases hb
    · rw [if_neg ho]; exact hb, fun c k hc => by
    rw [more_sz]
    by_cases hcb : c = w.heap.size
    · subst hcb
      obtain ⟨_, ws, T, fz, h2, _⟩ := h.szs _ k hc
      have := (Array.getElem?_eq_some_iff.1 h2).1
      omega
    · rw [if_neg hcb]; exact hc⟩
theorem St.newO (h : St M ι X κ w us ρ σ) (hι0 : ι σ.length = none) (ob : Obj) (O : O) (hO : ∀ M' ι', MemLe M M' → PlcLe ι ι' → (∀ i, M' w.heap.size i = none) → ObjRep M' ι' (pushB w ob) w.heap.size O)
    (hno : ∀ cs, O = .cells cs → ∀ c ∈ cs, ∀ v, ownB v c = none) {n : Option Nat} (hsz : ∀ k, n = some k → ∃ ars T fz, ob = .cells ars T fz ∧ ars.size = k ∧ ∀ i, i < k → frozenAt fz i = false) :
    ∃ M' ι', Ext X M ι w M' ι' (pushB w ob) ∧ ι' σ.length = some w.heap.size ∧ St M' ι' X κ (pushB w ob) us ρ (σ ++ [O]) ∧ (∀ o, o ≠ σ.length → ι' o = ι o) ∧ ι'.sz w.heap.size = n := by
  have hst := h.push ob [] (fun i u hu => by simp at hu)
  have hM := h.wd.pushM_le []
  have hι := h.wd.more_le (n := n) hι0
  have hat : ∀ o, ι.more σ.length w.heap.size n o = if o = σ.length then some w.heap.size else ι o := fun o => rfl
  refine ⟨pushM M w.heap.size [], ι.more σ.length w.heap.size n, ⟨hM, hι, fun b i hx => pushM_old (by have := h.wd.xlt b hx; omega), by rw [pushB_size]; omega, fun b hx => pushB_old w _ (h.wd.xlt b hx), rfl, rfl, rfl⟩, by rw [hat, if_pos rfl], ⟨⟨hst.wd.mem, ?_, ?_, ?_, hst.wd.xlt, ?_, ?_, ?_⟩, hst.rep.mono (.refl _) hι, ?_, ?_⟩, fun o ho => by rw [hat, if_neg ho], by rw [more_sz, if_pos rfl]⟩
  · intro o b hb
    rw [hat] at hb
    by_cases ho : o = σ.length
    · subst ho
      rw [if_pos rfl] at hb
      cases hb
      exact ⟨O, by simp, hO _ _ hM hι fun i => by rw [pushM_new]; simp⟩
    · rw [if_neg ho] at hb
      obtain ⟨O', hO', hor⟩ := h.wd.obj o b hb
      refine ⟨O', by rw [List.getElem?_append_left (List.getElem?_eq_some_iff.1 hO').1]; exact hO', ?_⟩
      exact hor.push h.wd hM (fun b i hb => pushM_old (by omega)) hι _ (h.wd.olt o b hb)
  · intro o b hb
    rw [hat] at hb
    by_cases ho : o = σ.length
    · rw [if_pos ho] at hb; cases hb; rw [pushB_size]; omega
    · rw [if_neg ho] at hb; exact hst.wd.olt o b hb
  · intro o o' b hb hb' hl hl'
    rw [hat] at hb hb'
    by_cases ho : o = σ.length
    · by_cases ho' : o' = σ.length
      · rw [ho, ho']
      · rw [if_pos ho] at hb; rw [if_neg ho'] at hb'
        cases hb; exact absurd hb' (inew h.wd o')
    · by_cases ho' : o' = σ.length
      · rw [if_neg ho] at hb; rw [if_pos ho'] at hb'
        cases hb'; exact absurd hb (inew h.wd o)
      · rw [if_neg ho] at hb; rw [if_neg ho'] at hb'
        obtain ⟨_, hO1, _⟩ := h.wd.obj o b hb
        obtain ⟨_, hO2, _⟩ := h.wd.obj o' b hb'
        rw [List.getElem?_append_left (List.getElem?_eq_some_iff.1 hO1).1] at hl
        rw [List.getElem?_append_left (List.getElem?_eq_some_iff.1 hO2).1] at hl'
        exact h.wd.inj o o' b hb hb' hl hl'
  · intro o b hb
    rw [hat] at hb
    by_cases ho : o = σ.length
    · rw [if_pos ho] at hb; cases hb; intro hx; have := h.wd.xlt _ hx; omega
    · rw [if_neg ho] at hb; exact h.wd.xobj o b hb
  · intro b p hp
    obtain ⟨h1, h2, h3⟩ := h.wd.kap b p hp
    refine ⟨h1, fun o ho => ?_, by rw [pushB_size]; omega⟩
    rw [hat] at ho
    by_cases hoo : o = σ.length
    · rw [if_pos hoo] at ho; cases ho; omega
    · rw [if_neg hoo] at ho; exact h2 o ho
  · intro b k hk
    rw [more_sz] at hk
    by_cases hb : b = w.heap.size
    · subst hb
      rw [if_pos rfl] at hk
      obtain ⟨ars, T, fz, rfl, h1, h2⟩ := hsz k hk
      exact ⟨⟨σ.length, by rw [hat, if_pos rfl]⟩, ars, T, fz, pushB_new w _, h1, h2⟩
    · rw [if_neg hb] at hk
      obtain ⟨⟨o, ho⟩, h2⟩ := hst.wd.szs b k hk
      exact ⟨⟨o, hι.le o b ho⟩, h2⟩
  all_goals
    have key : ∀ p v x, At (ι.more σ.length w.heap.size n) (pushB w ob) us ρ (σ ++ [O]) p v x → At ι (pushB w ob) us ρ σ p v x ∨ ownB v x = none := by
      intro p v x ha
      cases p with
      | s i => exact .inl ha
      | c o i =>
        obtain ⟨b, ws, T', fz', cs', h1, h2, h3, h4, h5⟩ := ha
        rw [hat] at h1
        by_cases ho : o = σ.length
        · subst ho
          simp at h3
          exact .inr (hno cs' h3 x (List.mem_of_getElem? h5) v)
        · rw [if_neg ho] at h1
          have hlt : o < σ.length := by
            obtain ⟨O', hO', _⟩ := h.wd.obj o b h1
            exact (List.getElem?_eq_some_iff.1 hO').1
          rw [List.getElem?_append_left hlt] at h3
          exact .inl ⟨b, ws, T', fz', cs', h1, h2, h3, h4, h5⟩
  · intro p v x b ha hb
    rcases key p v x ha with ha | hn
    · exact hst.own p v x b ha hb
    · rw [hn] at hb; cases hb
  · intro p v x ha
    rcases key p v x ha with ha | hn
    · exact hst.gr p v x ha
    · exact .of_none hn
theorem St.newObj (h : St M ι X κ w us ρ σ) (hι0 : ι σ.length = none) (ars : Array Value) (T : TypeId) (fz : Nat × Nat) (cs : List V) (hr : Reps M ι (ars.toList.take cs.length) cs)
    (hfz : ∀ i, i < ars.size → frozenAt fz i = false) (hone : ∀ c ∈ cs, c.one = true) (hno : ∀ c ∈ cs, ∀ v, ownB v c = none) :
    ∃ M' ι', Ext X M ι w M' ι' (pushB w (.cells ars T fz)) ∧ ι' σ.length = some w.heap.size ∧ St M' ι' X κ (pushB w (.cells ars T fz)) us ρ (σ ++ [.cells cs]) ∧ (∀ o, o ≠ σ.length → ι' o = ι o) ∧ ι'.sz w.heap.size = some ars.size := by
  have hl : cs.length ≤ ars.size := by have := hr.1; simp at this; omega
  exact h.newO hι0 (.cells ars T fz) (.cells cs) (fun M' ι' hM hι h0 => ⟨ars, T, fz, pushB_new w _, hr.mono hM hι, fun i hi => hfz i (by omega), h0, hone⟩) (fun cs' he => by cases he; exact hno) (n := some ars.size) (fun k hk => by cases hk; exact ⟨ars, T, fz, rfl, rfl, hfz⟩)
theorem Wd.none_of_ge (h : Wd M ι X κ w σ) {o : Nat} (ho : σ.length ≤ o) : ι o = none := by
  cases hi : ι o with
  | none => rfl
  | some b =>
    obtain ⟨O, hO, _⟩ := h.obj o b hi
    have := (List.getElem?_eq_some_iff.1 hO).1
    omega
end
end Go.Ev
set_option linter.unusedSimpArgs false
set_option linter.unusedVariables false
namespace Go.Ev
open Go
theorem set_same {α : Type} {l : List α} {i : Nat} {u : α} (h : l[i]? = some u) : l.set i u = l := by
  obtain ⟨hi, rfl⟩ := List.getElem?_eq_some_iff.1 h
  exact List.set_getElem_self hi
theorem putAt_length : ∀ (cs : List V) (off : Nat) (ds : List V), (putAt cs off ds).length = cs.length
  | cs, _, [] => by unfold putAt; rfl
  | [], _, _ :: _ => by simp [putAt]
  | _ :: cs, 0, x :: xs => by simp [putAt, putAt_length cs 0 xs]
  | c :: cs, n + 1, x :: xs => by simp [putAt, putAt_length cs n (x :: xs)]
theorem putAt_get : ∀ (cs : List V) (off : Nat) (ds : List V) (j : Nat), off + ds.length ≤ cs.length →
    (putAt cs off ds)[j]? = if off ≤ j ∧ j < off + ds.length then ds[j - off]? else cs[j]?
  | cs, off, [], j, _ => by
    rw [if_neg (by simp only [List.length_nil]; omega)]
    unfold putAt; rfl
  | [], off, x :: xs, j, h => by simp at h
  | c :: cs, 0, x :: xs, j, h => by
    simp only [putAt]
    cases j with
    | zero => simp
    | succ j =>
      simp only [List.getElem?_cons_succ]
      rw [putAt_get cs 0 xs j (by simp at h ⊢; exact h)]
      simp only [Nat.zero_le, true_and, Nat.zero_add, List.length_cons, Nat.sub_zero, Nat.add_lt_add_iff_right, List.getElem?_cons_succ]
  | c :: cs, n + 1, x :: xs, j, h => by
    simp only [putAt]
    cases j with
    | zero => simp
    | succ j =>
      simp only [List.getElem?_cons_succ]
      rw [putAt_get cs n (x :: xs) j (by simp at h ⊢; omega)]
      simp only [Nat.add_le_add_iff_right, Nat.add_sub_add_right]
      by_cases hc : n ≤ j ∧ j < n + (x :: xs).length
      · rw [if_pos hc, if_pos (by omega)]
      · rw [if_neg hc, if_neg (by omega)]
section
variable {M : Mem} {ι : Plc} {X : Nat → Prop} {κ : Own} {w : World} {us : List Value} {ρ : List V} {σ : Objs}
theorem live_set {o q : Nat} {A B : O} (ho : σ[o]? = some A) (h : (σ.set o B)[q]? ≠ some .gone) (hO : A ≠ .gone := by simp) : σ[q]? ≠ some .gone := by
  by_cases hq : o = q
  · subst hq; rw [ho]; simpa using hO
  · rwa [List.getElem?_set_ne hq] at h
theorem Ext.setRow {b : Nat} (hX : ¬ X b) (ws : Array Value) (T : TypeId) (fz : Nat × Nat) : Ext X M ι w M ι (setRow w b ws T fz) :=
  ⟨.refl _, .refl _, fun _ _ _ => rfl, by rw [setRow_size]; exact Nat.le_refl _, fun c hc => by
    have hbc : b ≠ c := fun e => by subst e; exact hX hc
    rw [setRow_heap, if_neg hbc], rfl, rfl, rfl⟩
theorem ObjRep.setRow {b c : Nat} {O : O} {ws : Array Value} {T : TypeId} {fz : Nat × Nat} (h : ObjRep M ι w c O) (hbc : b ≠ c) : ObjRep M ι (setRow w b ws T fz) c O := by
  cases O with
  | cells cs =>
    obtain ⟨ars, T', fz', h1, h2⟩ := h
    exact ⟨ars, T', fz', by rw [setRow_heap, if_neg hbc]; exact h1, h2⟩
  | mp es =>
    obtain ⟨en, k, h1, h2⟩ := h
    exact ⟨en, k, by rw [setRow_heap, if_neg hbc]; exact h1, h2⟩
  | si r pos =>
    obtain ⟨s, h1, h2⟩ := h
    exact ⟨s, by rw [setRow_heap, if_neg hbc]; exact h1, h2⟩
  | gone => trivial
theorem Wd.szs_row (h : Wd M ι X κ w σ) {b : Nat} {ws ws' : Array Value} {T : TypeId} {fz : Nat × Nat} (hb : w.heap[b]? = some (.cells ws T fz)) (hl : ws'.size = ws.size) (c n : Nat) (hz : ι.sz c = some n) :
    (∃ o, ι o = some c) ∧ ∃ ars T' fz', (Ev.setRow w b ws' T fz).heap[c]? = some (.cells ars T' fz') ∧ ars.size = n ∧ ∀ i, i < n → frozenAt fz' i = false := by
  obtain ⟨h1, ars, T', fz', h2, h3, h4⟩ := h.szs c n hz
  refine ⟨h1, ?_⟩
  by_cases hbc : b = c
  · subst hbc
    rw [hb] at h2; cases h2
    exact ⟨ws', T, fz, by rw [setRow_heap, if_pos rfl, if_pos (Array.getElem?_eq_some_iff.1 hb).1], by rw [hl]; exact h3, h4⟩
  · exact ⟨ars, T', fz', by rw [setRow_heap, if_neg hbc]; exact h2, h3, h4⟩
theorem GrOK.setRow {v : Value} {x : V} {b : Nat} {ws : Array Value} {T : TypeId} {fz : Nat × Nat} (h : GrOK M w v x) (hb : ∀ c, ownB v x = some c → b ≠ c) : GrOK M (setRow w b ws T fz) v x := by
  refine ⟨fun xs sz hx a len cap hv => ?_⟩
  obtain ⟨h1, h2, ars, T', fz', h3, h4⟩ := h.ok xs sz hx a len cap hv
  exact ⟨h1, h2, ars, T', fz', by rw [setRow_heap, if_neg (hb a.block (by rw [hx, hv]; rfl))]; exact h3, h4⟩
theorem St.setObj (h : St M ι X κ w us ρ σ) {o b off : Nat} {cs : List V} (hi : ι o = some b) (ho : σ[o]? = some (.cells cs)) {ws : Array Value} {T : TypeId} {fz : Nat × Nat}
    (hb : w.heap[b]? = some (.cells ws T fz)) {vs : List Value} {ds : List V} (hr : Reps M ι vs ds) (hl : off + ds.length ≤ cs.length) (hone : ∀ c ∈ ds, c.one = true) (hno : ∀ c ∈ ds, ∀ v, ownB v c = none) :
    St M ι X κ (setRow w b (layA ws off vs) T fz) us ρ (σ.set o (.cells (putAt cs off ds))) ∧ Ext X M ι w M ι (setRow w b (layA ws off vs) T fz) := by
  have hX := h.wd.xobj o b hi
  have hbl := h.wd.olt o b hi
  have hol : o < σ.length := (List.getElem?_eq_some_iff.1 ho).1
  obtain ⟨O, hO, hor⟩ := h.wd.obj o b hi
  rw [ho] at hO; cases hO
  obtain ⟨ars, T', fz', h1, h2, h3, h4, h5⟩ := hor
  rw [hb] at h1; cases h1
  have hsz : cs.length ≤ ws.size := by have := h2.1; simp at this; omega
  have hvl : vs.length = ds.length := hr.1
  have hget : ∀ j, (layA ws off vs)[j]? = if off ≤ j ∧ j < off + vs.length then vs[j - off]? else ws[j]? := fun j => layA_get vs ws off j (by omega)
  have hget' : ∀ j, (putAt cs off ds)[j]? = if off ≤ j ∧ j < off + ds.length then ds[j - off]? else cs[j]? := fun j => putAt_get cs off ds j hl
  have hreps : Reps M ι ((layA ws off vs).toList.take (putAt cs off ds).length) (putAt cs off ds) := by
    refine ⟨by simp [layA_size, putAt_length]; omega, fun i u c hu hc => ?_⟩
    rw [List.getElem?_take] at hu
    split at hu
    · rename_i hlt
      rw [Array.getElem?_toList, hget i] at hu
      rw [hget' i, ← hvl] at hc
      by_cases hin : off ≤ i ∧ i < off + vs.length
      · rw [if_pos hin] at hu hc; exact hr.2 _ u c hu hc
      · rw [if_neg hin] at hu hc
        refine h2.2 i u c ?_ hc
        rw [List.getElem?_take, if_pos (by rw [putAt_length] at hlt; exact hlt)]; simpa using hu
    · cases hu
  have key : ∀ p v x, At ι (Ev.setRow w b (layA ws off vs) T fz) us ρ (σ.set o (.cells (putAt cs off ds))) p v x → At ι w us ρ σ p v x ∨ ownB v x = none := by
    intro p v x ha
    cases p with
    | s i => exact .inl ha
    | c o' i =>
      obtain ⟨b', ws', T', fz', cs', g1, g2, g3, g4, g5⟩ := ha
      by_cases hoo : o = o'
      · subst hoo
        rw [hi] at g1; cases g1
        rw [setRow_heap, if_pos rfl, if_pos hbl] at g2; cases g2
        rw [List.getElem?_set_self hol] at g3; cases g3
        rw [hget i] at g4; rw [hget' i, ← hvl] at g5
        by_cases hin : off ≤ i ∧ i < off + vs.length
        · rw [if_pos hin] at g5; exact .inr (hno x (List.mem_of_getElem? g5) v)
        · rw [if_neg hin] at g4 g5; exact .inl ⟨b, ws, _, _, cs, hi, hb, ho, g4, g5⟩
      · rw [List.getElem?_set_ne hoo] at g3
        have hbb : b ≠ b' := fun e => hoo (h.wd.inj o o' b hi (e ▸ g1) (by rw [ho]; simp) (by rw [g3]; simp))
        rw [setRow_heap, if_neg hbb] at g2
        exact .inl ⟨b', ws', T', fz', cs', g1, g2, g3, g4, g5⟩
  refine ⟨⟨⟨fun c i u hm => ?_, fun o' c hi' => ?_, fun o' c hi' => by rw [setRow_size]; exact h.wd.olt o' c hi', fun q q' c g1 g2 g3 g4 => h.wd.inj q q' c g1 g2 (live_set ho g3) (live_set ho g4), fun c hc => by rw [setRow_size]; exact h.wd.xlt c hc, h.wd.xobj,
    fun c p hp => by rw [setRow_size]; exact h.wd.kap c p hp, fun c n hz => h.wd.szs_row hb (layA_size _ _ _) c n hz⟩, h.rep, fun p v x c ha hc => ?_, fun p v x ha => ?_⟩, Ext.setRow hX _ _ _⟩
  · have hcb : b ≠ c := fun e => by subst e; rw [h4 i] at hm; cases hm
    have := h.wd.mem c i u hm
    simp only [World.cell?, setRow_heap, if_neg hcb]
    simpa [World.cell?] using this
  · by_cases hoo : o = o'
    · subst hoo
      rw [hi] at hi'; cases hi'
      refine ⟨_, List.getElem?_set_self hol, layA ws off vs, T, fz, by rw [setRow_heap, if_pos rfl, if_pos hbl], hreps, fun i hi => h3 i (by rw [putAt_length] at hi; exact hi), h4, fun c hc => ?_⟩
      obtain ⟨i, hi⟩ := List.mem_iff_getElem?.1 hc
      rw [hget' i] at hi
      split at hi
      · exact hone c (List.mem_of_getElem? hi)
      · exact h5 c (List.mem_of_getElem? hi)
    · obtain ⟨O', hO', hr'⟩ := h.wd.obj o' c hi'
      refine ⟨O', by rw [List.getElem?_set_ne hoo]; exact hO', ?_⟩
      by_cases hg : O' = .gone
      · subst hg; trivial
      · have hbb : b ≠ c := fun e => hoo (h.wd.inj o o' b hi (e ▸ hi') (by rw [ho]; simp) (by rw [hO']; simpa using hg))
        exact hr'.setRow hbb
  · rcases key p v x ha with ha | hn
    · exact h.own p v x c ha hc
    · rw [hn] at hc; cases hc
  · rcases key p v x ha with ha | hn
    · exact (h.gr p v x ha).setRow fun c hc => fun e => by
        subst e
        exact (h.wd.kap _ _ (h.own p v x _ ha hc)).2.1 o hi
    · exact .of_none hn
theorem St.weakCell (h : St M ι X κ w us ρ σ) {o i : Nat} {cs : List V} {x y : V} (ho : σ[o]? = some (.cells cs)) (hx : cs[i]? = some x) (hx1 : y.one = true) (hxy : ∀ v, Rep M ι v x → Rep M ι v y) (hyo : ∀ v, ownB v y = none) :
    St M ι X κ w us ρ (σ.set o (.cells (cs.set i y))) := by
  have hol : o < σ.length := (List.getElem?_eq_some_iff.1 ho).1
  have hil : i < cs.length := (List.getElem?_eq_some_iff.1 hx).1
  have key : ∀ p v z, At ι w us ρ (σ.set o (.cells (cs.set i y))) p v z → At ι w us ρ σ p v z ∨ ownB v z = none := by
    intro p v z ha
    cases p with
    | s j => exact .inl ha
    | c o' j =>
      obtain ⟨b, ws, T, fz, cs', g1, g2, g3, g4, g5⟩ := ha
      by_cases hoo : o = o'
      · subst hoo
        rw [List.getElem?_set_self hol] at g3; cases g3
        by_cases hij : i = j
        · subst hij
          rw [List.getElem?_set_self hil] at g5; cases g5
          exact .inr (hyo _)
        · rw [List.getElem?_set_ne hij] at g5
          exact .inl ⟨b, ws, T, fz, cs, g1, g2, ho, g4, g5⟩
      · rw [List.getElem?_set_ne hoo] at g3
        exact .inl ⟨b, ws, T, fz, cs', g1, g2, g3, g4, g5⟩
  refine ⟨⟨h.wd.mem, fun o' b hi => ?_, h.wd.olt, fun q q' c g1 g2 g3 g4 => h.wd.inj q q' c g1 g2 (live_set ho g3) (live_set ho g4), h.wd.xlt, h.wd.xobj, h.wd.kap, h.wd.szs⟩, h.rep, fun p v z b ha hb => ?_, fun p v z ha => ?_⟩
  · obtain ⟨O, hO, hr⟩ := h.wd.obj o' b hi
    by_cases hoo : o = o'
    · subst hoo
      rw [ho] at hO; cases hO
      obtain ⟨ws, T, fz, h1, h2, h3, h4, h5⟩ := hr
      refine ⟨_, List.getElem?_set_self hol, ws, T, fz, h1, ?_, fun j hj => h3 j (by simpa using hj), h4, fun c hc => ?_⟩
      · rw [List.length_set]
        obtain ⟨u, hu, hru⟩ := h2.get hx
        have := h2.set (hxy _ hru) i
        rwa [set_same hu] at this
      · rcases List.mem_or_eq_of_mem_set hc with hc | rfl
        · exact h5 c hc
        · exact hx1
    · exact ⟨O, by rw [List.getElem?_set_ne hoo]; exact hO, hr⟩
  · rcases key p v z ha with ha | hn
    · exact h.own p v z b ha hb
    · rw [hn] at hb; cases hb
  · rcases key p v z ha with ha | hn
    · exact h.gr p v z ha
    · exact .of_none hn
theorem St.dropCell (h : St M ι X κ w us ρ σ) {o i : Nat} {cs : List V} {x : V} (ho : σ[o]? = some (.cells cs)) (hx : cs[i]? = some x) (hx1 : x.ng.one = true) :
    St M ι X κ w us ρ (σ.set o (.cells (cs.set i x.ng))) := h.weakCell ho hx hx1 (fun _ hr => hr.ng) (fun _ => ownB_nogr _ _)
end
end Go.Ev
set_option linter.unusedSimpArgs false
set_option linter.unusedVariables false
namespace Go.Ev
open Go
section
variable {M : Mem} {ι : Plc} {X : Nat → Prop} {κ : Own} {w : World} {us : List Value} {ρ : List V} {σ : Objs}
structure Free (M : Mem) (ι : Plc) (X : Nat → Prop) (κ : Own) (w : World) (b : Nat) : Prop where
  k : κ b = none
  x : ¬ X b
  i : ∀ o, ι o ≠ some b
  lt : b < w.heap.size
theorem St.release (h : St M ι X κ w us ρ σ) (b : Nat) (hn : ∀ p v x, At ι w us ρ σ p v x → ownB v x ≠ some b) : St M ι X (fun c => if c = b then none else κ c) w us ρ σ :=
  ⟨⟨h.wd.mem, h.wd.obj, h.wd.olt, h.wd.inj, h.wd.xlt, h.wd.xobj, fun c p hp => by
    by_cases hc : c = b
    · simp only [hc, if_true] at hp; cases hp
    · simp only [hc, if_false] at hp; exact h.wd.kap c p hp, h.wd.szs⟩, h.rep, fun p v x c ha hc => by
    by_cases hcb : c = b
    · subst hcb; exact absurd hc (hn p v x ha)
    · simp only [hcb, if_false]; exact h.own p v x c ha hc, h.gr⟩
theorem St.takeSlot (h : St M ι X κ w us ρ σ) {n b : Nat} {v : Value} {x : V} (hv : us[n]? = some v) (hx : ρ[n]? = some x) (hb : ownB v x = some b) :
    ∃ κ', St M ι X κ' w us (ρ.set n x.ng) σ ∧ Free M ι X κ' w b ∧ GrOK M w v x := by
  have hat : At ι w us ρ σ (.s n) v x := ⟨hv, hx⟩
  have hk := h.own _ v x b hat hb
  have hd := h.dropSlot n
  have hg : ρ.getD n .undef = x := by simp [List.getD, hx]
  rw [hg] at hd
  have hnlt : n < ρ.length := (List.getElem?_eq_some_iff.1 hx).1
  refine ⟨_, hd.release b fun p u y ha hu => ?_, ⟨by simp, (h.wd.kap b _ hk).1, (h.wd.kap b _ hk).2.1, (h.wd.kap b _ hk).2.2⟩, h.gr _ _ _ hat⟩
  have := hd.own p u y b ha hu
  rw [hk] at this
  cases this
  obtain ⟨h1, h2⟩ := ha
  rw [List.getElem?_set_self hnlt] at h2
  cases h2
  rw [ownB_nogr] at hu; cases hu
theorem St.takeCell (h : St M ι X κ w us ρ σ) {o i b c : Nat} {cs : List V} {v : Value} {x : V} (hi : ι o = some c) {ws : Array Value} {T : TypeId} {fz : Nat × Nat} (hw : w.heap[c]? = some (.cells ws T fz))
    (ho : σ[o]? = some (.cells cs)) (hv : ws[i]? = some v) (hx : cs[i]? = some x) (hb : ownB v x = some b) :
    ∃ κ', St M ι X κ' w us ρ (σ.set o (.cells (cs.set i x.ng))) ∧ Free M ι X κ' w b ∧ GrOK M w v x := by
  have hat : At ι w us ρ σ (.c o i) v x := ⟨c, ws, T, fz, cs, hi, hw, ho, hv, hx⟩
  have hk := h.own _ v x b hat hb
  have hx1 : x.ng.one = true := by
    rw [V.nogr_one]
    cases x <;> first | rfl | simp [ownB] at hb
  have hd := h.dropCell ho hx hx1
  have hol : o < σ.length := (List.getElem?_eq_some_iff.1 ho).1
  have hil : i < cs.length := (List.getElem?_eq_some_iff.1 hx).1
  refine ⟨_, hd.release b fun p u y ha hu => ?_, ⟨by simp, (h.wd.kap b _ hk).1, (h.wd.kap b _ hk).2.1, (h.wd.kap b _ hk).2.2⟩, h.gr _ _ _ hat⟩
  have := hd.own p u y b ha hu
  rw [hk] at this
  cases this
  obtain ⟨b', ws', T', fz', cs', g1, g2, g3, g4, g5⟩ := ha
  rw [List.getElem?_set_self hol] at g3; cases g3
  rw [List.getElem?_set_self hil] at g5; cases g5
  rw [ownB_nogr] at hu; cases hu
theorem St.giveSlot (h : St M ι X κ w us ρ σ) {v : Value} {x : V} (hr : Rep M ι v x) {b : Nat} (hb : ownB v x = some b) (hf : Free M ι X κ w b) (hg : GrOK M w v x) (d : Nat) :
    ∃ κ', St M ι X κ' w (us.set d v) (ρ.set d x) σ := h.setOwn hr hb hf.k hf.x hf.i hf.lt hg d
theorem St.giveCell (h : St M ι X κ w us ρ σ) {o i c : Nat} {cs : List V} {v : Value} {x : V} (hi : ι o = some c) {ws : Array Value} {T : TypeId} {fz : Nat × Nat} (hw : w.heap[c]? = some (.cells ws T fz))
    (ho : σ[o]? = some (.cells cs)) (hv : ws[i]? = some v) (hx : i < cs.length) (hr : Rep M ι v x) (hx1 : x.one = true) {b : Nat} (hb : ownB v x = some b) (hf : Free M ι X κ w b) (hg : GrOK M w v x) :
    ∃ κ', St M ι X κ' w us ρ (σ.set o (.cells (cs.set i x))) := by
  have hol : o < σ.length := (List.getElem?_eq_some_iff.1 ho).1
  have key : ∀ p u y, At ι w us ρ (σ.set o (.cells (cs.set i x))) p u y → (p ≠ .c o i ∧ At ι w us ρ σ p u y) ∨ (p = .c o i ∧ u = v ∧ y = x) := by
    intro p u y ha
    cases p with
    | s j => exact .inl ⟨by simp, ha⟩
    | c o' j =>
      obtain ⟨b', ws', T', fz', cs', g1, g2, g3, g4, g5⟩ := ha
      by_cases hoo : o = o'
      · subst hoo
        rw [hi] at g1; cases g1
        rw [hw] at g2; cases g2
        rw [List.getElem?_set_self hol] at g3; cases g3
        by_cases hij : i = j
        · subst hij
          rw [List.getElem?_set_self hx] at g5; cases g5
          rw [hv] at g4; cases g4
          exact .inr ⟨rfl, rfl, rfl⟩
        · rw [List.getElem?_set_ne hij] at g5
          exact .inl ⟨by simpa using fun e => hij e.symm, ⟨_, _, _, _, cs, hi, hw, ho, g4, g5⟩⟩
      · rw [List.getElem?_set_ne hoo] at g3
        exact .inl ⟨by simpa using fun e => absurd e.symm hoo, ⟨b', ws', T', fz', cs', g1, g2, g3, g4, g5⟩⟩
  refine ⟨fun b' => if b' = b then some (.c o i) else κ b', ⟨h.wd.mem, fun o' c' hi' => ?_, h.wd.olt, fun q q' c g1 g2 g3 g4 => h.wd.inj q q' c g1 g2 (live_set ho g3) (live_set ho g4), h.wd.xlt, h.wd.xobj, ?_, h.wd.szs⟩, h.rep, ?_, ?_⟩
  · obtain ⟨O, hO, hor⟩ := h.wd.obj o' c' hi'
    by_cases hoo : o = o'
    · subst hoo
      rw [hi] at hi'; cases hi'
      rw [ho] at hO; cases hO
      obtain ⟨ws', T', fz', h1, h2, h3, h4, h5⟩ := hor
      rw [hw] at h1; cases h1
      refine ⟨_, List.getElem?_set_self hol, ws, T, fz, hw, ?_, fun j hj => h3 j (by simpa using hj), h4, fun c hc => ?_⟩
      · rw [List.length_set]
        have := h2.set hr i
        rwa [set_same (show (ws.toList.take cs.length)[i]? = some v by rw [List.getElem?_take, if_pos hx]; simpa using hv)] at this
      · rcases List.mem_or_eq_of_mem_set hc with hc | rfl
        · exact h5 c hc
        · exact hx1
    · exact ⟨O, by rw [List.getElem?_set_ne hoo]; exact hO, hor⟩
  · intro b' p hp
    by_cases hbb : b' = b
    · subst hbb; exact ⟨hf.x, hf.i, hf.lt⟩
    · simp only [hbb, if_false] at hp; exact h.wd.kap b' p hp
  · intro p u y b' ha hb'
    rcases key p u y ha with ⟨hp, ha⟩ | ⟨rfl, rfl, rfl⟩
    · have hk' := h.own p u y b' ha hb'
      have hbb : b' ≠ b := fun e => by subst e; rw [hf.k] at hk'; cases hk'
      simp only [hbb, if_false]; exact hk'
    · rw [hb] at hb'; cases hb'; simp
  · intro p u y ha
    rcases key p u y ha with ⟨hp, ha⟩ | ⟨rfl, rfl, rfl⟩
    · exact h.gr p u y ha
    · exact hg
def fillM (M : Mem) (b s : Nat) (vs : List Value) : Mem := fun c i => if c = b ∧ s ≤ i ∧ i < s + vs.length then vs[i - s]? else M c i
theorem fillM_le {b s : Nat} {vs : List Value} (hn : ∀ i, s ≤ i → M b i = none) : MemLe M (fillM M b s vs) :=
  ⟨fun c i u hm => by
    unfold fillM
    by_cases hc : c = b ∧ s ≤ i ∧ i < s + vs.length
    · obtain ⟨rfl, h1, _⟩ := hc; rw [hn i h1] at hm; cases hm
    · rw [if_neg hc]; exact hm⟩
theorem St.fill (h : St M ι X κ w us ρ σ) {b s : Nat} (hf : Free M ι X κ w b) {ws : Array Value} {T : TypeId} {fz : Nat × Nat} (hb : w.heap[b]? = some (.cells ws T fz)) {vs : List Value}
    (hn : ∀ i, s ≤ i → M b i = none) (hl : s + vs.length ≤ ws.size) :
    St (fillM M b s vs) ι X κ (setRow w b (layA ws s vs) T fz) us ρ σ ∧ Ext X M ι w (fillM M b s vs) ι (setRow w b (layA ws s vs) T fz) := by
  have hle := fillM_le (M := M) (vs := vs) hn
  have hget : ∀ j, (layA ws s vs)[j]? = if s ≤ j ∧ j < s + vs.length then vs[j - s]? else ws[j]? := fun j => layA_get vs ws s j hl
  have hother : ∀ c i, c ≠ b → fillM M b s vs c i = M c i := fun c i hc => by unfold fillM; rw [if_neg (fun e => hc e.1)]
  have hatb : ∀ p v x, At ι (setRow w b (layA ws s vs) T fz) us ρ σ p v x → At ι w us ρ σ p v x := by
    intro p v x ha
    cases p with
    | s i => exact ha
    | c o i =>
      obtain ⟨b', ws', T', fz', cs', g1, g2, g3⟩ := ha
      have hbb : b ≠ b' := fun e => by subst e; exact hf.i o g1
      rw [setRow_heap, if_neg hbb] at g2
      exact ⟨b', ws', T', fz', cs', g1, g2, g3⟩
  have hownb : ∀ p v x c, At ι w us ρ σ p v x → ownB v x = some c → b ≠ c := fun p v x c ha hc e => by
    subst e; have := h.own p v x _ ha hc; rw [hf.k] at this; cases this
  refine ⟨⟨⟨fun c i u hm => ?_, fun o c hi => ?_, fun o c hi => by rw [setRow_size]; exact h.wd.olt o c hi, h.wd.inj, fun c hc => by rw [setRow_size]; exact h.wd.xlt c hc, h.wd.xobj,
    fun c p hp => by rw [setRow_size]; exact h.wd.kap c p hp, fun c n hz => h.wd.szs_row hb (layA_size _ _ _) c n hz⟩, h.rep.mono hle (.refl _), fun p v x c ha hc => h.own p v x c (hatb p v x ha) hc, fun p v x ha => ?_⟩,
    ⟨hle, .refl _, fun c i hc => hother c i (fun e => hf.x (e ▸ hc)), by rw [setRow_size]; exact Nat.le_refl _, fun c hc => by
      have hbc : b ≠ c := fun e => by subst e; exact hf.x hc
      rw [setRow_heap, if_neg hbc], rfl, rfl, rfl⟩⟩
  · by_cases hcb : c = b
    · subst hcb
      rw [cell_row (by rw [setRow_heap, if_pos rfl, if_pos hf.lt] : (setRow w c (layA ws s vs) T fz).heap[c]? = some (.cells (layA ws s vs) T fz)), hget i]
      unfold fillM at hm
      by_cases hin : s ≤ i ∧ i < s + vs.length
      · rw [if_pos ⟨rfl, hin⟩] at hm; rw [if_pos hin]; exact hm
      · rw [if_neg (fun e => hin e.2)] at hm; rw [if_neg hin]
        have := h.wd.mem c i u hm
        rwa [cell_row hb] at this
    · rw [hother c i hcb] at hm
      have := h.wd.mem c i u hm
      simp only [World.cell?, setRow_heap, if_neg (Ne.symm hcb)]
      simpa [World.cell?] using this
  · obtain ⟨O, hO, hor⟩ := h.wd.obj o c hi
    have hcb : c ≠ b := fun e => hf.i o (e ▸ hi)
    refine ⟨O, hO, ?_⟩
    cases O with
    | cells cs =>
      obtain ⟨ars, T', fz', h1, h2, h3, h4, h5⟩ := hor
      exact ⟨ars, T', fz', by rw [setRow_heap, if_neg (Ne.symm hcb)]; exact h1, h2.mono hle (.refl _), h3, fun i => by rw [hother c i hcb]; exact h4 i, h5⟩
    | mp es =>
      obtain ⟨en, k, h1, h2⟩ := hor
      exact ⟨en, k, by rw [setRow_heap, if_neg (Ne.symm hcb)]; exact h1, h2.1, fun i e p he hp => ⟨(h2.2 i e p he hp).1.mono hle (.refl _), (h2.2 i e p he hp).2.mono hle (.refl _)⟩⟩
    | si r pos =>
      obtain ⟨s, h1, h2⟩ := hor
      exact ⟨s, by rw [setRow_heap, if_neg (Ne.symm hcb)]; exact h1, h2⟩
    | gone => trivial
  · have ha' := hatb p v x ha
    refine ⟨fun xs sz hx a len cap hv => ?_⟩
    have hob : ownB v x = some a.block := by rw [hx, hv]; rfl
    have hne := hownb p v x _ ha' hob
    obtain ⟨h1, h2, ars, T', fz', h3, h4⟩ := (h.gr p v x ha').ok xs sz hx a len cap hv
    exact ⟨h1, fun i hi => by rw [hother _ i (Ne.symm hne)]; exact h2 i hi, ars, T', fz', by rw [setRow_heap, if_neg hne]; exact h3, h4⟩
end
end Go.Ev
set_option linter.unusedSimpArgs false
set_option linter.unusedVariables false
namespace Go.Ev
open Go
def chkCell : Value → V → Bool
  | .bool a, .bool b => a == b
  | .int k a, .int j b => decide (k = j) && decide (a = b)
  | .string s, .str l => decide (s.data.toList = l)
  | .pointer none, .nilp => true
  | .slice none n m, .nils => n == 0 && m == 0
  | .map none, .nilm => true
  | .nilIface, .nili => true
  | .nilFunc, .nilf => true
  | _, _ => false
def chkCells : List Value → List V → Bool
  | [], [] => true
  | v :: vs, x :: xs => chkCell v x && chkCells vs xs
  | _, _ => false
def chkConst : Value → V → Bool
  | .agg vs, .agg cs => chkCells vs.toList cs
  | .tuple vs, .undef => vs.toList.isEmpty
  | v, x => chkCell v x
def chkArg : Operand → Arg → Bool
  | .tmp t, .t n => t == n
  | .const v, .c x => chkConst v x
  | .global g, .g n => g == n
  | .func f, .f g => f == g
  | _, _ => false
def chkArgs : List Operand → List Arg → Bool
  | [], [] => true
  | x :: xs, y :: ys => chkArg x y && chkArgs xs ys
  | _, _ => false
def szOf (P : Program) (t : TypeId) : Option Nat := (P.info? t).map (·.size)
def isAg : TypeDesc → Bool
  | .struct _ | .array _ _ => true
  | _ => false
def agOf (P : Program) (t : TypeId) : Option Bool := (P.underlying t).map isAg
def chkTy (P : Program) (t : TypeId) (ag : Bool) (sz : Nat) : Bool := agOf P t == some ag && szOf P t == some sz && (ag || sz == 1)
section
variable {M : Mem} {ι : Plc}
theorem chkCell_rep {v : Value} {x : V} (h : chkCell v x = true) : Rep M ι v x ∧ x.one = true ∧ x.ng = x ∧ v.oneCell = true := by
  unfold chkCell at h
  split at h
  · simp at h; subst h; exact ⟨.bool _, rfl, rfl, rfl⟩
  · simp at h; obtain ⟨rfl, rfl⟩ := h; exact ⟨.int _ _, rfl, rfl, rfl⟩
  · simp at h; exact ⟨.str _ _ h, rfl, rfl, rfl⟩
  · exact ⟨.nilp, rfl, rfl, rfl⟩
  · simp at h; obtain ⟨rfl, rfl⟩ := h; exact ⟨.nils, rfl, rfl, rfl⟩
  · exact ⟨.nilm, rfl, rfl, rfl⟩
  · exact ⟨.nili, rfl, rfl, rfl⟩
  · exact ⟨.nilf, rfl, rfl, rfl⟩
  · cases h
theorem chkCells_reps : ∀ {vs : List Value} {xs : List V}, chkCells vs xs = true → Reps M ι vs xs ∧ (∀ x ∈ xs, x.one = true ∧ x.ng = x) ∧ ∀ v ∈ vs, v.oneCell = true
  | [], [], _ => ⟨.nil, by simp, by simp⟩
  | v :: vs, x :: xs, h => by
    simp only [chkCells, Bool.and_eq_true] at h
    obtain ⟨h1, h2, h3, h4⟩ := chkCell_rep (M := M) (ι := ι) h.1
    obtain ⟨h5, h6, h7⟩ := chkCells_reps h.2
    exact ⟨Reps.cons h1 h5, fun y hy => by
      rcases List.mem_cons.1 hy with rfl | hy
      · exact ⟨h2, h3⟩
      · exact h6 y hy, fun y hy => by
      rcases List.mem_cons.1 hy with rfl | hy
      · exact h4
      · exact h7 y hy⟩
  | [], _ :: _, h => by simp [chkCells] at h
  | _ :: _, [], h => by simp [chkCells] at h
theorem chkConst_rep {v : Value} {x : V} (h : chkConst v x = true) : Rep M ι v x ∧ x.ng = x := by
  unfold chkConst at h
  split at h
  · exact ⟨Rep.agg_iff.2 (chkCells_reps h).1, rfl⟩
  · rename_i vs
    have : vs = #[] := by simpa using h
    subst this
    exact ⟨.undef, rfl⟩
  · have := chkCell_rep (M := M) (ι := ι) h; exact ⟨this.1, this.2.2.1⟩
structure GOK (G : GV) (M : Mem) (ι : Plc) : Prop where
  ok : ∀ g, Rep M ι (.pointer (some ⟨g, 0, none⟩)) (G g)
  ex : ∀ p ∈ G.ex, M p.1 p.2.1 = some p.2.2
theorem GOK.mono {G : GV} {M M' : Mem} {ι ι' : Plc} (h : GOK G M ι) (hm : MemLe M M') (hi : PlcLe ι ι') : GOK G M' ι' := ⟨fun g => (h.ok g).mono hm hi, fun p hp => hm.le _ _ _ (h.ex p hp)⟩
theorem reps_getD {us : List Value} {ρ : List V} (h : Reps M ι us ρ) (n : Nat) : Rep M ι (us.getD n undef) (ρ.getD n .undef) := by
  by_cases hn : n < ρ.length
  · have hu : n < us.length := by rw [h.1]; exact hn
    simp only [List.getD, List.getElem?_eq_getElem hn, List.getElem?_eq_getElem hu, Option.getD_some]
    exact h.2 n _ _ (List.getElem?_eq_getElem hu) (List.getElem?_eq_getElem hn)
  · have hu : ¬ n < us.length := by rw [h.1]; exact hn
    simp only [List.getD, List.getElem?_eq_none (Nat.not_lt.1 hn), List.getElem?_eq_none (Nat.not_lt.1 hu), Option.getD_none]
    exact .undef
theorem chkArg_rep {G : GV} {a : Act} {ρ : List V} (hr : Reps M ι a.tmps.toList ρ) (hG : GOK G M ι) {x : Operand} {y : Arg} (h : chkArg x y = true) : Rep M ι (a.eval x) (argT G ρ y) := by
  unfold chkArg at h
  split at h
  · rename_i t n
    have : t = n := by simpa using h
    subst this
    have := reps_getD hr t
    simpa [Act.eval, argT, Array.getD_eq_getD_getElem?, List.getD] using this
  · exact (chkConst_rep h).1
  · rename_i g n
    have : g = n := by simpa using h
    subst this
    exact hG.ok g
  · rename_i f g
    have : f = g := by simpa using h
    subst this
    exact .fn f #[] #[] [] [] rfl rfl (fun i v c h => by simp at h) (fun i v c h => by simp at h)
  · cases h
structure Opd (M : Mem) (ι : Plc) (r : Operand → Value) (A : Arg → V) : Prop where
  ok : ∀ x y, chkArg x y = true → Rep M ι (r x) (A y)
theorem Opd.args {r : Operand → Value} {A : Arg → V} (h : Opd M ι r A) : ∀ {xs : List Operand} {ys : List Arg}, chkArgs xs ys = true → Reps M ι (xs.map r) (ys.map A)
  | [], [], _ => .nil
  | x :: xs, y :: ys, hc => by
    simp only [chkArgs, Bool.and_eq_true] at hc
    exact Reps.cons (h.ok x y hc.1) (h.args hc.2)
  | [], _ :: _, hc => by simp [chkArgs] at hc
  | _ :: _, [], hc => by simp [chkArgs] at hc
theorem Opd.of_state {G : GV} {a : Act} {ρ : List V} (hr : Reps M ι a.tmps.toList ρ) (hG : GOK G M ι) : Opd M ι a.eval (arg G ρ) :=
  ⟨fun x y h => (chkArg_rep hr hG h).ng⟩
theorem Rep.inv_bool {v : Value} {b : Bool} (h : Rep M ι v (.bool b)) : v = .bool b := by cases h; rfl
theorem Rep.inv_int {v : Value} {k : IntKind} {n : Int} (h : Rep M ι v (.int k n)) : v = .int k n := by cases h; rfl
theorem Rep.inv_str {v : Value} {s : List UInt8} (h : Rep M ι v (.str s)) : ∃ b : ByteArray, v = .string b ∧ b.data.toList = s := by cases h; exact ⟨_, rfl, ‹_›⟩
theorem Rep.inv_ptr {v : Value} {o off : Nat} (h : Rep M ι v (.ptr o off)) : ∃ b, v = .pointer (some ⟨b, off, none⟩) ∧ ι o = some b := by cases h; exact ⟨_, rfl, ‹_›⟩
theorem Rep.inv_eptr {v : Value} {cs : List V} {off : Nat} (h : Rep M ι v (.eptr cs off)) :
    ∃ b base us, v = .pointer (some ⟨b, base + off, none⟩) ∧ Reps M ι us cs ∧ ∀ (i : Nat) u, us[i]? = some u → M b (base + i) = some u := by
  cases h with
  | eptr _ _ b base us hl hm hr => exact ⟨b, base, us, rfl, ⟨hl, hr⟩, hm⟩
theorem Rep.inv_sl {v : Value} {xs : List V} {c : Cap} (h : Rep M ι v (.sl xs c)) :
    (∃ b off cap sz us, v = .slice (some ⟨b, off, none⟩) xs.length cap ∧ (∀ x ∈ xs, x.cells.length = sz) ∧ Reps M ι us (xs.flatMap V.cells) ∧ (∀ (i : Nat) u, us[i]? = some u → M b (off + i) = some u) ∧ xs.length ≤ cap ∧ (c = .fx → cap = xs.length)) ∨
      ∃ a, v = .slice (some a) 0 0 ∧ xs = [] ∧ ∀ s, c ≠ .gr s := by
  cases h with
  | sl _ _ b off cap sz us hs hl hm hr hcap hfx => exact .inl ⟨b, off, cap, sz, us, rfl, hs, ⟨hl, hr⟩, hm, hcap, hfx⟩
  | sl0 a _ hg => exact .inr ⟨a, rfl, rfl, hg⟩
theorem Rep.inv_hs {v : Value} {o off len sz : Nat} {ag : Bool} (h : Rep M ι v (.hs o off len sz ag)) : ∃ b cap, v = .slice (some ⟨b, off, none⟩) len cap ∧ ι o = some b ∧ len ≤ cap := by
  cases h; exact ⟨_, _, rfl, ‹_›, ‹_›⟩
end
section
variable {P : Program} {w : World}
theorem run_underlying {t : TypeId} {d : TypeDesc} (h : P.underlying t = some d) : (underlying t).run P w = .ok d w := by
  simp [underlying, program, sem_bind_run, Sem.run, Result.andThen, h]
theorem run_typeInfo {t : TypeId} {i : TypeInfo} (h : P.info? t = some i) : (typeInfo t).run P w = .ok i w := by
  simp [typeInfo, program, sem_bind_run, Sem.run, Result.andThen, h]
theorem run_sizeOf {t : TypeId} {n : Nat} (h : szOf P t = some n) : (sizeOf t).run P w = .ok n w := by
  unfold szOf at h
  rw [Option.map_eq_some_iff] at h
  obtain ⟨i, hi, rfl⟩ := h
  simp only [sizeOf, sem_bind_run, run_typeInfo hi, Result.andThen]
  rfl
theorem run_isAgg {t : TypeId} {b : Bool} (h : agOf P t = some b) : (isAgg t).run P w = .ok b w := by
  unfold agOf at h
  rw [Option.map_eq_some_iff] at h
  obtain ⟨d, hd, rfl⟩ := h
  simp only [isAgg, sem_bind_run, run_underlying hd, Result.andThen]
  cases d <;> rfl
end
end Go.Ev
set_option linter.unusedSimpArgs false
set_option linter.unusedVariables false
namespace Go.Ev
open Go
def CellsAt (w : World) (b off : Nat) (us : List Value) : Prop := ∀ (i : Nat) u, us[i]? = some u → w.cell? ⟨b, off + i, none⟩ = some u
section
variable {P : Program} {M : Mem} {ι : Plc} {X : Nat → Prop} {κ : Own} {w : World} {σ : Objs}
theorem CellsAt.drop {b off : Nat} {us : List Value} (h : CellsAt w b off us) (n : Nat) : CellsAt w b (off + n) (us.drop n) := fun i u hu => by
  rw [List.getElem?_drop] at hu
  have := h (n + i) u hu
  rwa [← Nat.add_assoc] at this
theorem CellsAt.take {b off : Nat} {us : List Value} (h : CellsAt w b off us) (n : Nat) : CellsAt w b off (us.take n) := fun i u hu => by
  rw [List.getElem?_take] at hu
  split at hu
  · exact h i u hu
  · cases hu
theorem Wd.cells (h : Wd M ι X κ w σ) {b off : Nat} {us : List Value} (hm : ∀ (i : Nat) u, us[i]? = some u → M b (off + i) = some u) : CellsAt w b off us := fun i u hu => h.mem b _ u (hm i u hu)
theorem Wd.objCells (h : Wd M ι X κ w σ) {o b : Nat} {cs : List V} (hi : ι o = some b) (ho : Objs.get σ o = some cs) : ∃ us, Reps M ι us cs ∧ CellsAt w b 0 us := by
  unfold Objs.get at ho
  obtain ⟨O, hO, hr⟩ := h.obj o b hi
  rw [hO] at ho
  cases O with
  | cells cs' =>
    simp at ho; subst ho
    obtain ⟨ws, T, fz, h1, h2, _⟩ := hr
    refine ⟨_, h2, fun i u hu => ?_⟩
    rw [cell_row h1, Nat.zero_add]
    rw [List.getElem?_take] at hu
    split at hu
    · simpa using hu
    · cases hu
  | mp es => cases ho
  | si r pos => cases ho
  | gone => cases ho
theorem run_loadVar {t : TypeId} {ag : Bool} {sz b base off : Nat} {cs : List V} {us : List Value} {x : V} (ht : chkTy P t ag sz = true) (hr : Reps M ι us cs) (hc : CellsAt w b base us)
    (hp : part ag sz cs off = some x) : ∃ u, (loadVar t ⟨b, base + off, none⟩).run P w = .ok u w ∧ Rep M ι u x := by
  simp only [chkTy, Bool.and_eq_true, beq_iff_eq] at ht
  obtain ⟨⟨hag, hsz⟩, hone⟩ := ht
  unfold part at hp
  cases ag with
  | true =>
    simp only [if_true] at hp
    split at hp
    · rename_i hle
      cases hp
      have hl : ((us.drop off).take sz).length = sz := by
        have := hr.1
        simp; omega
      have hrun := run_loadCells (P := P) (w := w) b (base + off) ((us.drop off).take sz) ((hc.drop off).take sz)
      rw [hl] at hrun
      refine ⟨.agg ((us.drop off).take sz).toArray, ?_, Rep.agg_iff.2 (by simpa using ((hr.drop off).take sz).ng)⟩
      unfold loadVar
      simp only [sem_bind_run, run_isAgg hag, run_sizeOf hsz, Result.andThen, if_true, hrun]
      rfl
    · cases hp
  | false =>
    simp only [Bool.false_eq_true, if_false] at hp
    split at hp
    · rw [Option.map_eq_some_iff] at hp
      obtain ⟨c, hcx, rfl⟩ := hp
      obtain ⟨u, hu, hru⟩ := hr.get hcx
      refine ⟨u, ?_, hru.ng⟩
      unfold loadVar
      simp only [sem_bind_run, run_isAgg hag, Result.andThen, Bool.false_eq_true, if_false]
      exact run_load (hc off u hu)
    · cases hp
theorem snd_load (h : Wd M ι X κ w σ) {t : TypeId} {ag : Bool} {sz : Nat} {v : Value} {p x : V} (ht : chkTy P t ag sz = true) (hv : Rep M ι v p)
    (hx : eL σ ag sz p = some x) :
    ∃ u, (Instr.loadAt t v).run P w = .ok u w ∧ Rep M ι u x := by
  unfold eL at hx
  cases p with
  | ptr o off =>
    obtain ⟨b, rfl, hi⟩ := hv.inv_ptr
    simp only [Option.bind_eq_bind, Option.bind_eq_some_iff] at hx
    obtain ⟨cs, hcs, hp⟩ := hx
    obtain ⟨us, hr, hc⟩ := h.objCells hi hcs
    obtain ⟨u, hrun, hu⟩ := run_loadVar ht hr hc hp
    refine ⟨u, ?_, hu⟩
    rw [Nat.zero_add] at hrun
    unfold Instr.loadAt Instr.sureAddr
    rw [sem_bind_run, sem_pure_run]
    exact hrun
  | eptr cs off =>
    obtain ⟨b, base, us, rfl, hr, hm⟩ := hv.inv_eptr
    obtain ⟨u, hrun, hu⟩ := run_loadVar ht hr (h.cells hm) hx
    refine ⟨u, ?_, hu⟩
    unfold Instr.loadAt Instr.sureAddr
    rw [sem_bind_run, sem_pure_run]
    exact hrun
  | _ => simp at hx
theorem run_part {t : TypeId} {ag : Bool} {sz off : Nat} {cs : List V} {vs : Array Value} {x : V} (ht : chkTy P t ag sz = true) (hr : Reps M ι vs.toList cs) (hp : part ag sz cs off = some x) :
    ∃ u, (Go.part t vs off).run P w = .ok u w ∧ Rep M ι u x := by
  simp only [chkTy, Bool.and_eq_true, beq_iff_eq] at ht
  obtain ⟨⟨hag, hsz⟩, hone⟩ := ht
  unfold part at hp
  cases ag with
  | true =>
    simp only [if_true] at hp
    split at hp
    · rename_i hle
      cases hp
      refine ⟨.agg (vs.extract off (off + sz)), ?_, Rep.agg_iff.2 ?_⟩
      · unfold Go.part
        simp only [sem_bind_run, run_isAgg hag, run_sizeOf hsz, Result.andThen, if_true]
        rfl
      · have := ((hr.drop off).take sz).ng
        rw [Array.toList_extract, List.extract_eq_take_drop]
        simpa using this
    · cases hp
  | false =>
    simp only [Bool.false_eq_true, if_false] at hp
    split at hp
    · rw [Option.map_eq_some_iff] at hp
      obtain ⟨c, hcx, rfl⟩ := hp
      obtain ⟨u, hu, hru⟩ := hr.get hcx
      refine ⟨u, ?_, hru.ng⟩
      unfold Go.part
      simp only [sem_bind_run, run_isAgg hag, Result.andThen, Bool.false_eq_true, if_false]
      rw [show vs[off]? = some u by simpa using hu]
      rfl
    · cases hp
theorem run_asInt {k : IntKind} {n : Int} : (asIntOf (.int k n)).run P w = .ok (k, n) w := rfl
theorem index_some {i : V} {n j : Nat} (h : index i n = some j) : ∃ k q, i = .int k q ∧ 0 ≤ q ∧ q < n ∧ j = q.toNat := by
  unfold index at h
  split at h
  · split at h
    · rename_i hc; cases h; exact ⟨_, _, rfl, hc.1, hc.2, rfl⟩
    · cases h
  · cases h
theorem bound_some {x : V} {hi l : Nat} (h : bound x hi = some l) : ∃ k q, x = .int k q ∧ 0 ≤ q ∧ q ≤ hi ∧ l = q.toNat := by
  unfold bound at h
  split at h
  · split at h
    · rename_i hc; cases h; exact ⟨_, _, rfl, hc.1, hc.2, rfl⟩
    · cases h
  · cases h
theorem run_sliceBound {v : Value} {x : V} {hi l : Nat} {code : BoundsCode} (hv : Rep M ι v x) (h : bound x hi = some l) : (Instr.sliceBound v hi code).run P w = .ok l w := by
  obtain ⟨k, q, rfl, h0, h1, rfl⟩ := bound_some h
  cases hv.inv_int
  unfold Instr.sliceBound
  simp only [sem_bind_run, run_asInt, Result.andThen]
  rw [if_pos ⟨h0, h1⟩]
  rfl
def RepO (M : Mem) (ι : Plc) : Option Value → Option V → Prop
  | none, none => True
  | some v, some x => Rep M ι v x
  | _, _ => False
theorem bound_mono {x : V} {a b l : Nat} (h : bound x a = some l) (hab : a ≤ b) : bound x b = some l := by
  obtain ⟨k, q, rfl, h0, h1, rfl⟩ := bound_some h
  show (if 0 ≤ q ∧ q ≤ (b : Int) then some q.toNat else none) = some q.toNat
  rw [if_pos ⟨h0, by omega⟩]
theorem bound_le {x : V} {a l : Nat} (h : bound x a = some l) : l ≤ a := by
  obtain ⟨k, q, rfl, h0, h1, rfl⟩ := bound_some h
  omega
theorem run_sliceBounds {isSlice : Bool} {len cap l h : Nat} {m : Option Nat} {lo hi mx : Option Value} {xlo xhi xmx : Option V} (hcap : len ≤ cap)
    (h1 : RepO M ι lo xlo) (h2 : RepO M ι hi xhi) (h3 : RepO M ι mx xmx) (hmx : xmx.isSome → xhi.isSome) (hb : bounds len xlo xhi xmx = some (l, h, m)) :
    (Instr.sliceBounds isSlice len cap lo hi mx).run P w = .ok (l, h, m.getD cap) w ∧ l ≤ h ∧ h ≤ len ∧ (∀ k, m = some k → h ≤ k ∧ k ≤ len) := by
  unfold bounds at hb
  cases xmx with
  | none =>
    cases mx with
    | some _ => exact h3.elim
    | none =>
      simp only [Option.bind_eq_bind, Option.bind_some, Option.getD_none] at hb
      cases xhi with
      | none =>
        cases hi with
        | some _ => exact h2.elim
        | none =>
          simp only [Option.bind_some] at hb
          cases xlo with
          | none =>
            cases lo with
            | some _ => exact h1.elim
            | none => simp at hb; obtain ⟨rfl, rfl, rfl⟩ := hb; exact ⟨rfl, Nat.zero_le _, Nat.le_refl _, by simp⟩
          | some xl =>
            cases lo with
            | none => exact h1.elim
            | some vl =>
              simp only [Option.bind_eq_some_iff, Option.pure_def] at hb
              obtain ⟨l', hl', he⟩ := hb
              simp at he; obtain ⟨rfl, rfl, rfl⟩ := he
              refine ⟨?_, bound_le hl', Nat.le_refl _, by simp⟩
              unfold Instr.sliceBounds
              simp only [sem_bind_run, sem_pure_run, Result.andThen, run_sliceBound (P := P) (w := w) (code := _) h1 hl']
              rfl
      | some xh =>
        cases hi with
        | none => exact h2.elim
        | some vh =>
          simp only [Option.bind_eq_some_iff] at hb
          obtain ⟨h', hh', hb⟩ := hb
          have hle := bound_le hh'
          cases xlo with
          | none =>
            cases lo with
            | some _ => exact h1.elim
            | none =>
              simp at hb; obtain ⟨rfl, rfl, rfl⟩ := hb
              refine ⟨?_, Nat.zero_le _, hle, by simp⟩
              unfold Instr.sliceBounds
              simp only [sem_bind_run, sem_pure_run, Result.andThen, run_sliceBound (P := P) (w := w) h2 (bound_mono hh' hcap)]
              rfl
          | some xl =>
            cases lo with
            | none => exact h1.elim
            | some vl =>
              simp only [Option.bind_eq_some_iff, Option.pure_def] at hb
              obtain ⟨l', hl', he⟩ := hb
              simp at he; obtain ⟨rfl, rfl, rfl⟩ := he
              refine ⟨?_, bound_le hl', hle, by simp⟩
              unfold Instr.sliceBounds
              simp only [sem_bind_run, sem_pure_run, Result.andThen, run_sliceBound (P := P) (w := w) h2 (bound_mono hh' hcap), run_sliceBound (P := P) (w := w) h1 hl']
              rfl
  | some xm =>
    cases mx with
    | none => exact h3.elim
    | some vm =>
      cases xhi with
      | none => simp at hmx
      | some xh =>
        cases hi with
        | none => exact h2.elim
        | some vh =>
          cases xlo with
          | none =>
            cases lo with
            | some _ => exact h1.elim
            | none =>
              simp only [Option.bind_eq_bind, Option.bind_eq_some_iff, Option.map_eq_some_iff, Option.bind_some, Option.pure_def] at hb
              obtain ⟨m', ⟨m0, hm', rfl⟩, h', hh', he⟩ := hb
              simp at he; obtain ⟨rfl, rfl, rfl⟩ := he
              simp only [Option.getD_some] at hh'
              have hle := bound_le hh'
              have hlm := bound_le hm'
              refine ⟨?_, Nat.zero_le _, by omega, fun k hk => by cases hk; exact ⟨hle, hlm⟩⟩
              unfold Instr.sliceBounds
              simp only [sem_bind_run, sem_pure_run, Result.andThen, run_sliceBound (P := P) (w := w) h3 (bound_mono hm' hcap), run_sliceBound (P := P) (w := w) h2 hh']
              rfl
          | some xl =>
            cases lo with
            | none => exact h1.elim
            | some vl =>
              simp only [Option.bind_eq_bind, Option.bind_eq_some_iff, Option.map_eq_some_iff, Option.pure_def] at hb
              obtain ⟨m', ⟨m0, hm', rfl⟩, h', hh', l', hl', he⟩ := hb
              simp at he; obtain ⟨rfl, rfl, rfl⟩ := he
              simp only [Option.getD_some] at hh'
              have hle := bound_le hh'
              have hlm := bound_le hm'
              refine ⟨?_, bound_le hl', by omega, fun k hk => by cases hk; exact ⟨hle, hlm⟩⟩
              unfold Instr.sliceBounds
              simp only [sem_bind_run, sem_pure_run, Result.andThen, run_sliceBound (P := P) (w := w) h3 (bound_mono hm' hcap), run_sliceBound (P := P) (w := w) h2 hh', run_sliceBound (P := P) (w := w) h1 hl']
              rfl
end
end Go.Ev
set_option linter.unusedSimpArgs false
set_option linter.unusedVariables false
namespace Go.Ev
open Go
section
variable {P : Program} {M : Mem} {ι : Plc} {X : Nat → Prop} {κ : Own} {w : World} {σ : Objs}
theorem addr_inv {v : Value} {p : V} (hv : Rep M ι v p) (hp : (∃ o a, p = .ptr o a) ∨ ∃ cs a, p = .eptr cs a) :
    ∃ b a, v = .pointer (some ⟨b, a, none⟩) ∧ ∀ k, Rep M ι (.pointer (some ⟨b, a + k, none⟩)) (match p with | .ptr o x => .ptr o (x + k) | .eptr cs x => .eptr cs (x + k) | y => y) := by
  rcases hp with ⟨o, a, rfl⟩ | ⟨cs, a, rfl⟩
  · obtain ⟨b, rfl, hi⟩ := hv.inv_ptr
    exact ⟨b, a, rfl, fun k => .ptr o (a + k) b hi⟩
  · obtain ⟨b, base, us, rfl, hr, hm⟩ := hv.inv_eptr
    exact ⟨b, base + a, rfl, fun k => by rw [Nat.add_assoc]; exact .eptr cs (a + k) b base us hr.1 hm hr.2⟩
def chkField (P : Program) (s : TypeId) (f off : Nat) : Option TypeId :=
  match P.underlying s with
  | some (.struct fs) => match fs[f]? with
    | some fd => if fd.offset = off then some fd.type else none
    | none => none
  | _ => none
theorem chkField_spec {s : TypeId} {f off : Nat} {t : TypeId} (h : chkField P s f off = some t) : ∃ fs fd, P.underlying s = some (.struct fs) ∧ fs[f]? = some fd ∧ fd.offset = off ∧ fd.type = t := by
  unfold chkField at h
  split at h
  · split at h
    · split at h
      · cases h; exact ⟨_, _, ‹_›, ‹_›, ‹_›, rfl⟩
      · cases h
    · cases h
  · cases h
theorem snd_faddr {s : TypeId} {f off sz : Nat} {t : TypeId} {v : Value} {p x : V} (hs : chkField P s f off = some t) (hz : szOf P t = some sz) (hz0 : sz ≠ 0) (hv : Rep M ι v p)
    (hx : eF off p = some x) :
    ∃ u, (Instr.fieldAt s v f).run P w = .ok u w ∧ Rep M ι u x := by
  unfold eF at hx
  obtain ⟨fs, fd, h1, h2, rfl, rfl⟩ := chkField_spec hs
  have hp : (∃ o a, p = .ptr o a) ∨ ∃ cs a, p = .eptr cs a := by
    split at hx
    · exact .inl ⟨_, _, rfl⟩
    · exact .inr ⟨_, _, rfl⟩
    · cases hx
  obtain ⟨b, a, rfl, hk⟩ := addr_inv hv hp
  refine ⟨.pointer (some ⟨b, a + fd.offset, none⟩), ?_, ?_⟩
  · unfold Instr.fieldAt Instr.sureAddr fieldPlace
    simp only [sem_bind_run, run_underlying h1, Result.andThen, h2, sem_pure_run, run_sizeOf hz, hz0, if_false, add_none]
  · have := hk fd.offset
    rcases hp with ⟨o, a', rfl⟩ | ⟨cs, a', rfl⟩
    · cases hx; exact this
    · cases hx; exact this
theorem snd_field {s : TypeId} {f off sz : Nat} {ag : Bool} {t : TypeId} {v : Value} {p x : V} (hs : chkField P s f off = some t) (ht : chkTy P t ag sz = true) (hv : Rep M ι v p)
    (hx : evField ag off sz p = some x) : ∃ u, (Instr.field s v f).run P w = .ok u w ∧ Rep M ι u x := by
  unfold evField at hx
  obtain ⟨fs, fd, h1, h2, rfl, rfl⟩ := chkField_spec hs
  cases p with
  | agg cs =>
    cases hv with
    | agg vs _ hl hr =>
      obtain ⟨u, hrun, hu⟩ := run_part (P := P) (w := w) ht (Rep.agg_iff.1 (.agg vs cs hl hr)) hx
      refine ⟨u, ?_, hu⟩
      unfold Instr.field
      simp only [sem_bind_run, run_underlying h1, Result.andThen, h2, asAgg, sem_pure_run]
      exact hrun
  | _ => cases hx
theorem flat_len {xs : List V} {sz : Nat} (hs : ∀ x ∈ xs, x.cells.length = sz) : (xs.flatMap V.cells).length = xs.length * sz := by
  induction xs with
  | nil => simp
  | cons x xs ih =>
    simp only [List.flatMap_cons, List.length_append, List.length_cons]
    rw [hs x (by simp), ih (fun y hy => hs y (by simp [hy])), Nat.add_mul, Nat.one_mul, Nat.add_comm]
theorem flat_drop {xs : List V} {sz : Nat} (hs : ∀ x ∈ xs, x.cells.length = sz) (n : Nat) : (xs.drop n).flatMap V.cells = (xs.flatMap V.cells).drop (n * sz) := by
  induction n generalizing xs with
  | zero => simp
  | succ n ih =>
    cases xs with
    | nil => simp
    | cons x xs =>
      simp only [List.drop_succ_cons, List.flatMap_cons]
      rw [ih (fun y hy => hs y (by simp [hy])), Nat.succ_mul, Nat.add_comm, ← List.drop_drop, List.drop_left' (hs x (by simp))]
theorem flat_take {xs : List V} {sz : Nat} (hs : ∀ x ∈ xs, x.cells.length = sz) (n : Nat) : (xs.take n).flatMap V.cells = (xs.flatMap V.cells).take (n * sz) := by
  induction n generalizing xs with
  | zero => simp
  | succ n ih =>
    cases xs with
    | nil => simp
    | cons x xs =>
      have hx := hs x (by simp)
      simp only [List.take_succ_cons, List.flatMap_cons]
      rw [ih (fun y hy => hs y (by simp [hy])), Nat.succ_mul, Nat.add_comm, ← hx, List.take_length_add_append]
theorem flat_get {xs : List V} {sz j : Nat} {e : V} (hs : ∀ x ∈ xs, x.cells.length = sz) (he : xs[j]? = some e) : ((xs.flatMap V.cells).drop (j * sz)).take sz = e.cells := by
  rw [← flat_drop hs, List.drop_eq_getElem_cons (List.getElem?_eq_some_iff.1 he).1, List.flatMap_cons]
  have h1 := (List.getElem?_eq_some_iff.1 he).2
  rw [h1, List.take_left' (hs e (List.mem_of_getElem? he))]
theorem snd_iaddr (h : Wd M ι X κ w σ) {t e : TypeId} {sz : Nat} {v vi : Value} {p i x : V} (ht : P.underlying t = some (.slice e)) (hz : szOf P e = some sz) (hv : Rep M ι v p) (hi : Rep M ι vi i)
    (hx : eI sz i p = some x) : ∃ u, (Instr.indexAt t v vi).run P w = .ok u w ∧ Rep M ι u x := by
  unfold eI at hx
  cases p with
  | sl xs c =>
    simp only [Option.bind_eq_bind, Option.bind_eq_some_iff] at hx
    obtain ⟨j, hj, el, hel, hx⟩ := hx
    split at hx
    · rename_i hlen
      cases hx
      obtain ⟨k, q, rfl, h0, h1, rfl⟩ := index_some hj
      cases hi.inv_int
      rcases hv.inv_sl with ⟨b, off, cap, sz', us, rfl, hs, hr, hm, hcap, _⟩ | ⟨_, _, hnil, _⟩
      case inr => subst hnil; simp at hel
      have hsz : sz' = sz := by rw [← hs el (List.mem_of_getElem? hel)]; exact hlen
      subst hsz
      refine ⟨.pointer (some ⟨b, off + q.toNat * sz', none⟩), ?_, ?_⟩
      · unfold Instr.indexAt
        simp only [sem_bind_run, run_asInt, run_underlying ht, Result.andThen, sem_pure_run]
        rw [if_pos ⟨h0, h1⟩]
        simp only [sem_bind_run, run_sizeOf hz, Result.andThen, sem_pure_run, add_none]
      · have hrr := ((hr.drop (q.toNat * sz')).take sz')
        rw [flat_get hs hel] at hrr
        refine .eptr el.cells 0 b (off + q.toNat * sz') _ hrr.1 (fun m u hu => ?_) hrr.2
        rw [List.getElem?_take] at hu
        split at hu
        · rw [List.getElem?_drop] at hu
          have := hm _ u hu
          rwa [← Nat.add_assoc] at this
        · cases hu
    · cases hx
  | hs o off len s ag =>
    simp only [Option.bind_eq_bind, Option.bind_eq_some_iff] at hx
    obtain ⟨j, hj, hx⟩ := hx
    split at hx
    · rename_i hs
      cases hx
      obtain ⟨k, q, rfl, h0, h1, rfl⟩ := index_some hj
      cases hi.inv_int
      obtain ⟨b, cap, rfl, hib, hc⟩ := hv.inv_hs
      refine ⟨.pointer (some ⟨b, off + q.toNat * sz, none⟩), ?_, .ptr o _ b hib⟩
      unfold Instr.indexAt
      simp only [sem_bind_run, run_asInt, run_underlying ht, Result.andThen, sem_pure_run]
      rw [if_pos ⟨h0, h1⟩]
      simp only [sem_bind_run, run_sizeOf hz, Result.andThen, sem_pure_run, add_none]
    · cases hx
  | _ => cases hx
theorem snd_iaddrA {t e : TypeId} {n sz : Nat} {v vi : Value} {p i x : V} (ht : P.underlying t = some (.array n e)) (hz : szOf P e = some sz) (hv : Rep M ι v p) (hi : Rep M ι vi i)
    (hx : evIaddrA n sz i p = some x) : ∃ u, (Instr.indexAt t v vi).run P w = .ok u w ∧ Rep M ι u x := by
  unfold evIaddrA at hx
  simp only [Option.bind_eq_bind, Option.bind_eq_some_iff] at hx
  obtain ⟨j, hj, hx⟩ := hx
  obtain ⟨k, q, rfl, h0, h1, rfl⟩ := index_some hj
  cases hi.inv_int
  have hp : (∃ o a, p = .ptr o a) ∨ ∃ cs a, p = .eptr cs a := by
    split at hx
    · exact .inl ⟨_, _, rfl⟩
    · exact .inr ⟨_, _, rfl⟩
    · cases hx
  obtain ⟨b, a, rfl, hk⟩ := addr_inv hv hp
  refine ⟨.pointer (some ⟨b, a + q.toNat * sz, none⟩), ?_, ?_⟩
  · unfold Instr.indexAt Instr.sureAddr
    simp only [sem_bind_run, run_asInt, run_underlying ht, Result.andThen, sem_pure_run]
    rw [if_pos ⟨h0, h1⟩]
    simp only [sem_bind_run, run_sizeOf hz, Result.andThen, sem_pure_run, add_none]
  · have := hk (q.toNat * sz)
    rcases hp with ⟨o, a', rfl⟩ | ⟨cs, a', rfl⟩
    · cases hx; exact this
    · cases hx; exact this
theorem snd_idx {t : TypeId} {v vi : Value} {p i x : V} (ht : P.underlying t = some .string) (hv : Rep M ι v p) (hi : Rep M ι vi i)
    (hx : evIdx i p = some x) : ∃ u, (Instr.index t v vi).run P w = .ok u w ∧ Rep M ι u x := by
  unfold evIdx at hx
  cases p with
  | str s =>
    simp only [Option.bind_eq_bind, Option.bind_eq_some_iff] at hx
    obtain ⟨j, hj, b, hb, hx⟩ := hx
    cases hx
    obtain ⟨k, q, rfl, h0, h1, rfl⟩ := index_some hj
    cases hi.inv_int
    obtain ⟨ba, rfl, hs⟩ := hv.inv_str
    refine ⟨.int .u8 b.toNat, ?_, .int _ _⟩
    unfold Instr.index
    simp only [sem_bind_run, run_asInt, run_underlying ht, Result.andThen]
    have hg : ba[q.toNat]? = some b := by
      subst hs
      have hlt := (List.getElem?_eq_some_iff.1 hb).1
      simp only [Array.length_toList] at hlt
      rw [Array.getElem?_toList] at hb
      show (if h : q.toNat < ba.size then some ba[q.toNat] else none) = some b
      rw [dif_pos (show q.toNat < ba.size from hlt)]
      rw [← hb, Array.getElem?_eq_getElem hlt]
      rfl
    rw [if_pos h0, hg]
    rfl
  | _ => cases hx
theorem snd_idxA {t e : TypeId} {n sz : Nat} {ag : Bool} {v vi : Value} {p i x : V} (ht : P.underlying t = some (.array n e)) (he : chkTy P e ag sz = true) (hv : Rep M ι v p) (hi : Rep M ι vi i)
    (hx : evIdxA n ag sz i p = some x) : ∃ u, (Instr.index t v vi).run P w = .ok u w ∧ Rep M ι u x := by
  unfold evIdxA at hx
  simp only [Option.bind_eq_bind, Option.bind_eq_some_iff] at hx
  obtain ⟨j, hj, hx⟩ := hx
  obtain ⟨k, q, rfl, h0, h1, rfl⟩ := index_some hj
  cases hi.inv_int
  cases p with
  | agg cs =>
    cases hv with
    | agg vs _ hl hr =>
      obtain ⟨u, hrun, hu⟩ := run_part (P := P) (w := w) he (Rep.agg_iff.1 (.agg vs cs hl hr)) hx
      refine ⟨u, ?_, hu⟩
      have hz : szOf P e = some sz := by simp only [chkTy, Bool.and_eq_true, beq_iff_eq] at he; exact he.1.2
      unfold Instr.index
      simp only [sem_bind_run, run_asInt, run_underlying ht, Result.andThen]
      rw [if_pos ⟨h0, h1⟩]
      simp only [sem_bind_run, run_sizeOf hz, Result.andThen]
      exact hrun
  | _ => cases hx
theorem snd_extr {v : Value} {p x : V} {i : Nat} (hv : Rep M ι v p) (hx : eX i p = some x) :
    ∃ u, (Instr.extract v i).run P w = .ok u w ∧ Rep M ι u x := by
  unfold eX at hx
  cases p with
  | tup cs =>
    cases hv with
    | tup vs _ hl hr =>
      have hr' : Reps M ι vs.toList cs := ⟨by simpa using hl, fun i u c hu hc => hr i u c (by simpa using hu) hc⟩
      obtain ⟨u, hu, hru⟩ := hr'.get hx
      refine ⟨u, ?_, hru⟩
      unfold Instr.extract
      simp only [show vs[i]? = some u by simpa using hu]
      rfl
  | _ => cases hx
theorem snd_cutS {t : TypeId} {v : Value} {p x : V} {lo hi : Option Value} {xlo xhi : Option V} (ht : P.underlying t = some .string) (hv : Rep M ι v p)
    (h1 : RepO M ι lo xlo) (h2 : RepO M ι hi xhi) (hx : evCutS p xlo xhi = some x) : ∃ u, (Instr.sliceAt t v lo hi none).run P w = .ok u w ∧ Rep M ι u x := by
  cases p with
  | str s =>
    unfold evCutS at hx
    simp only [Option.bind_eq_bind, Option.bind_eq_some_iff] at hx
    obtain ⟨⟨l, hh, m⟩, hb, hx⟩ := hx
    cases hx
    obtain ⟨ba, rfl, hs⟩ := hv.inv_str
    have hlen : s.length = ba.size := by rw [← hs]; exact Array.length_toList
    rw [hlen] at hb
    obtain ⟨hrun, hle, hle2, _⟩ := run_sliceBounds (P := P) (w := w) (isSlice := false) (mx := none) (xmx := none) (Nat.le_refl _) h1 h2 trivial (by simp) hb
    refine ⟨.string (ba.extract l hh), ?_, .str _ _ ?_⟩
    · unfold Instr.sliceAt Instr.slice
      simp only [sem_bind_run, run_underlying ht, Result.andThen, Option.isSome_none, Bool.false_eq_true, if_false, sem_pure_run, hrun]
    · subst hs
      rw [ByteArray.data_extract, Array.toList_extract, List.extract_eq_take_drop]
  | _ => cases hx
theorem snd_cut {t e : TypeId} {sz : Nat} {v : Value} {p x : V} {lo hi mx : Option Value} {xlo xhi xmx : Option V}
    (ht : P.underlying t = some (.slice e)) (hz : szOf P e = some sz) (hv : Rep M ι v p)
    (h1 : RepO M ι lo xlo) (h2 : RepO M ι hi xhi) (h3 : RepO M ι mx xmx) (hmx : xmx.isSome → xhi.isSome) (hx : evCut sz p xlo xhi xmx = some x) :
    ∃ u, (Instr.sliceAt t v lo hi mx).run P w = .ok u w ∧ Rep M ι u x := by
  have start : ∀ a len cap l hh k, (Instr.sliceBounds true len cap lo hi mx).run P w = .ok (l, hh, k) w →
      (Instr.sliceAt t (.slice a len cap) lo hi mx).run P w = .ok (.slice (if k = l then a else a.map (·.add (l * sz))) (hh - l) (k - l)) w := by
    intro a len cap l hh k hrun
    unfold Instr.sliceAt Instr.slice
    simp only [sem_bind_run, run_underlying ht, Result.andThen, hrun, run_sizeOf hz, sem_pure_run]
  unfold evCut at hx
  cases p with
  | nils =>
    simp only [Option.bind_eq_bind, Option.bind_eq_some_iff] at hx
    obtain ⟨⟨l, hh, m⟩, hb, hx⟩ := hx
    cases hx
    cases hv
    obtain ⟨hrun, hle, hle2, hm⟩ := run_sliceBounds (P := P) (w := w) (isSlice := true) (Nat.le_refl 0) h1 h2 h3 hmx hb
    refine ⟨_, start none 0 0 l hh _ hrun, ?_⟩
    have h0 : hh = 0 := by omega
    have hl0 : l = 0 := by omega
    have hk0 : m.getD 0 = 0 := by
      cases m with
      | none => rfl
      | some k => have := (hm k rfl).2; simp; omega
    subst h0 hl0
    rw [hk0]
    exact .nils
  | sl xs c =>
    simp only [Option.bind_eq_bind, Option.bind_eq_some_iff] at hx
    obtain ⟨⟨l, hh, m⟩, hb, hx⟩ := hx
    split at hx
    · rename_i hall
      cases hx
      rcases hv.inv_sl with ⟨b, off, cap, sz', us, rfl, hs', hr, hmm, hcap, _⟩ | ⟨a0, rfl, hnil, _⟩
      case inr =>
        subst hnil
        obtain ⟨hrun, hle, hle2, hm⟩ := run_sliceBounds (P := P) (w := w) (isSlice := true) (Nat.le_refl 0) h1 h2 h3 hmx hb
        have h0 : hh = 0 := by simpa using hle2
        have hl0 : l = 0 := by omega
        have hk0 : m.getD 0 = 0 := by
          cases m with
          | none => rfl
          | some k => have := (hm k rfl).2; simp; omega
        refine ⟨_, start _ _ 0 l hh _ hrun, ?_⟩
        subst h0 hl0
        rw [hk0]
        exact .sl0 _ _ (fun s => by split <;> simp)
      have hs : ∀ y ∈ xs, y.cells.length = sz := fun y hy => by simpa using List.all_eq_true.1 hall y hy
      obtain ⟨hrun, hle, hle2, hm⟩ := run_sliceBounds (P := P) (w := w) (isSlice := true) hcap h1 h2 h3 hmx hb
      have hk : hh ≤ m.getD cap ∧ m.getD cap ≤ cap := by
        cases m with
        | none => exact ⟨by simp; omega, by simp⟩
        | some k => exact ⟨(hm k rfl).1, by have := (hm k rfl).2; simp; omega⟩
      refine ⟨_, start _ _ cap l hh _ hrun, ?_⟩
      have hlen : ((xs.drop l).take (hh - l)).length = hh - l := by simp; omega
      have hs2 : ∀ y ∈ (xs.drop l).take (hh - l), y.cells.length = sz := fun y hy => hs y (List.mem_of_mem_drop (List.mem_of_mem_take hy))
      have hflat : ((xs.drop l).take (hh - l)).flatMap V.cells = ((xs.flatMap V.cells).drop (l * sz)).take ((hh - l) * sz) := by
        rw [flat_take (fun y hy => hs y (List.mem_of_mem_drop hy)), flat_drop hs]
      have hrr := ((hr.drop (l * sz)).take ((hh - l) * sz))
      rw [← hflat] at hrr
      by_cases hkl : m.getD cap = l
      ·
        have hhl : hh - l = 0 := by omega
        rw [if_pos hkl]
        have hnil : (xs.drop l).take (hh - l) = [] := by rw [hhl]; rfl
        have := Rep.sl (M := M) (ι := ι) [] (if m = some hh then .fx else .no) b off (m.getD cap - l) 0 [] (by simp) rfl (by simp) (by simp) (Nat.zero_le _) (fun _ => by simp; omega)
        rw [hnil, hhl]
        exact this
      · rw [if_neg hkl]
        simp only [Option.map_some, add_none]
        have := Rep.sl (M := M) (ι := ι) ((xs.drop l).take (hh - l)) (if m = some hh then .fx else .no) b (off + l * sz) (m.getD cap - l) sz _ hs2 hrr.1 (fun i u hu => ?_) hrr.2 (by rw [hlen]; omega) (fun hfx => ?_)
        · rw [hlen] at this; exact this
        · rw [List.getElem?_take] at hu
          split at hu
          · rw [List.getElem?_drop] at hu
            have := hmm _ u hu
            rwa [← Nat.add_assoc] at this
          · cases hu
        · rw [hlen]
          split at hfx
          · rename_i hmh; subst hmh; rfl
          · cases hfx
    · cases hx
  | hs o off len s ag =>
    simp only [Option.bind_eq_bind, Option.bind_eq_some_iff] at hx
    obtain ⟨⟨l, hh, m⟩, hb, hx⟩ := hx
    split at hx
    · rename_i hs
      cases hx
      obtain ⟨b, cap, rfl, hib, hc⟩ := hv.inv_hs
      obtain ⟨hrun, hle, hle2, hm⟩ := run_sliceBounds (P := P) (w := w) (isSlice := true) hc h1 h2 h3 hmx hb
      have hk : hh ≤ m.getD cap := by
        cases m with
        | none => simp; omega
        | some k => exact (hm k rfl).1
      refine ⟨_, start _ _ cap l hh _ hrun, ?_⟩
      by_cases hlh : l = hh
      · subst hlh
        rw [if_pos rfl, Nat.sub_self]
        by_cases hkl : m.getD cap = l
        · rw [if_pos hkl]
          exact Rep.sl (M := M) (ι := ι) [] .no b off _ 0 [] (by simp) rfl (by simp) (by simp) (Nat.zero_le _) (fun e => by cases e)
        · rw [if_neg hkl]
          simp only [Option.map_some, add_none]
          exact Rep.sl (M := M) (ι := ι) [] .no b _ _ 0 [] (by simp) rfl (by simp) (by simp) (Nat.zero_le _) (fun e => by cases e)
      · rw [if_neg hlh, if_neg (by omega)]
        simp only [Option.map_some, add_none]
        exact .hs o _ _ sz ag b _ hib (by omega)
    · cases hx
  | _ => cases hx
end
end Go.Ev
set_option linter.unusedSimpArgs false
set_option linter.unusedVariables false
namespace Go.Ev
open Go
def isC : Operand → Bool
  | .const _ => true
  | _ => false
def fieldsKs (P : Program) (ks : TypeId → Option (List CK)) : List Field → Nat → Option (List CK)
  | [], _ => some []
  | f :: fs, off =>
    if f.name ≠ "_" ∧ f.offset = off then
      match ks f.type with
      | some k => if szOf P f.type = some k.length then
          match fieldsKs P ks fs (off + k.length) with
          | some r => some (k ++ r)
          | none => none
        else none
      | none => none
    else none
def plainKs (P : Program) : Nat → TypeId → Option (List CK)
  | 0, _ => none
  | n + 1, t =>
    match P.underlying t with
    | some .bool => some [.b]
    | some (.int _) => some [.i]
    | some .string => some [.s]
    | some (.struct fs) => if P.stoodInHeld t then none else fieldsKs P (plainKs P n) fs.toList 0
    | _ => none
def kindOf : TypeDesc → Option EqK
  | .bool => some .bool
  | .pointer _ => some .ptr
  | .slice _ => some .row
  | .interface _ => some .ifc
  | .func .. => some .fn
  | .map .. => some .mp
  | _ => none
def chkKind (P : Program) (k : EqK) (t : TypeId) (x y : Operand) : Bool :=
  match k with
  | .no => true
  | .agg ks => decide (agOf P t = some true) && decide (plainKs P 20 t = some ks) && !P.eqGuardType P.depth t
  | _ => decide ((P.underlying t).bind kindOf = some k) && (decide (k ≠ .ifc) || isC x || isC y)
def chkEq (P : Program) (op : BinOp) (k : EqK) (t : TypeId) (x y : Operand) : Bool :=
  match op with
  | .eql | .neq => chkKind P k t x y
  | _ => true
section
variable {P : Program} {M : Mem} {ι : Plc} {X : Nat → Prop} {κ : Own} {w : World} {σ : Objs}
theorem run_eqGuard_other {op : BinOp} {t : TypeId} {x y : Operand} {a b : Value} (h1 : ¬ (a = .nilIface ∧ b = .nilIface)) (h2 : ∀ u v, ¬ (a = .agg u ∧ b = .agg v)) :
    (eqGuard op t x y a b).run P w = .ok () w := by
  unfold eqGuard
  cases op <;> simp only [] <;> (try rfl)
  all_goals
    cases a <;> (try rfl) <;> cases b <;> (try rfl)
    · exact absurd ⟨rfl, rfl⟩ h1
    · exact absurd ⟨rfl, rfl⟩ (h2 _ _)
theorem snd_un {op : UnOp} {v : Value} {x y : V} (hv : Rep M ι v x) (hx : evUn op x = some y) : ∃ u, (Op.unary op v).run P w = .ok u w ∧ Rep M ι u y := by
  unfold evUn at hx
  split at hx
  · cases hx; cases hv.inv_int; exact ⟨_, rfl, .int _ _⟩
  · cases hx; cases hv.inv_int; exact ⟨_, rfl, .int _ _⟩
  · cases hx; cases hv.inv_bool; exact ⟨_, rfl, .bool _⟩
  · cases hx
theorem bytes_toList (s : ByteArray) : s.toList = s.data.toList := ByteArray.toList_eq s
theorem bytesLess_eq : ∀ (a b : List UInt8), Op.bytesLess a b = bytesLess a b
  | _, [] => by cases ‹List UInt8› <;> rfl
  | [], _ :: _ => rfl
  | a :: x, b :: y => by simp only [Op.bytesLess, bytesLess, bytesLess_eq x y]
theorem beq_decide (a b : List UInt8) : (a == b) = decide (a = b) := by
  rw [Bool.eq_iff_iff]; simp
theorem snd_str {op : BinOp} {va vb : ByteArray} {y : V} (hx : eB op .no (.str va.data.toList) (.str vb.data.toList) = some y) :
    ∃ u, (Op.stringOp op va vb).run P w = .ok u w ∧ Rep M ι u y := by
  have hl : ∀ s : ByteArray, s.data.toList.length = s.size := fun s => Array.length_toList
  unfold Op.stringOp
  simp only [bytes_toList, bytesLess_eq, beq_decide]
  cases op <;> simp only [eB] at hx <;> (try cases hx)
  · split at hx
    · rename_i hle
      cases hx
      refine ⟨.string (va ++ vb), ?_, .str _ _ (by rw [ByteArray.data_append, Array.toList_append])⟩
      rw [if_neg]
      · rfl
      · rw [hl, hl] at hle
        unfold strMax at hle
        show ¬ (((va.size + vb.size : Nat) : Int) > 9223372036854775807)
        omega
    · cases hx
  all_goals exact ⟨_, rfl, .bool _⟩
theorem snd_int {op : BinOp} {t : TypeId} {k j : IntKind} {a b : Int} {e : EqK} {y : V} (hx : eB op e (.int k a) (.int j b) = some y) :
    ∃ u, (binOp op t (.int k a) (.int j b)).run P w = .ok u w ∧ Rep M ι u y := by
  unfold eB at hx
  simp only at hx
  cases op <;> simp only [] at hx
  case shl =>
    split at hx
    · cases hx
    · rename_i hb
      cases hx
      refine ⟨_, ?_, .int _ _⟩
      simp only [binOp, Op.shift, hb, if_false]
      rfl
  case shr =>
    split at hx
    · cases hx
    · rename_i hb
      cases hx
      refine ⟨_, ?_, .int _ _⟩
      simp only [binOp, Op.shift, hb, if_false]
      rfl
  case quo =>
    split at hx
    · rename_i hk; subst hk
      split at hx
      · cases hx
      · rename_i hb
        cases hx
        refine ⟨_, ?_, .int _ _⟩
        simp only [binOp, Op.intDiv, ne_eq, not_true_eq_false, if_false, hb]
        rfl
    · cases hx
  case rem =>
    split at hx
    · rename_i hk; subst hk
      split at hx
      · cases hx
      · rename_i hb
        cases hx
        refine ⟨_, ?_, .int _ _⟩
        simp only [binOp, Op.intDiv, ne_eq, not_true_eq_false, if_false, hb]
        rfl
    · cases hx
  all_goals
    split at hx
    · rename_i hk; subst hk
      cases hx
      refine ⟨_, ?_, by first | exact .int _ _ | exact .bool _⟩
      simp only [binOp, Op.intArith, Op.intBits, Op.intCmp, ne_eq, not_true_eq_false, if_false]
      rfl
    · cases hx
theorem snd_eqV {t : TypeId} {va vb : Value} {x y : V} {k : EqK} {b : Bool} (hk : (P.underlying t).bind kindOf = some k) (ha : Rep M ι va x) (hb : Rep M ι vb y) (hx : eqV k x y = some b) :
    (Op.equal t va vb).run P w = .ok b w := by
  rw [Option.bind_eq_some_iff] at hk
  obtain ⟨d, ht, hd⟩ := hk
  suffices h : ∀ d0, (Op.equalIn (d0 + 1) t va vb).run P w = .ok b w from h 9999
  intro d0
  unfold eqV at hx
  split at hx <;> (try (cases d <;> cases hd; done)) <;> (try (cases hx; done)) <;> cases hx <;> cases ha <;> cases hb <;> cases d <;> (try (cases hd; done)) <;>
    (simp only [Op.equalIn, sem_bind_run, run_underlying ht, Result.andThen]; rfl)
def Val (ag : Bool) (us : List Value) (v : Value) : Prop := if ag then v = .agg us.toArray else us = [v]
theorem run_partVal {t : TypeId} {ag : Bool} {n off : Nat} {us : List Value} (hag : agOf P t = some ag) (hsz : szOf P t = some n) (h1 : ag = false → n = 1) (hle : off + n ≤ us.length) :
    ∃ v, (Go.part t us.toArray off).run P w = .ok v w ∧ Val ag ((us.drop off).take n) v := by
  cases ag with
  | true =>
    refine ⟨.agg (us.toArray.extract off (off + n)), ?_, ?_⟩
    · unfold Go.part
      simp only [sem_bind_run, run_isAgg hag, run_sizeOf hsz, Result.andThen, if_true]
      rfl
    · unfold Val
      rw [if_pos rfl]
      congr 1
      apply Array.ext'
      rw [Array.toList_extract, List.extract_eq_take_drop]
      simp
  | false =>
    have h1 := h1 rfl
    subst h1
    have hlt : off < us.length := by omega
    refine ⟨us[off], ?_, ?_⟩
    · unfold Go.part
      simp only [sem_bind_run, run_isAgg hag, Result.andThen, Bool.false_eq_true, if_false]
      rw [show us.toArray[off]? = some us[off] by simp [hlt]]
      rfl
    · unfold Val
      rw [if_neg (by simp), List.drop_eq_getElem_cons hlt]
      rfl
theorem eqCells_len : ∀ {ks : List CK} {cs ds : List V} {b : Bool}, eqCells ks cs ds = some b → cs.length = ks.length ∧ ds.length = ks.length
  | [], [], [], _, _ => ⟨rfl, rfl⟩
  | k :: ks, c :: cs, d :: ds, b, h => by
    simp only [eqCells, Option.bind_eq_bind, Option.bind_eq_some_iff] at h
    obtain ⟨_, _, b', hb', _⟩ := h
    have := eqCells_len hb'
    simp [this.1, this.2]
  | [], _ :: _, _, _, h => by simp [eqCells] at h
  | [], [], _ :: _, _, h => by simp [eqCells] at h
  | _ :: _, [], _, _, h => by simp [eqCells] at h
  | _ :: _, _ :: _, [], _, h => by simp [eqCells] at h
theorem eqCells_append : ∀ {k r : List CK} {cs ds : List V} {b : Bool}, eqCells (k ++ r) cs ds = some b →
    ∃ b1 b2, eqCells k (cs.take k.length) (ds.take k.length) = some b1 ∧ eqCells r (cs.drop k.length) (ds.drop k.length) = some b2 ∧ b = (b1 && b2)
  | [], r, cs, ds, b, h => ⟨true, b, by simp [eqCells], by simpa using h, by simp⟩
  | x :: k, r, c :: cs, d :: ds, b, h => by
    simp only [List.cons_append, eqCells, Option.bind_eq_bind, Option.bind_eq_some_iff] at h
    obtain ⟨a, ha, b', hb', he⟩ := h
    obtain ⟨b1, b2, h1, h2, rfl⟩ := eqCells_append hb'
    refine ⟨a && b1, b2, by simp [eqCells, ha, h1], by simpa using h2, ?_⟩
    simp at he
    rw [← he, Bool.and_assoc]
  | _ :: _, _, [], _, _, h => by simp [eqCells] at h
  | _ :: _, _, _ :: _, [], _, h => by simp [eqCells] at h
theorem eqFields_run {ks : TypeId → Option (List CK)} {d : Nat}
    (ih : ∀ (t : TypeId) (k : List CK) (ag : Bool) (us us' : List Value) (cs ds : List V) (v v' : Value) (b : Bool), ks t = some k → agOf P t = some ag → (ag = false → k.length = 1) → Val ag us v → Val ag us' v' → Reps M ι us cs → Reps M ι us' ds → eqCells k cs ds = some b →
      (Op.equalIn d t v v').run P w = .ok b w) (hks : ∀ t k, ks t = some k → ∃ ag, agOf P t = some ag ∧ (ag = false → k.length = 1)) :
    ∀ (fs : List Field) (off : Nat) (r : List CK) (us us' : List Value) (cs ds : List V) (b : Bool), fieldsKs P ks fs off = some r → Reps M ι us cs → Reps M ι us' ds → off ≤ us.length → off ≤ us'.length →
      eqCells r (cs.drop off) (ds.drop off) = some b → (Op.eqFields d us.toArray us'.toArray fs).run P w = .ok b w
  | [], off, r, us, us', cs, ds, b, hf, hr, hr', _, _, hb => by
    simp only [fieldsKs] at hf
    cases hf
    have hl := eqCells_len hb
    have h1 : cs.drop off = [] := List.length_eq_zero_iff.1 hl.1
    have h2 : ds.drop off = [] := List.length_eq_zero_iff.1 hl.2
    rw [h1, h2] at hb
    simp only [eqCells] at hb
    cases hb
    rfl
  | f :: fs, off, r, us, us', cs, ds, b, hf, hr, hr', hle, hle', hb => by
    simp only [fieldsKs] at hf
    split at hf
    · rename_i hcond
      obtain ⟨hname, hoff⟩ := hcond
      split at hf
      · rename_i k hk
        split at hf
        · rename_i hsz
          split at hf
          · rename_i r' hr''
            cases hf
            obtain ⟨ag, hag, hone⟩ := hks _ _ hk
            obtain ⟨b1, b2, e1, e2, rfl⟩ := eqCells_append hb
            have hl := eqCells_len e1
            have hl1 : off + k.length ≤ us.length := by have h0 := hr.1; have := hl.1; rw [List.length_take, List.length_drop] at this; omega
            have hl2 : off + k.length ≤ us'.length := by have h0 := hr'.1; have := hl.2; rw [List.length_take, List.length_drop] at this; omega
            obtain ⟨v, hv, hval⟩ := run_partVal (P := P) (w := w) hag hsz hone hl1
            obtain ⟨v', hv', hval'⟩ := run_partVal (P := P) (w := w) hag hsz hone hl2
            have h1 := ih f.type k ag _ _ _ _ v v' b1 hk hag hone hval hval' ((hr.drop off).take k.length) ((hr'.drop off).take k.length) e1
            have h2 := eqFields_run ih hks fs (off + k.length) r' us us' cs ds b2 hr'' hr hr' hl1 hl2 (by rw [List.drop_drop, List.drop_drop] at e2; exact e2)
            unfold Op.eqFields
            rw [if_pos hname]
            subst hoff
            simp only [sem_bind_run, hv, hv', h1, Result.andThen]
            cases b1
            · rfl
            · simp only [Bool.not_true, Bool.false_eq_true, if_false, h2, Bool.true_and]
          · cases hf
        · cases hf
      · cases hf
    · cases hf
theorem eqCellK_b {x y : V} {b : Bool} (h : eqCellK .b x y = some b) : ∃ a c, x = .bool a ∧ y = .bool c ∧ b = (a == c) := by
  cases x <;> (try (cases h; done))
  cases y <;> (try (cases h; done))
  cases h; exact ⟨_, _, rfl, rfl, rfl⟩
theorem eqCellK_i {x y : V} {b : Bool} (h : eqCellK .i x y = some b) : ∃ k a c, x = .int k a ∧ y = .int k c ∧ b = (a == c) := by
  cases x <;> (try (cases h; done))
  cases y <;> (try (cases h; done))
  simp only [eqCellK] at h
  split at h
  · rename_i hk; subst hk; cases h; exact ⟨_, _, _, rfl, rfl, rfl⟩
  · cases h
theorem eqCellK_s {x y : V} {b : Bool} (h : eqCellK .s x y = some b) : ∃ a c, x = .str a ∧ y = .str c ∧ b = decide (a = c) := by
  cases x <;> (try (cases h; done))
  cases y <;> (try (cases h; done))
  cases h; exact ⟨_, _, rfl, rfl, rfl⟩
theorem plainKs_ag : ∀ (n : Nat) (t : TypeId) (k : List CK), plainKs P n t = some k → ∃ ag, agOf P t = some ag ∧ (ag = false → k.length = 1)
  | 0, t, k, h => by simp [plainKs] at h
  | n + 1, t, k, h => by
    unfold plainKs at h
    unfold agOf
    split at h <;> (try (cases h; done))
    · rename_i hu; cases h; exact ⟨false, by rw [hu]; rfl, fun _ => rfl⟩
    · rename_i hu; cases h; exact ⟨false, by rw [hu]; rfl, fun _ => rfl⟩
    · rename_i hu; cases h; exact ⟨false, by rw [hu]; rfl, fun _ => rfl⟩
    · rename_i hu; exact ⟨true, by rw [hu]; rfl, fun h => by cases h⟩
theorem eq_plain : ∀ (n : Nat) (d : Nat) (t : TypeId) (k : List CK) (ag : Bool) (us us' : List Value) (cs ds : List V) (v v' : Value) (b : Bool), plainKs P n t = some k → agOf P t = some ag → (ag = false → k.length = 1) →
    Val ag us v → Val ag us' v' → Reps M ι us cs → Reps M ι us' ds → eqCells k cs ds = some b → (Op.equalIn (n + d) t v v').run P w = .ok b w
  | 0, _, t, k, _, _, _, _, _, _, _, _, h, _, _, _, _, _, _, _ => by simp [plainKs] at h
  | n + 1, d, t, k, ag, us, us', cs, ds, v, v', b, h, hag, hone, hv, hv', hr, hr', hb => by
    have one : ∀ {c : CK}, k = [c] → ag = false → ∃ x y, us = [v] ∧ us' = [v'] ∧ Rep M ι v x ∧ Rep M ι v' y ∧ eqCellK c x y = some b := by
      intro c hk hag'
      subst hk hag'
      unfold Val at hv hv'
      rw [if_neg (by simp)] at hv hv'
      subst hv hv'
      obtain ⟨hl1, hl2⟩ := eqCells_len hb
      obtain ⟨x, rfl⟩ := List.length_eq_one_iff.1 hl1
      obtain ⟨y, rfl⟩ := List.length_eq_one_iff.1 hl2
      refine ⟨x, y, rfl, rfl, hr.head, hr'.head, ?_⟩
      simp only [eqCells, Option.bind_eq_bind, Option.bind_eq_some_iff] at hb
      obtain ⟨a, ha, b', hb', he⟩ := hb
      cases hb'
      simp at he
      rw [ha, he]
    rw [show n + 1 + d = (n + d) + 1 from by omega]
    unfold plainKs at h
    split at h <;> (try (cases h; done))
    · rename_i hu
      cases h
      obtain ⟨x, y, _, _, hx, hy, he⟩ := one rfl (by unfold agOf at hag; rw [hu] at hag; cases hag; rfl)
      obtain ⟨a, c, rfl, rfl, rfl⟩ := eqCellK_b he
      cases hx.inv_bool; cases hy.inv_bool
      simp only [Op.equalIn, sem_bind_run, run_underlying hu, Result.andThen]
      rfl
    · rename_i kk hu
      cases h
      obtain ⟨x, y, _, _, hx, hy, he⟩ := one rfl (by unfold agOf at hag; rw [hu] at hag; cases hag; rfl)
      obtain ⟨k, a, c, rfl, rfl, rfl⟩ := eqCellK_i he
      cases hx.inv_int; cases hy.inv_int
      simp only [Op.equalIn, sem_bind_run, run_underlying hu, Result.andThen, if_true]
      rfl
    · rename_i hu
      cases h
      obtain ⟨x, y, _, _, hx, hy, he⟩ := one rfl (by unfold agOf at hag; rw [hu] at hag; cases hag; rfl)
      obtain ⟨_, _, rfl, rfl, rfl⟩ := eqCellK_s he
      obtain ⟨sa, rfl, rfl⟩ := hx.inv_str
      obtain ⟨sb, rfl, rfl⟩ := hy.inv_str
      rw [run_equalIn_string w _ t sa sb hu, bytes_toList, bytes_toList, beq_decide]
    · rename_i fs hu
      split at h
      · cases h
      · rename_i hst
        have hag' : ag = true := by unfold agOf at hag; rw [hu] at hag; cases hag; rfl
        subst hag'
        unfold Val at hv hv'
        rw [if_pos rfl] at hv hv'
        subst hv hv'
        have hfo : P.fieldsOf t = fs := by unfold Program.fieldsOf; rw [hu]
        rw [run_equalIn_struct w (n + d) t us.toArray us'.toArray (by rw [hfo]; exact hu) (by simpa using hst), hfo]
        exact eqFields_run (fun t k ag us us' cs ds v v' b => eq_plain n d t k ag us us' cs ds v v' b) (fun t k hk => plainKs_ag n t k hk) fs.toList 0 k us us' cs ds b h hr hr' (Nat.zero_le _) (Nat.zero_le _) (by simpa using hb)
theorem eqGuard_const {op : BinOp} {t : TypeId} {ox oy : Operand} (h : (isC ox || isC oy) = true) : (eqGuard op t ox oy .nilIface .nilIface).run P w = .ok () w := by
  cases ox <;> cases oy <;> (try (simp [isC] at h; done)) <;> cases op <;> rfl
def cmpOk : Value → Value → Bool
  | .int _ _, .int _ _ | .float _ _, .float _ _ | .complex _ _ _, .complex _ _ _ | .string _, .string _ => false
  | _, _ => true
theorem binOp_eql {t : TypeId} {va vb : Value} (h : cmpOk va vb = true) : binOp .eql t va vb = (do pure (.bool (← Op.equal t va vb))) := by
  cases va <;> cases vb <;> first | rfl | cases h
theorem binOp_neq {t : TypeId} {va vb : Value} (h : cmpOk va vb = true) : binOp .neq t va vb = (do pure (.bool (!(← Op.equal t va vb)))) := by
  cases va <;> cases vb <;> first | rfl | cases h
theorem snd_bin {op : BinOp} {t : TypeId} {ox oy : Operand} {k : EqK} {va vb : Value} {x y z : V} (hc : chkEq P op k t ox oy = true) (ha : Rep M ι va x) (hb : Rep M ι vb y) (hx : eB op k x y = some z) :
    ∃ u, ((do eqGuard op t ox oy va vb; binOp op t va vb : Sem Value)).run P w = .ok u w ∧ Rep M ι u z := by
  by_cases hi : (∃ k a, x = .int k a) ∧ ∃ j b, y = .int j b
  · obtain ⟨⟨kk, a, rfl⟩, j, b, rfl⟩ := hi
    cases ha.inv_int; cases hb.inv_int
    obtain ⟨u, hrun, hu⟩ := snd_int (P := P) (M := M) (ι := ι) (w := w) (t := t) hx
    refine ⟨u, ?_, hu⟩
    rw [sem_bind_run, run_eqGuard_other (fun h => by cases h.1) (fun _ _ h => by cases h.1)]
    exact hrun
  by_cases hs : (∃ a, x = .str a) ∧ ∃ b, y = .str b
  · obtain ⟨⟨a, rfl⟩, b, rfl⟩ := hs
    obtain ⟨sa, rfl, rfl⟩ := ha.inv_str
    obtain ⟨sb, rfl, rfl⟩ := hb.inv_str
    have hx' : eB op .no (.str sa.data.toList) (.str sb.data.toList) = some z := by rw [← hx]; cases op <;> rfl
    obtain ⟨u, hrun, hu⟩ := snd_str (P := P) (M := M) (ι := ι) (w := w) hx'
    refine ⟨u, ?_, hu⟩
    rw [sem_bind_run, run_eqGuard_other (fun h => by cases h.1) (fun _ _ h => by cases h.1)]
    have : binOp op t (.string sa) (.string sb) = Op.stringOp op sa sb := by cases op <;> rfl
    simp only [Result.andThen, this]
    exact hrun
  have hev : ∃ b, eqV k x y = some b ∧ ((op = .eql ∧ z = .bool b) ∨ (op = .neq ∧ z = .bool (!b))) := by
    have : eB op k x y = match op with
        | .eql => (eqV k x y).map V.bool
        | .neq => (eqV k x y).map fun b => .bool (!b)
        | _ => none := by
      unfold eB
      split
      · exact absurd ⟨⟨_, _, rfl⟩, _, _, rfl⟩ hi
      · exact absurd ⟨⟨_, rfl⟩, _, rfl⟩ hs
      · cases op <;> rfl
    rw [this] at hx
    cases op <;> (try (cases hx; done))
    · simp only [Option.map_eq_some_iff] at hx
      obtain ⟨b, hb, rfl⟩ := hx
      exact ⟨b, hb, .inl ⟨rfl, rfl⟩⟩
    · simp only [Option.map_eq_some_iff] at hx
      obtain ⟨b, hb, rfl⟩ := hx
      exact ⟨b, hb, .inr ⟨rfl, rfl⟩⟩
  obtain ⟨b, heq, hop⟩ := hev
  have fin : (eqGuard op t ox oy va vb).run P w = .ok () w → (Op.equal t va vb).run P w = .ok b w → cmpOk va vb = true →
      ∃ u, ((do eqGuard op t ox oy va vb; binOp op t va vb : Sem Value)).run P w = .ok u w ∧ Rep M ι u z := by
    intro h1 h2 hn
    rcases hop with ⟨rfl, rfl⟩ | ⟨rfl, rfl⟩
    · refine ⟨.bool b, ?_, .bool _⟩
      rw [sem_bind_run, h1]
      simp only [Result.andThen, binOp_eql hn, sem_bind_run, h2]
      rfl
    · refine ⟨.bool (!b), ?_, .bool _⟩
      rw [sem_bind_run, h1]
      simp only [Result.andThen, binOp_neq hn, sem_bind_run, h2]
      rfl
  have hc' : chkKind P k t ox oy = true := by
    rcases hop with ⟨rfl, _⟩ | ⟨rfl, _⟩ <;> exact hc
  unfold chkKind at hc'
  by_cases hag : ∃ ks, k = .agg ks
  · obtain ⟨ks, rfl⟩ := hag
    simp only [Bool.and_eq_true, decide_eq_true_eq, Bool.not_eq_true'] at hc'
    obtain ⟨⟨h1, h2⟩, h3⟩ := hc'
    cases x <;> (try (cases heq; done))
    cases y <;> (try (cases heq; done))
    rename_i cs ds
    have heq' : eqCells ks cs ds = some b := heq
    cases ha with
    | agg vs _ hl hr =>
      cases hb with
      | agg us _ hl' hr' =>
        refine fin (run_eqGuard_agg w op t ox oy vs us h3) ?_ rfl
        exact eq_plain 20 9980 t ks true vs.toList us.toList cs ds _ _ b h2 h1 (fun e => by cases e) rfl rfl (Rep.agg_iff.1 (.agg vs cs hl hr)) (Rep.agg_iff.1 (.agg us ds hl' hr')) heq'
  · have hk : (P.underlying t).bind kindOf = some k ∧ (k = .ifc → (isC ox || isC oy) = true) := by
      cases k
      case no => cases heq
      case agg ks => exact absurd ⟨ks, rfl⟩ hag
      all_goals
        simp only [Bool.and_eq_true, decide_eq_true_eq] at hc'
        refine ⟨hc'.1, fun e => ?_⟩
        first
          | (cases e; done)
          | simpa using hc'.2
    have hrun := snd_eqV (w := w) hk.1 ha hb heq
    refine fin ?_ hrun ?_
    · by_cases hn : va = .nilIface ∧ vb = .nilIface
      · obtain ⟨rfl, rfl⟩ := hn
        have hkk : k = .ifc := by
          cases ha with
          | any _ => cases k <;> cases heq
          | nili => cases k <;> first | rfl | (cases y <;> cases heq)
        exact eqGuard_const (hk.2 hkk)
      · refine run_eqGuard_other hn fun u v huv => ?_
        obtain ⟨rfl, rfl⟩ := huv
        cases ha with
        | any _ => cases k <;> cases heq
        | agg _ _ _ _ =>
          cases k <;> first | exact hag ⟨_, rfl⟩ | (cases y <;> cases heq)
    · unfold eqV at heq
      split at heq <;> (try (cases heq; done)) <;> cases ha <;> cases hb <;> rfl
end
end Go.Ev
set_option linter.unusedSimpArgs false
set_option linter.unusedVariables false
namespace Go.Ev
open Go
section
variable {P : Program} {M : Mem} {ι : Plc} {X : Nat → Prop} {κ : Own} {w : World} {σ : Objs}
theorem snd_toInt {src dst : TypeId} {k : IntKind} {sd : TypeDesc} {v : Value} {x y : V} (hs : P.underlying src = some sd) (hd : P.underlying dst = some (.int k)) (hv : Rep M ι v x)
    (hx : eC σ (.toInt k) x = some y) : ∃ u, (convert src dst v).run P w = .ok u w ∧ Rep M ι u y := by
  cases x <;> (try (cases hx; done))
  cases hx
  cases hv.inv_int
  refine ⟨_, ?_, .int _ _⟩
  unfold convert
  simp only [sem_bind_run, run_underlying hs, run_underlying hd, Result.andThen]
  rfl
theorem snd_same {src dst : TypeId} {v : Value} {x y : V} (hs : P.underlying src = some .string) (hd : P.underlying dst = some .string) (hv : Rep M ι v x)
    (hx : eC σ .same x = some y) : ∃ u, (convert src dst v).run P w = .ok u w ∧ Rep M ι u y := by
  cases x <;> (try (cases hx; done))
  cases hx
  obtain ⟨s, rfl, rfl⟩ := hv.inv_str
  refine ⟨_, ?_, .str s _ rfl⟩
  unfold convert
  simp only [sem_bind_run, run_underlying hs, run_underlying hd, Result.andThen]
  rfl
theorem snd_intStr {src dst : TypeId} {j : IntKind} {v : Value} {x y : V} (hs : P.underlying src = some (.int j)) (hd : P.underlying dst = some .string) (hv : Rep M ι v x)
    (hx : eC σ .intStr x = some y) : ∃ u, (convert src dst v).run P w = .ok u w ∧ Rep M ι u y := by
  cases x <;> (try (cases hx; done))
  cases hx
  cases hv.inv_int
  refine ⟨_, ?_, .str _ _ rfl⟩
  unfold convert
  simp only [sem_bind_run, run_underlying hs, run_underlying hd, Result.andThen]
  rfl
theorem bytes_foldl : ∀ (ns : List Int) (r : ByteArray), (ns.foldl (fun r n => r.push (UInt8.ofNat n.toNat)) r).data.toList = r.data.toList ++ ns.map fun n => UInt8.ofNat n.toNat
  | [], r => by simp
  | n :: ns, r => by
    simp only [List.foldl_cons, List.map_cons]
    rw [bytes_foldl ns]
    simp [ByteArray.push]
theorem bytesOf_ints : ∀ {xs : List V} {bs : List UInt8}, bytesOf xs = some bs → ∃ ns : List Int, xs = ns.map (V.int .u8) ∧ bs = ns.map fun n => UInt8.ofNat n.toNat
  | [], bs, h => by cases h; exact ⟨[], rfl, rfl⟩
  | x :: xs, bs, h => by
    cases x <;> (try (cases h; done))
    rename_i k n
    cases k <;> (try (cases h; done))
    simp only [bytesOf, Option.bind_eq_bind, Option.bind_eq_some_iff] at h
    obtain ⟨bs', hb, he⟩ := h
    obtain ⟨ns, rfl, rfl⟩ := bytesOf_ints hb
    cases he
    exact ⟨n :: ns, rfl, rfl⟩
theorem reps_ints : ∀ {us : List Value} {ns : List Int}, Reps M ι us (ns.map (V.int .u8)) → us = ns.map (Value.int .u8)
  | [], [], _ => rfl
  | u :: us, n :: ns, h => by
    have h1 := h.head.inv_int
    rw [h1, reps_ints h.tail]
    rfl
  | [], _ :: _, h => by have := h.1; simp at this
  | _ :: _, [], h => by have := h.1; simp at this
theorem flat_ints : ∀ (ns : List Int), (ns.map (V.int .u8)).flatMap V.cells = ns.map (V.int .u8)
  | [] => rfl
  | n :: ns => by simp only [List.map_cons, List.flatMap_cons, flat_ints ns]; rfl
theorem Wd.objOne (h : Wd M ι X κ w σ) {o b : Nat} {cs : List V} (hi : ι o = some b) (ho : Objs.get σ o = some cs) : ∀ c ∈ cs, c.one = true := by
  unfold Objs.get at ho
  obtain ⟨O, hO, hr⟩ := h.obj o b hi
  rw [hO] at ho
  cases O with
  | cells cs' =>
    simp at ho; subst ho
    exact hr.choose_spec.choose_spec.choose_spec.2.2.2.2
  | mp es => cases ho
  | si r pos => cases ho
  | gone => cases ho
theorem one_cells {c : V} (h : c.one = true) : c.cells = [c] := by cases c <;> first | rfl | cases h
theorem part_cells {ag : Bool} {sz off : Nat} {cs : List V} {x : V} (hone : ∀ c ∈ cs, c.one = true) (hx : Ev.part ag sz cs off = some x) : x.cells = ((cs.drop off).take sz).map V.ng ∧ x.cells.length = sz := by
  unfold Ev.part at hx
  cases ag with
  | true =>
    simp only [if_true] at hx
    split at hx
    · cases hx; exact ⟨rfl, by simp [V.cells]; omega⟩
    · cases hx
  | false =>
    simp only [Bool.false_eq_true, if_false] at hx
    split at hx
    · rename_i hsz
      subst hsz
      rw [Option.map_eq_some_iff] at hx
      obtain ⟨c, hc, rfl⟩ := hx
      rw [List.drop_eq_getElem_cons (List.getElem?_eq_some_iff.1 hc).1, (List.getElem?_eq_some_iff.1 hc).2]
      have hc1 := hone c (List.mem_of_getElem? hc)
      rw [one_cells (by rw [V.nogr_one]; exact hc1)]
      exact ⟨rfl, rfl⟩
    · cases hx
theorem chunks_spec {ag : Bool} {sz : Nat} {cs : List V} (hone : ∀ c ∈ cs, c.one = true) : ∀ (n off : Nat) (ys : List V), chunks ag sz cs n off = some ys →
    ys.length = n ∧ ys.flatMap V.cells = ((cs.drop off).take (n * sz)).map V.ng ∧ ∀ y ∈ ys, y.cells.length = sz
  | 0, off, ys, h => by cases h; simp
  | n + 1, off, ys, h => by
    simp only [chunks, Option.bind_eq_bind, Option.bind_eq_some_iff] at h
    obtain ⟨x, hx, xs, hxs, he⟩ := h
    cases he
    obtain ⟨h1, h2, h3⟩ := chunks_spec hone n _ xs hxs
    obtain ⟨hxc, hxl⟩ := part_cells hone hx
    refine ⟨by simp [h1], ?_, fun y hy => ?_⟩
    · simp only [List.flatMap_cons, h2]
      rw [hxc, ← List.map_append, Nat.succ_mul, Nat.add_comm (n * sz) sz, List.take_add, List.drop_drop]
    · rcases List.mem_cons.1 hy with rfl | hy
      · exact hxl
      · exact h3 y hy
theorem row_cells (h : Wd M ι X κ w σ) {v : Value} {x : V} {ys : List V} (hv : Rep M ι v x) (hx : rowOf σ x = some ys) :
    ((∃ a, v = .slice a 0 0) ∧ ys = []) ∨ ∃ b off cap us, v = .slice (some ⟨b, off, none⟩) ys.length cap ∧ Reps M ι us (ys.flatMap V.cells) ∧ CellsAt w b off us := by
  cases x <;> (try (cases hx; done))
  case nils => cases hx; cases hv; exact .inl ⟨⟨_, rfl⟩, rfl⟩
  case sl xs c =>
    cases hx
    rcases hv.inv_sl with ⟨b, off, cap, sz, us, rfl, _, hr, hm, _, _⟩ | ⟨a, rfl, rfl, _⟩
    case inr => exact .inl ⟨⟨_, rfl⟩, rfl⟩
    exact .inr ⟨b, off, cap, us, rfl, hr, h.cells hm⟩
  case hs o off len sz ag =>
    simp only [rowOf, Option.bind_eq_bind, Option.bind_eq_some_iff] at hx
    obtain ⟨cs, hcs, hch⟩ := hx
    obtain ⟨b, cap, rfl, hi, hc⟩ := hv.inv_hs
    obtain ⟨us, hr, hcell⟩ := h.objCells hi hcs
    have hone := h.objOne hi hcs
    obtain ⟨h1, h2, _⟩ := chunks_spec hone len off ys hch
    refine .inr ⟨b, off, cap, (us.drop off).take (len * sz), by rw [h1], ?_, ?_⟩
    · rw [h2]; exact ((hr.drop off).take _).ng
    · have := (hcell.drop off).take (len * sz)
      rwa [Nat.zero_add] at this
theorem run_firstCells {b off n sz cap : Nat} {us : List Value} (hl : us.length = n * sz) (hc : CellsAt w b off us) (len : Nat) :
    (Builtin.firstCells sz n (.slice (some ⟨b, off, none⟩) len cap)).run P w = .ok us.toArray w := by
  unfold Builtin.firstCells
  simp only
  rw [← hl]
  exact run_loadCells b off us hc
theorem snd_bytesStr (h : Wd M ι X κ w σ) {src dst e : TypeId} {v : Value} {x y : V} (hs : P.underlying src = some (.slice e)) (he : P.underlying e = some (.int .u8)) (hd : P.underlying dst = some .string) (hv : Rep M ι v x)
    (hx : eC σ .bytesStr x = some y) : ∃ u, (convert src dst v).run P w = .ok u w ∧ Rep M ι u y := by
  have main : ∀ xs bs, rowOf σ x = some xs → bytesOf xs = some bs → y = .str bs → ∃ u, (convert src dst v).run P w = .ok u w ∧ Rep M ι u y := by
    intro xs bs hrow hb hy
    subst hy
    obtain ⟨ns, rfl, rfl⟩ := bytesOf_ints hb
    rcases row_cells h hv hrow with ⟨⟨a0, rfl⟩, hnil⟩ | ⟨b, off, cap, us, rfl, hr, hc⟩
    · have : ns = [] := by simpa using hnil
      subst this
      refine ⟨.string .empty, ?_, .str _ _ rfl⟩
      rw [run_convert_bytes_string w src dst e a0 0 0 hs he hd]
      cases a0 <;> rfl
    · rw [flat_ints] at hr
      have hus := reps_ints hr
      subst hus
      refine ⟨_, ?_, .str _ _ (bytes_foldl ns ByteArray.empty)⟩
      rw [run_convert_bytes_string w src dst e _ _ _ hs he hd]
      refine run_bytesToString w _ _ _ ns ?_
      have := run_loadCells (P := P) b off _ hc
      rwa [show (ns.map (Value.int .u8)).length = (ns.map (V.int .u8)).length from by simp] at this
  cases x <;> (try (cases hx; done))
  case nils => cases hx; exact main [] [] rfl rfl rfl
  case sl xs c =>
    simp only [eC, Option.map_eq_some_iff] at hx
    obtain ⟨bs, hb, rfl⟩ := hx
    exact main xs bs rfl hb rfl
  case hs o off len sz ag =>
    simp only [eC, Option.bind_eq_bind, Option.bind_eq_some_iff, Option.map_eq_some_iff] at hx
    obtain ⟨xs, hxs, bs, hb, rfl⟩ := hx
    exact main xs bs hxs hb rfl
theorem evConv_N {σ : Objs} {x y : V} (h : eC σ .bytesStrN x = some y) : eC σ .bytesStr x = some y := by
  cases x <;> first | exact h | cases h
theorem snd_lenS {t ty : TypeId} {v : Value} {x y : V} (ht : P.underlying t = some .string) (hv : Rep M ι v x) (hx : evLenS x = some y) :
    ∃ u, (Builtin.len_ #[t] ty #[v]).run P w = .ok u w ∧ Rep M ι u y := by
  cases x <;> (try (cases hx; done))
  cases hx
  obtain ⟨ba, rfl, rfl⟩ := hv.inv_str
  refine ⟨goInt ba.size, ?_, ?_⟩
  · unfold Builtin.len_
    simp only [List.getElem?_toArray, List.getElem?_cons_zero, sem_bind_run, run_underlying ht, Result.andThen]
    rfl
  · have : ((ba.data.toList.length : Nat) : Int) = ba.size := by rw [Array.length_toList]; rfl
    rw [this]; exact .int _ _
theorem snd_len {t ty e : TypeId} {v : Value} {x y : V} (ht : P.underlying t = some (.slice e)) (hv : Rep M ι v x)
    (hx : evLen x = some y) : ∃ u, (Builtin.len_ #[t] ty #[v]).run P w = .ok u w ∧ Rep M ι u y := by
  have run : ∀ a n c, (Builtin.len_ #[t] ty #[.slice a n c]).run P w = .ok (goInt n) w := by
    intro a n c
    unfold Builtin.len_
    simp only [List.getElem?_toArray, List.getElem?_cons_zero, sem_bind_run, run_underlying ht, Result.andThen]
    rfl
  cases x <;> (try (cases hx; done)) <;> cases hx
  · cases hv; exact ⟨goInt 0, run _ _ _, .int _ _⟩
  · rcases hv.inv_sl with ⟨b, off, cap, sz, us, rfl, _⟩ | ⟨a, rfl, rfl, _⟩ <;> exact ⟨_, run _ _ _, .int _ _⟩
  · obtain ⟨b, cap, rfl, _⟩ := hv.inv_hs; exact ⟨_, run _ _ _, .int _ _⟩
theorem snd_mm {mx : Bool} : ∀ {vs : List Value} {xs : List V} {v : Value} {x y : V}, Rep M ι v x → (intOf x).isSome → Reps M ι vs xs → mmInt mx x xs = some y →
    ∃ u, (vs.foldlM (if mx then Builtin.max2 else Builtin.min2) v).run P w = .ok u w ∧ Rep M ι u y
  | [], [], v, x, y, hv, hi, _, hx => by
    simp only [mmInt] at hx
    cases hx
    exact ⟨v, rfl, hv⟩
  | u :: us, z :: zs, v, x, y, hv, hi, hr, hx => by
    cases x <;> (try (cases hx; done)) <;> (try (simp [intOf] at hi; done))
    rename_i k a
    cases z <;> (try (cases hx; done))
    rename_i j b
    simp only [mmInt] at hx
    split at hx
    · rename_i hkj
      subst hkj
      cases hv.inv_int
      have hu := hr.head.inv_int
      subst hu
      obtain ⟨r, hrun, hrep⟩ := snd_mm (mx := mx) (.int k _) rfl hr.tail hx
      refine ⟨r, ?_, hrep⟩
      rw [List.foldlM_cons, sem_bind_run]
      cases mx <;> exact hrun
    · cases hx
  | [], _ :: _, _, _, _, _, _, h, _ => by have := h.1; simp at this
  | _ :: _, [], _, _, _, _, _, h, _ => by have := h.1; simp at this
theorem snd_cutA (h : Wd M ι X κ w σ) {t e : TypeId} {n sz : Nat} {ag : Bool} {v : Value} {p x : V} {lo hi : Option Value} {xlo xhi : Option V} (ht : P.underlying t = some (.array n e)) (hz : szOf P e = some sz)
    (hv : Rep M ι v p) (h1 : RepO M ι lo xlo) (h2 : RepO M ι hi xhi) (hx : evCutA n sz ag p xlo xhi = some x) :
    ∃ u, (Instr.sliceAt t v lo hi none).run P w = .ok u w ∧ Rep M ι u x := by
  unfold evCutA at hx
  simp only [Option.bind_eq_bind, Option.bind_eq_some_iff] at hx
  obtain ⟨⟨l, hh, m⟩, hb, hx⟩ := hx
  obtain ⟨hrun, hle, hle2, hm⟩ := run_sliceBounds (P := P) (w := w) (isSlice := false) (mx := none) (xmx := none) (Nat.le_refl n) h1 h2 trivial (by simp) hb
  have hmn : m = none := by
    cases m with
    | none => rfl
    | some k =>
      exfalso
      unfold bounds at hb
      simp only [Option.bind_eq_bind, Option.bind_some, Option.getD_none] at hb
      cases xhi <;> cases xlo <;> simp [Option.bind_eq_some_iff] at hb
  subst hmn
  simp only [Option.getD_none] at hrun
  have start : ∀ a, v = .pointer (some a) → (Instr.sliceAt t v lo hi none).run P w = .ok (.slice (some (if n = l then a else a.add (l * sz))) (hh - l) (n - l)) w := by
    intro a ha
    subst ha
    unfold Instr.sliceAt Instr.sureAddr
    simp only [sem_bind_run, run_underlying ht, Result.andThen, sem_pure_run, hrun, run_sizeOf hz]
  cases p <;> (try (cases hx; done))
  case ptr o off =>
    cases hx
    obtain ⟨b, rfl, hib⟩ := hv.inv_ptr
    refine ⟨_, start _ rfl, ?_⟩
    by_cases hlh : l = hh
    · subst hlh
      rw [if_pos rfl, Nat.sub_self]
      by_cases hkl : n = l
      · rw [if_pos hkl]
        exact Rep.sl (M := M) (ι := ι) [] .no b off _ 0 [] (by simp) rfl (by simp) (by simp) (Nat.zero_le _) (fun e => by cases e)
      · rw [if_neg hkl, add_none]
        exact Rep.sl (M := M) (ι := ι) [] .no b _ _ 0 [] (by simp) rfl (by simp) (by simp) (Nat.zero_le _) (fun e => by cases e)
    · rw [if_neg hlh, if_neg (by omega), add_none]
      exact .hs o _ _ sz ag b _ hib (by omega)
  case eptr cs off =>
    simp only [Option.bind_eq_some_iff] at hx
    obtain ⟨xs, hxs, hx⟩ := hx
    split at hx
    · rename_i hok
      cases hx
      have hone : ∀ c ∈ cs, c.one = true := fun c hc => by simpa using List.all_eq_true.1 hok c hc
      obtain ⟨hl1, hflat, hsz⟩ := chunks_spec hone (hh - l) (off + l * sz) xs hxs
      obtain ⟨b, base, us, rfl, hr, hmm⟩ := hv.inv_eptr
      refine ⟨_, start _ rfl, ?_⟩
      have hrr := (((hr.drop (off + l * sz)).take ((hh - l) * sz)).ng)
      rw [← hflat] at hrr
      by_cases hkl : n = l
      · have h0 : hh - l = 0 := by omega
        rw [if_pos hkl]
        have hnil : xs = [] := List.length_eq_zero_iff.1 (by omega)
        subst hnil
        rw [h0]
        exact Rep.sl (M := M) (ι := ι) [] .no b (base + off) _ 0 [] (by simp) rfl (by simp) (by simp) (Nat.zero_le _) (fun e => by cases e)
      · rw [if_neg hkl, add_none, ← hl1]
        refine Rep.sl (M := M) (ι := ι) xs .no b _ _ sz _ hsz hrr.1 (fun i u hu => ?_) hrr.2 (by omega) (fun e => by cases e)
        rw [List.getElem?_take] at hu
        split at hu
        · rw [List.getElem?_drop] at hu
          have := hmm _ u hu
          rwa [show base + (off + l * sz + i) = base + off + l * sz + i from by omega] at this
        · cases hu
    · cases hx
end
end Go.Ev
set_option linter.unusedSimpArgs false
set_option linter.unusedVariables false
namespace Go.Ev
open Go
theorem foldl_layA (off : Nat) : ∀ (vs : List Value) (k : Nat) (cells : Array Value), (vs.zipIdx k).foldl (fun cs (x : Value × Nat) => cs.setIfInBounds (off + x.2) x.1) cells = layA cells (off + k) vs
  | [], _, _ => rfl
  | v :: vs, k, cells => by
    simp only [List.zipIdx_cons, List.foldl_cons, layA]
    rw [foldl_layA off vs (k + 1)]
    rfl
theorem fill_cons (place : Nat → Option (Nat × Nat)) (cells : Array Value) (i : Nat) (v : Value) (rest : List (Nat × Value)) {off sz : Nat} (hp : place i = some (off, sz)) (hs : v.cells.size = sz) (hle : off + sz ≤ cells.size) :
    Instr.fill place cells ((i, v) :: rest) = Instr.fill place (layA cells off v.cells.toList) rest := by
  have h1 : v.cells.zipIdx.foldl (fun cs (x : Value × Nat) => cs.setIfInBounds (off + x.2) x.1) cells = layA cells off v.cells.toList := by
    rw [← Array.foldl_toList, Array.toList_zipIdx]
    exact foldl_layA off v.cells.toList 0 cells
  simp only [Instr.fill, hp]
  rw [if_neg (by simp [hs]; omega)]
  exact congrArg (fun c => Instr.fill place c rest) h1
def chkParts (place : Nat → Option (Nat × Nat)) : List (Nat × Operand) → List (Nat × Nat × Arg) → Bool
  | [], [] => true
  | (i, x) :: xs, (off, sz, y) :: ys => decide (place i = some (off, sz)) && chkArg x y && chkParts place xs ys
  | _, _ => false
def chkPartsSl : List (Nat × Operand) → List (Nat × Arg) → Bool
  | [], [] => true
  | (i, x) :: xs, (j, y) :: ys => i == j && chkArg x y && chkPartsSl xs ys
  | _, _ => false
def placesOf (P : Program) (t : TypeId) : Option (Nat → Option (Nat × Nat)) :=
  match P.underlying t with
  | some (.array _ e) => (P.info? e).map fun ie => fun i => some (i * ie.size, ie.size)
  | some (.struct fields) => (fields.toList.mapM (fun f => (P.info? f.type).map fun i => (f.offset, i.size))).map fun places => fun i => places.toArray[i]?
  | _ => none
def zeroOf (P : Program) (t : TypeId) : Option Value := (P.info? t).bind (·.zero)
def chkBuild (P : Program) (t : TypeId) (z : List V) (ps : List (Nat × Operand)) (qs : List (Nat × Nat × Arg)) : Bool :=
  match zeroOf P t, placesOf P t with
  | some zv, some place => chkCells zv.cells.toList z && chkParts place ps qs
  | _, _ => false
section
variable {P : Program} {M : Mem} {ι : Plc} {X : Nat → Prop} {κ : Own} {w : World} {σ : Objs}
theorem ok_one {cs : List V} (h : okCells cs = true) : ∀ c ∈ cs, c.one = true := fun c hc => by simpa using List.all_eq_true.1 h c hc
theorem reps_lay {us vs : List Value} {cs ds : List V} {off : Nat} (hr : Reps M ι us cs) (hs : Reps M ι vs ds) (hle : off + ds.length ≤ cs.length) :
    Reps M ι (layA us.toArray off vs).toList (putAt cs off ds) := by
  have hl := hr.1
  have hl' := hs.1
  refine ⟨by rw [Array.length_toList, layA_size, putAt_length]; simpa using hl, fun i u c hu hc => ?_⟩
  rw [Array.getElem?_toList, layA_get vs us.toArray off i (by simp; omega)] at hu
  rw [putAt_get cs off ds i hle, ← hl'] at hc
  by_cases hin : off ≤ i ∧ i < off + vs.length
  · rw [if_pos hin] at hu hc; exact hs.2 _ u c hu hc
  · rw [if_neg hin] at hu hc; exact hr.2 i u c (by simpa using hu) hc
theorem fill_lay {r : Operand → Value} {A : Arg → V} (hA : Opd M ι r A) {place : Nat → Option (Nat × Nat)} : ∀ {ps : List (Nat × Operand)} {qs : List (Nat × Nat × Arg)} {us : List Value} {z z' : List V},
    chkParts place ps qs = true → Reps M ι us z → lay z (qs.map fun q => (q.1, q.2.1, A q.2.2)) = some z' →
    ∃ us', Instr.fill place us.toArray (ps.map fun p => (p.1, r p.2)) = some us'.toArray ∧ Reps M ι us' z'
  | [], [], us, z, z', _, hr, hz => by
    simp only [List.map_nil, lay] at hz
    cases hz
    exact ⟨us, rfl, hr⟩
  | (i, x) :: ps, (off, sz, y) :: qs, us, z, z', hc, hr, hz => by
    simp only [chkParts, Bool.and_eq_true, decide_eq_true_eq] at hc
    obtain ⟨⟨h1, h2⟩, h3⟩ := hc
    simp only [List.map_cons, lay] at hz
    split at hz
    · rename_i hcond
      obtain ⟨hlen, hle, hok⟩ := hcond
      have hrx := (hA.ok x y h2).cells (ok_one hok)
      have hsz : (r x).cells.size = sz := by have := hrx.1; simp at this; rw [this]; exact hlen
      have hl := hr.1
      have hreps := reps_lay hr hrx.ng (off := off) (by simp; omega)
      obtain ⟨us', h4, h5⟩ := fill_lay hA h3 hreps hz
      refine ⟨us', ?_, h5⟩
      simp only [List.map_cons]
      rw [fill_cons place us.toArray i (r x) _ h1 hsz (by simp; omega)]
      simpa using h4
    · cases hz
  | [], _ :: _, _, _, _, hc, _, _ => by simp [chkParts] at hc
  | _ :: _, [], _, _, _, hc, _, _ => by simp [chkParts] at hc
theorem snd_build {r : Operand → Value} {A : Arg → V} (hA : Opd M ι r A) {t : TypeId} {z : List V} {ps : Array (Nat × Operand)} {qs : List (Nat × Nat × Arg)} {x : V} (hc : chkBuild P t z ps.toList qs = true)
    (hx : (lay z (qs.map fun (o, s, y) => (o, s, A y))).map V.agg = some x) : ∃ u, (Instr.build t (ps.map fun (i, y) => (i, r y))).run P w = .ok u w ∧ Rep M ι u x := by
  rw [Option.map_eq_some_iff] at hx
  obtain ⟨z', hz, rfl⟩ := hx
  unfold chkBuild at hc
  split at hc
  · rename_i zv place hzv hpl
    simp only [Bool.and_eq_true] at hc
    obtain ⟨us', hf, hr⟩ := fill_lay hA hc.2 (chkCells_reps (M := M) (ι := ι) hc.1).1 hz
    refine ⟨.agg us'.toArray, run_build w t _ _ ?_, Rep.agg_iff.2 hr⟩
    unfold zeroOf at hzv
    rw [Option.bind_eq_some_iff] at hzv
    obtain ⟨it, hit, hzv⟩ := hzv
    have hps : (ps.map fun (i, y) => (i, r y)).toList = ps.toList.map fun p => (p.1, r p.2) := by simp
    unfold placesOf at hpl
    unfold Program.built
    rw [hps, hit]
    split at hpl
    · rename_i n e hu
      rw [hu]
      rw [Option.map_eq_some_iff] at hpl
      obtain ⟨ie, hie, rfl⟩ := hpl
      simp only [hzv, hie]
      exact hf
    · rename_i fields hu
      rw [hu]
      rw [Option.map_eq_some_iff] at hpl
      obtain ⟨places, hpp, rfl⟩ := hpl
      simp only [hzv, hpp]
      exact hf
    · cases hpl
  · cases hc
theorem set_flat {xs : List V} {sz i : Nat} {y : V} (hs : ∀ x ∈ xs, x.cells.length = sz) (hy : y.cells.length = sz) (hi : i < xs.length) : (xs.set i y).flatMap V.cells = putAt (xs.flatMap V.cells) (i * sz) y.cells := by
  have hs2 : ∀ x ∈ xs.set i y, x.cells.length = sz := fun x hx => by
    rcases List.mem_or_eq_of_mem_set hx with h | rfl
    · exact hs x h
    · exact hy
  have hl := flat_len hs
  have hle : i * sz + sz ≤ xs.length * sz := by rw [← Nat.succ_mul]; exact Nat.mul_le_mul_right _ hi
  apply List.ext_getElem?
  intro j
  rw [putAt_get _ _ _ j (by rw [hy, hl]; exact hle), hy]
  by_cases hsz : sz = 0
  · subst hsz
    have h1 : (xs.set i y).flatMap V.cells = [] := List.length_eq_zero_iff.1 (by rw [flat_len hs2]; simp)
    have h2 : xs.flatMap V.cells = [] := List.length_eq_zero_iff.1 (by rw [hl]; simp)
    rw [h1, h2, if_neg (by omega)]
  have hget : ∀ (zs : List V), (∀ x ∈ zs, x.cells.length = sz) → (zs.flatMap V.cells)[j]? = (zs[j / sz]?).bind fun x => x.cells[j % sz]? := by
    intro zs hz
    by_cases hj : j / sz < zs.length
    · have he := List.getElem?_eq_getElem hj
      have := flat_get hz he
      have hm := Nat.mod_lt j (Nat.pos_of_ne_zero hsz)
      rw [he, Option.bind_some, ← this, List.getElem?_take, if_pos hm, List.getElem?_drop]
      congr 1
      rw [Nat.mul_comm]; exact (Nat.div_add_mod j sz).symm
    · rw [List.getElem?_eq_none (Nat.not_lt.1 hj), Option.bind_none, List.getElem?_eq_none]
      rw [flat_len hz]
      have h1 := Nat.not_lt.1 hj
      have h2 := Nat.div_mul_le_self j sz
      exact Nat.le_trans (Nat.mul_le_mul_right _ h1) h2
  rw [hget _ hs2, hget _ hs]
  by_cases hin : i * sz ≤ j ∧ j < i * sz + sz
  · rw [if_pos hin]
    have hd : j / sz = i := by
      apply Nat.div_eq_of_lt_le
      · exact hin.1
      · rw [Nat.succ_mul]; exact hin.2
    have hm : j % sz = j - i * sz := by
      have := Nat.div_add_mod j sz
      rw [hd, Nat.mul_comm] at this
      omega
    rw [hd, List.getElem?_set_self hi, Option.bind_some, hm]
  · rw [if_neg hin]
    have hd : j / sz ≠ i := by
      intro e
      apply hin
      subst e
      have := Nat.div_add_mod j sz
      have hm := Nat.mod_lt j (Nat.pos_of_ne_zero hsz)
      rw [Nat.mul_comm] at this
      omega
    rw [List.getElem?_set_ne (Ne.symm hd)]
theorem fill_laySl {r : Operand → Value} {A : Arg → V} (hA : Opd M ι r A) {sz : Nat} : ∀ {ps : List (Nat × Operand)} {qs : List (Nat × Arg)} {us : List Value} {z z' : List V},
    chkPartsSl ps qs = true → (∀ x ∈ z, x.cells.length = sz) → Reps M ι us (z.flatMap V.cells) → laySl sz z (qs.map fun q => (q.1, A q.2)) = some z' →
    ∃ us', Instr.fill (fun i => some (i * sz, sz)) us.toArray (ps.map fun p => (p.1, r p.2)) = some us'.toArray ∧ Reps M ι us' (z'.flatMap V.cells) ∧ z'.length = z.length ∧ ∀ x ∈ z', x.cells.length = sz
  | [], [], us, z, z', _, hs, hr, hz => by
    simp only [List.map_nil, laySl] at hz
    cases hz
    exact ⟨us, rfl, hr, rfl, hs⟩
  | (i, x) :: ps, (j, y) :: qs, us, z, z', hc, hs, hr, hz => by
    simp only [chkPartsSl, Bool.and_eq_true, beq_iff_eq] at hc
    obtain ⟨⟨rfl, h2⟩, h3⟩ := hc
    simp only [List.map_cons, laySl] at hz
    split at hz
    · rename_i hcond
      obtain ⟨hlen, hlt, hok⟩ := hcond
      have hrx := (hA.ok x y h2).cells (ok_one hok)
      have hsz : (r x).cells.size = sz := by have := hrx.1; simp at this; rw [this]; exact hlen
      have hl := hr.1
      rw [flat_len hs] at hl
      have hle : i * sz + sz ≤ z.length * sz := by rw [← Nat.succ_mul]; exact Nat.mul_le_mul_right _ hlt
      have hny : (A y).ng.cells = (A y).cells ∨ ∃ q, (A y).cells = [q] ∧ (A y).ng.cells = [q.ng] := by
        cases A y <;> first | exact .inl rfl | exact .inr ⟨_, rfl, rfl⟩
      have hrx' : Reps M ι (r x).cells.toList (A y).ng.cells := by
        rcases hny with h | ⟨q, h1, h2⟩
        · rw [h]; exact hrx
        · rw [h2]; rw [h1] at hrx; exact hrx.ng
      have hnl : (A y).ng.cells.length = sz := by rw [V.nogr_cells_length]; exact hlen
      have hreps := reps_lay hr hrx' (off := i * sz) (by rw [hnl, flat_len hs]; exact hle)
      rw [← set_flat hs hnl hlt] at hreps
      obtain ⟨us', h4, h5, h6, h7⟩ := fill_laySl hA h3 (fun q hq => by
        rcases List.mem_or_eq_of_mem_set hq with h | rfl
        · exact hs q h
        · exact hnl) hreps hz
      refine ⟨us', ?_, h5, by simpa using h6, h7⟩
      simp only [List.map_cons]
      rw [fill_cons _ us.toArray i (r x) _ rfl hsz (by simp; omega)]
      simpa using h4
    · cases hz
  | [], _ :: _, _, _, _, hc, _, _, _ => by simp [chkPartsSl] at hc
  | _ :: _, [], _, _, _, hc, _, _, _ => by simp [chkPartsSl] at hc
theorem zeros_flat {zv : List Value} {z : V} {n : Nat} (hr : Reps M ι zv z.cells) (h0 : zv.length ≠ 0) :
    Reps M ι ((Array.range (n * zv.length)).map (zv.toArray[· % zv.length]!)).toList ((List.replicate n z).flatMap V.cells) := by
  have hs : ∀ x ∈ List.replicate n z, x.cells.length = zv.length := fun x hx => by rw [List.eq_of_mem_replicate hx]; exact hr.1.symm
  refine ⟨by simp [flat_len hs], fun i u c hu hc => ?_⟩
  have hi : i < n * zv.length := by
    have := (List.getElem?_eq_some_iff.1 hc).1
    rw [flat_len hs] at this
    simpa using this
  have hm := Nat.mod_lt i (Nat.pos_of_ne_zero h0)
  have hu' : u = zv[i % zv.length] := by
    simp [hi] at hu
    rw [← hu]
    simp [hm]
  have hd : i / zv.length < n := Nat.div_lt_of_lt_mul (by rw [Nat.mul_comm]; exact hi)
  have he : (List.replicate n z)[i / zv.length]? = some z := by simp [hd]
  have hg := flat_get hs he
  have hc' : z.cells[i % zv.length]? = some c := by
    rw [← hg, List.getElem?_take, if_pos hm, List.getElem?_drop]
    rw [← hc]
    congr 1
    rw [Nat.mul_comm]; exact Nat.div_add_mod i zv.length
  exact hr.2 _ u c (by rw [hu']; exact List.getElem?_eq_getElem hm) hc'
end
end Go.Ev
set_option linter.unusedSimpArgs false
set_option linter.unusedVariables false
namespace Go.Ev
open Go
def putL (us : List Value) (d : Option Nat) (v : Value) : List Value :=
  match d with
  | some d => us.set d v
  | none => us
theorem put_toList (a : Act) (d : Option Nat) (v : Value) : (a.put d v).tmps.toList = putL a.tmps.toList d v := by
  cases d <;> simp [Act.put, putL]
section
variable {P : Program} {M : Mem} {ι : Plc} {X : Nat → Prop} {κ : Own} {w : World} {us : List Value} {ρ : List V} {σ : Objs}
theorem St.putNone (h : St M ι X κ w us ρ σ) {v : Value} {x : V} (hr : Rep M ι v x) (ho : ownB v x = none) (d : Option Nat) : St M ι X κ w (putL us d v) (put ρ d x) σ := by
  cases d with
  | none => exact h
  | some d => exact h.setSlot hr ho d
theorem St.putOwn (h : St M ι X κ w us ρ σ) {v : Value} {x : V} (hr : Rep M ι v x) (ho : ∀ b, ownB v x = some b → Free M ι X κ w b ∧ GrOK M w v x) (d : Option Nat) : ∃ κ', St M ι X κ' w (putL us d v) (put ρ d x) σ := by
  cases d with
  | none => exact ⟨κ, h⟩
  | some d =>
    cases hb : ownB v x with
    | none => exact ⟨κ, h.setSlot hr hb d⟩
    | some b => exact h.giveSlot hr hb (ho b hb).1 (ho b hb).2 d
theorem St.putRow (h : St M ι X κ w us ρ σ) (ars : Array Value) (T : TypeId) (fz : Nat × Nat) (xs : List V) (c : Cap) (cap sz : Nat)
    (hr : Reps M ι (ars.toList.take (xs.flatMap V.cells).length) (xs.flatMap V.cells)) (hs : ∀ y ∈ xs, y.cells.length = sz) (hcap : xs.length ≤ cap) (hfx : c = .fx → cap = xs.length)
    (hgr : ∀ s, c = .gr s → s = sz ∧ cap * sz ≤ ars.size ∧ ∀ i, (xs.flatMap V.cells).length ≤ i → i < ars.size → frozenAt fz i = false) (d : Option Nat) :
    ∃ M' κ', Ext X M ι w M' ι (pushB w (.cells ars T fz)) ∧ St M' ι X κ' (pushB w (.cells ars T fz)) (putL us d (.slice (some ⟨w.heap.size, 0, none⟩) xs.length cap)) (put ρ d (.sl xs c)) σ := by
  cases d with
  | some d => obtain ⟨M', κ', h1, h2, _⟩ := h.newRow ars T fz xs c cap sz hr hs hcap hfx hgr d; exact ⟨M', κ', h1, h2⟩
  | none =>
    refine ⟨pushM M w.heap.size (ars.toList.take (xs.flatMap V.cells).length), κ, Ext.push h.wd _ _, h.push _ _ (fun i u hu => ⟨ars, T, fz, rfl, ?_⟩)⟩
    rw [List.getElem?_take] at hu
    split at hu
    · simpa using hu
    · cases hu
theorem okRow_spec {ag : Bool} {sz : Nat} {ys : List V} (h : okRow ag sz ys = true) : (∀ y ∈ ys, y.cells.length = sz) ∧ (∀ y ∈ ys, ∀ c ∈ y.cells, c.one = true) ∧ ∀ y ∈ ys, agOk ag y = true := by
  unfold okRow at h
  refine ⟨fun y hy => ?_, fun y hy => ?_, fun y hy => ?_⟩ <;> have := List.all_eq_true.1 h y hy <;> simp only [Bool.and_eq_true, decide_eq_true_eq] at this
  · exact this.1.1
  · exact ok_one this.1.2
  · exact this.2
theorem okRow_flat {ag : Bool} {sz : Nat} {ys : List V} (h : okRow ag sz ys = true) : ∀ c ∈ ys.flatMap V.cells, c.one = true := fun c hc => by
  obtain ⟨y, hy, hcy⟩ := List.mem_flatMap.1 hc
  exact (okRow_spec h).2.1 y hy c hcy
def chkZero (P : Program) (e : TypeId) (z : V) : Bool :=
  match zeroOf P e with
  | some zv => chkCells zv.cells.toList z.cells
  | none => false
def chkElem (P : Program) (t : TypeId) (ag : Bool) (sz : Nat) : Option TypeId :=
  match P.underlying t with
  | some (.slice e) => if chkTy P e ag sz then some e else none
  | _ => none
theorem chkElem_spec {t e : TypeId} {ag : Bool} {sz : Nat} (h : chkElem P t ag sz = some e) : P.underlying t = some (.slice e) ∧ chkTy P e ag sz = true := by
  unfold chkElem at h
  split at h
  · split at h
    · cases h; exact ⟨‹_›, ‹_›⟩
    · cases h
  · cases h
theorem szOf_info {e : TypeId} {sz : Nat} (h : szOf P e = some sz) : ∃ i, P.info? e = some i ∧ i.size = sz := by
  unfold szOf at h
  rw [Option.map_eq_some_iff] at h
  exact h
theorem chkTy_sz {e : TypeId} {ag : Bool} {sz : Nat} (h : chkTy P e ag sz = true) : szOf P e = some sz := by
  simp only [chkTy, Bool.and_eq_true, beq_iff_eq] at h; exact h.1.2
theorem zero_row {e : TypeId} {z : V} {sz n : Nat} (hz : chkZero P e z = true) (hsz : szOf P e = some sz) (hzl : z.cells.length = sz) (hpos : sz ≠ 0) :
    ∃ i zv, P.info? e = some i ∧ i.size = sz ∧ i.zero = some zv ∧ zv.cells.size = sz ∧ Reps M ι ((Array.range (n * sz)).map (zv.cells[· % zv.cells.size]!)).toList ((List.replicate n z).flatMap V.cells) := by
  unfold chkZero at hz
  split at hz
  · rename_i zv hzv
    unfold zeroOf at hzv
    rw [Option.bind_eq_some_iff] at hzv
    obtain ⟨i, hi, hiz⟩ := hzv
    obtain ⟨i', hi', his⟩ := szOf_info hsz
    rw [hi] at hi'; cases hi'
    have hr := (chkCells_reps (M := M) (ι := ι) hz).1
    have hl : zv.cells.size = sz := by
      have := hr.1
      rw [Array.length_toList] at this
      rw [this]; exact hzl
    refine ⟨i, zv, hi, his, hiz, hl, ?_⟩
    have := zeros_flat (n := n) hr (by rw [Array.length_toList, hl]; exact hpos)
    simpa [hl] using this
  · cases hz
theorem snd_buildSl (h : St M ι X κ w us ρ σ) {r : Operand → Value} {A : Arg → V} (hA : Opd M ι r A) {t e : TypeId} {ag : Bool} {sz len : Nat} {z : V} {ps : Array (Nat × Operand)} {qs : List (Nat × Arg)} {xs : List V}
    (ht : chkElem P t ag sz = some e) (hz : len = 0 ∨ chkZero P e z = true ∧ z.cells.length = sz) (hpos : sz ≠ 0) (hsmall : len * sz ≤ 16777216) (hps : chkPartsSl ps.toList qs = true)
    (hx : laySl sz (List.replicate len z) (qs.map fun (i, y) => (i, A y)) = some xs) :
    ∃ ars, (Instr.buildSlice t len (ps.map fun (i, y) => (i, r y))).run P w = .ok (.slice (some ⟨w.heap.size, 0, none⟩) len len) (pushB w (.cells ars e (0, 0))) ∧
      Reps M ι ars.toList (xs.flatMap V.cells) ∧ xs.length = len ∧ ∀ y ∈ xs, y.cells.length = sz := by
  obtain ⟨hu, hty⟩ := chkElem_spec ht
  have hsz := chkTy_sz hty
  have hpl : (ps.map fun (i, y) => (i, r y)).toList = ps.toList.map fun p => (p.1, r p.2) := by simp
  by_cases hlen : len = 0
  · subst hlen
    obtain ⟨i, hi, his⟩ := szOf_info hsz
    have hnil : ps.toList = [] ∧ qs = [] := by
      cases qs with
      | nil =>
        cases hpp : ps.toList with
        | nil => exact ⟨rfl, rfl⟩
        | cons a b => rw [hpp] at hps; simp [chkPartsSl] at hps
      | cons q qs =>
        simp only [List.replicate_zero, List.map_cons, laySl] at hx
        rw [if_neg (by simp)] at hx
        cases hx
    obtain ⟨hn1, rfl⟩ := hnil
    simp only [List.replicate_zero, List.map_nil, laySl] at hx
    cases hx
    refine ⟨#[], ?_, by exact Reps.nil, rfl, by simp⟩
    unfold Instr.buildSlice
    simp only [sem_bind_run, run_underlying hu, run_sizeOf hsz, Result.andThen, Nat.zero_mul]
    rw [if_neg (by decide)]
    simp [sem_bind_run, sem_pure_run, Result.andThen, hpl, hn1, Instr.fill, newRow, newObj, Sem.run, pushB, Array.range_zero']
  · obtain ⟨hz1, hz2⟩ := hz.resolve_left hlen
    obtain ⟨i, zv, hi, his, hiz, hzs, hreps⟩ := zero_row (M := M) (ι := ι) (n := len) hz1 hsz hz2 hpos
    obtain ⟨us', hf, hr, hl, hs⟩ := fill_laySl hA hps (fun x hx => by rw [List.eq_of_mem_replicate hx]; exact hz2) hreps hx
    refine ⟨us'.toArray, ?_, by simpa using hr, by simpa using hl, hs⟩
    have := run_buildSlice (P := P) w t e len (ps.map fun (i, y) => (i, r y)) us'.toArray i zv hu hi hiz (by rw [his]; omega) (by rw [his]; exact Nat.mul_ne_zero hlen hpos) (by
      rw [his, hpl]
      rw [Array.toArray_toList] at hf
      exact hf)
    exact this
end
end Go.Ev
set_option linter.unusedSimpArgs false
set_option linter.unusedVariables false
namespace Go.Ev
open Go
theorem one' {v : Value} (h : v.oneCell = true) : v.oneCell' = true := by cases v <;> first | rfl | cases h
section
variable {P : Program} {M : Mem} {ι : Plc} {X : Nat → Prop} {κ : Own} {w : World} {us : List Value} {ρ : List V} {σ : Objs}
def chkSrc (P : Program) (str : Bool) (tx : TypeId) (sz : Nat) : Bool :=
  match P.underlying tx with
  | some (.slice _) => !str
  | some .string => str && sz == 1
  | _ => false
theorem ofBytes_reps (s : ByteArray) : Reps M ι (byteCells s) (ofBytes s.data.toList) := by
  unfold byteCells ofBytes
  refine ⟨by simp, fun i u c hu hc => ?_⟩
  simp only [List.getElem?_map, Option.map_eq_some_iff] at hu hc
  obtain ⟨b, hb, rfl⟩ := hu
  obtain ⟨b', hb', rfl⟩ := hc
  rw [hb] at hb'; cases hb'
  exact .int _ _
theorem ofBytes_flat (l : List UInt8) : (ofBytes l).flatMap V.cells = ofBytes l := by
  induction l with
  | nil => rfl
  | cons b l ih => unfold ofBytes at *; simp only [List.map_cons, List.flatMap_cons, ih]; rfl
theorem reps_one {vs : List Value} {cs : List V} (h : Reps M ι vs cs) (h1 : ∀ c ∈ cs, c.one = true) : ∀ u ∈ vs, u.oneCell = true := fun u hu => by
  obtain ⟨i, hi⟩ := List.mem_iff_getElem?.1 hu
  obtain ⟨c, hc, hr⟩ := h.get' hi
  exact hr.one (h1 c (List.mem_of_getElem? hc))
theorem src_of (h : Wd M ι X κ w σ) {str : Bool} {tx : TypeId} {sz : Nat} {ag : Bool} {v : Value} {y : V} {ys : List V} (hk : chkSrc P str tx sz = true) (hv : Rep M ι v y) (hs : srcOf str σ y = some ys) (hok : okRow ag sz ys = true) :
    ∃ vs, Src P sz tx v ys.length vs w ∧ Reps M ι vs (ys.flatMap V.cells) := by
  unfold chkSrc at hk
  unfold srcOf at hs
  have hlen := flat_len (okRow_spec hok).1
  split at hk
  · rename_i e hu
    have hstr : str = false := by simpa using hk
    subst hstr
    simp only [Bool.false_eq_true, if_false] at hs
    rcases row_cells h hv hs with ⟨⟨a0, rfl⟩, rfl⟩ | ⟨b, off, cap, vs, rfl, hr, hc⟩
    · cases a0 with
      | none => exact ⟨[], Src.ofNil w hu 0, Reps.nil⟩
      | some a => exact ⟨[], Src.ofSlice w hu _ _ _ [] (by simp) (fun j u hju => by simp at hju) (fun u hu => by simp at hu), Reps.nil⟩
    · refine ⟨vs, Src.ofSlice w hu _ _ _ vs (by rw [hr.1, hlen]) (fun j u hju => ?_) (fun u hu => one' (reps_one hr (okRow_flat hok) u hu)), hr⟩
      rw [add_none]; exact hc j u hju
  · rename_i hu
    simp only [Bool.and_eq_true, beq_iff_eq] at hk
    obtain ⟨rfl, rfl⟩ := hk
    simp only [if_true] at hs
    cases y <;> (try (cases hs; done))
    cases hs
    obtain ⟨s, rfl, rfl⟩ := hv.inv_str
    refine ⟨byteCells s, ?_, ?_⟩
    · have := Src.ofString w hu s
      have hl : (ofBytes s.data.toList).length = s.size := by unfold ofBytes; rw [List.length_map, Array.length_toList]; rfl
      rw [hl]; exact this
    · rw [ofBytes_flat]; exact ofBytes_reps s
  · cases hk
theorem run_app_room {t tx ty e : TypeId} {i : TypeInfo} (ht : P.underlying t = some (.slice e)) (hi : P.info? e = some i) {b off sLen sCap : Nat} {x : Value} {n : Nat} {news : List Value} (hs : Src P i.size tx x n news w)
    (hroom : sLen + n ≤ sCap) {ws : Array Value} {T : TypeId} {fz : Nat × Nat} (hb : w.heap[b]? = some (.cells ws T fz)) (hl : off + sLen * i.size + news.length ≤ ws.size)
    (hf : ∀ j, off + sLen * i.size ≤ j → j < ws.size → frozenAt fz j = false) :
    (Builtin.append_ #[t, tx] ty #[.slice (some ⟨b, off, none⟩) sLen sCap, x]).run P w = .ok (.slice (some ⟨b, off, none⟩) (sLen + n) sCap) (setRow w b (layA ws (off + sLen * i.size) news) T fz) := by
  have hone : ∀ u ∈ news, u.oneCell = true := fun u hu => by have := hs.one u hu; cases u <;> first | rfl | cases this
  have hst := run_storeCells (P := P) b (off + sLen * i.size) T fz news w ws 0 hb (by simpa using hl) (fun j h1 h2 => hf j (by simpa using h1) (by simp at h2; omega)) hone
  simp only [Nat.add_zero] at hst
  rcases hs.kind with ⟨e', hk⟩ | hk <;> simp [Builtin.append_, Go.run_underlying ht, Go.run_underlying hk, sizeOf, typeInfo, hi, hs.len, hroom, hs.cells, add_none, hst]
theorem take_left {α : Type} (a b : List α) : (a ++ b).take a.length = a := List.take_left
def HK (ι : Plc) (w w' : World) : Prop := ∀ o b, ι o = some b → w'.heap[b]? = w.heap[b]?
theorem HK.refl (ι : Plc) (w : World) : HK ι w w := fun _ _ _ => rfl
theorem Wd.hkPush (h : Wd M ι X κ w σ) (o : Obj) (n : Nat) : HK ι w (pushB { w with drawn := n } o) := fun o b hi => pushB_old _ _ (h.olt o b hi)
theorem Wd.hkPush' (h : Wd M ι X κ w σ) (o : Obj) : HK ι w (pushB w o) := fun o b hi => pushB_old _ _ (h.olt o b hi)
theorem app_grow (h : St M ι X κ w us ρ σ) {t tx ty e : TypeId} {ag : Bool} {sz bytes : Nat} (ht : chkElem P t ag sz = some e) (hz : ∃ zv, zeroOf P e = some zv ∧ zv.cells.size = sz) (hby : (P.info? e).map (·.bytes) = some bytes) (hpos : sz ≠ 0)
    {base : Option Addr} {sCap : Nat} {xs ys : List V} {olds vs : List Value} {v : Value} (hold : ∀ w' : World, w'.heap = w.heap → (Builtin.firstCells sz xs.length (.slice base xs.length sCap)).run P w' = .ok olds.toArray w')
    (hro : Reps M ι olds (xs.flatMap V.cells)) (hxs : ∀ x ∈ xs, x.cells.length = sz) (hsrc : Src P sz tx v ys.length vs w) (hrv : Reps M ι vs (ys.flatMap V.cells)) (hys : ∀ y ∈ ys, y.cells.length = sz)
    (hg : sCap < xs.length + ys.length) (hle : (xs.length + ys.length) * bytes ≤ rowMax) (hmax : xs.length + ys.length ≤ 9223372036854775807) (d : Option Nat) :
    ∃ u w' M' κ', (Builtin.append_ #[t, tx] ty #[.slice base xs.length sCap, v]).run P w = .ok u w' ∧ Ext X M ι w M' ι w' ∧ HK ι w w' ∧ St M' ι X κ' w' (putL us d u) (put ρ d (.sl (xs ++ ys) (.gr sz))) σ := by
  obtain ⟨hu, hty⟩ := chkElem_spec ht
  obtain ⟨i, hi, his⟩ := szOf_info (chkTy_sz hty)
  obtain ⟨zv, hzv, hzs⟩ := hz
  have hiz : i.zero = some zv := by unfold zeroOf at hzv; rw [hi] at hzv; exact hzv
  have hib : i.bytes = bytes := by rw [hi] at hby; simpa using hby
  subst his hib
  have hfit : Builtin.nextslicecap (xs.length + ys.length) sCap * i.bytes ≤ 281474976710656 := growslice_fits hg hle
  have hrun := run_append_grow_src (P := P) w t tx ty e i zv hu hi hiz base xs.length sCap olds (hold w.drew rfl) v ys.length vs hsrc hg (by omega) hfit
  have hcap := grownCap_ge w (xs.length + ys.length) sCap e
  have hzc := size_zeroCells zv.cells (grownCap w (xs.length + ys.length) sCap e - (xs.length + ys.length))
  have hd := h.drew
  have hreps : Reps M ι (olds ++ vs) ((xs ++ ys).flatMap V.cells) := by rw [List.flatMap_append]; exact hro.append hrv
  have hboth : ∀ y ∈ xs ++ ys, y.cells.length = i.size := fun y hy => by
    rcases List.mem_append.1 hy with h | h
    · exact hxs y h
    · exact hys y h
  have hfl := flat_len hboth
  have hol : (olds ++ vs).length = ((xs ++ ys).flatMap V.cells).length := hreps.1
  obtain ⟨M', κ', he, hst⟩ := hd.putRow ((olds ++ vs).toArray ++ Builtin.zeroCells zv.cells (grownCap w (xs.length + ys.length) sCap e - (xs.length + ys.length))) e (0, 0) (xs ++ ys) (.gr i.size) (grownCap w (xs.length + ys.length) sCap e) i.size
    (by
      rw [Array.toList_append, ← hol]
      rw [show ((olds ++ vs).toArray).toList = olds ++ vs from rfl, take_left]
      exact hreps) hboth (by simpa using hcap) (fun e => by cases e) (fun s hs => by
      cases hs
      refine ⟨rfl, ?_, fun j _ _ => ?_⟩
      · rw [Array.size_append, hzc, hzs, List.size_toArray, hol, hfl, List.length_append, ← Nat.add_mul]
        exact Nat.mul_le_mul_right _ (by omega)
      · unfold frozenAt; simp) d
  refine ⟨_, _, M', κ', hrun, (Ext.drew X M ι w).trans he, h.wd.hkPush _ _, ?_⟩
  have hla : (xs ++ ys).length = xs.length + ys.length := List.length_append
  rw [hla] at hst
  exact hst
end
end Go.Ev
set_option linter.unusedSimpArgs false
set_option linter.unusedVariables false
namespace Go.Ev
open Go
section
variable {P : Program} {M : Mem} {ι : Plc} {X : Nat → Prop} {κ : Own} {w : World} {us : List Value} {ρ : List V} {σ : Objs}
theorem run_app_nothing {t tx ty e : TypeId} {i : TypeInfo} (ht : P.underlying t = some (.slice e)) (hi : P.info? e = some i) {base : Option Addr} {sLen sCap : Nat} {x : Value} (hs : Src P i.size tx x 0 [] w) (hroom : sLen ≤ sCap) :
    (Builtin.append_ #[t, tx] ty #[.slice base sLen sCap, x]).run P w = .ok (.slice base sLen sCap) w := by
  have hst : ∀ a : Addr, (storeCells a []).run P w = .ok () w := fun a => rfl
  cases base <;> rcases hs.kind with ⟨e', hk⟩ | hk <;> simp [Builtin.append_, Go.run_underlying ht, Go.run_underlying hk, sizeOf, typeInfo, hi, hs.len, hroom, hs.cells, hst]
def chkApp (P : Program) (str ag : Bool) (sz bytes : Nat) (t tx : TypeId) : Bool :=
  match chkElem P t ag sz with
  | some e => decide ((zeroOf P e).map (·.cells.size) = some sz) && decide ((P.info? e).map (·.bytes) = some bytes) && decide (sz ≠ 0) && decide (bytes ≠ 0) && chkSrc P str tx sz
  | none => false
theorem chkApp_spec {str ag : Bool} {sz bytes : Nat} {t tx : TypeId} (h : chkApp P str ag sz bytes t tx = true) :
    ∃ e i, chkElem P t ag sz = some e ∧ P.underlying t = some (.slice e) ∧ P.info? e = some i ∧ i.size = sz ∧ (∃ zv, zeroOf P e = some zv ∧ zv.cells.size = sz) ∧ (P.info? e).map (·.bytes) = some bytes ∧ sz ≠ 0 ∧ bytes ≠ 0 ∧ chkSrc P str tx sz = true := by
  unfold chkApp at h
  split at h
  · rename_i e he
    simp only [Bool.and_eq_true, decide_eq_true_eq] at h
    obtain ⟨⟨⟨⟨h1, h2⟩, h3⟩, h4⟩, h5⟩ := h
    obtain ⟨hu, hty⟩ := chkElem_spec he
    obtain ⟨i, hi, his⟩ := szOf_info (chkTy_sz hty)
    rw [Option.map_eq_some_iff] at h1
    exact ⟨e, i, he, hu, hi, his, h1, h2, h3, h4, h5⟩
  · cases h
theorem le_max {n b : Nat} (h : n * b ≤ rowMax) (hb : b ≠ 0) : n ≤ 9223372036854775807 := by
  have : n * 1 ≤ n * b := Nat.mul_le_mul_left _ (Nat.one_le_iff_ne_zero.2 hb)
  unfold rowMax at h
  omega
theorem evApp_sl {ag : Bool} {sz bytes : Nat} {xs ys : List V} {c : Cap} {z : V} (h : evApp ag sz bytes (.sl xs c) ys = some z) (hne : ys ≠ []) :
    okRow ag sz ys = true ∧ (c = .fx ∨ c = .gr sz) ∧ (∀ q ∈ xs, q.cells.length = sz) ∧ (xs.length + ys.length) * bytes ≤ rowMax ∧ z = .sl (xs ++ ys) (.gr sz) := by
  unfold evApp at h
  split at h
  · rename_i hok
    cases ys with
    | nil => exact absurd rfl hne
    | cons y0 yr =>
      simp only at h
      split at h
      · rename_i hcond
        cases h
        exact ⟨hok, hcond.1, fun q hq => by simpa using List.all_eq_true.1 hcond.2.1 q hq, hcond.2.2, rfl⟩
      · cases h
  · cases h
theorem evApp_nils {ag : Bool} {sz bytes : Nat} {ys : List V} {z : V} (h : evApp ag sz bytes .nils ys = some z) (hne : ys ≠ []) :
    okRow ag sz ys = true ∧ ys.length * bytes ≤ rowMax ∧ z = .sl ys (.gr sz) := by
  unfold evApp at h
  split at h
  · rename_i hok
    simp only [hne, if_false] at h
    split at h
    · rename_i hle; cases h; exact ⟨hok, hle, rfl⟩
    · cases h
  · cases h
theorem evApp_other {ag : Bool} {sz bytes : Nat} {x : V} {ys : List V} {z : V} (h : evApp ag sz bytes x ys = some z) : x = .nils ∨ ∃ xs c, x = .sl xs c := by
  unfold evApp at h
  split at h
  · cases x <;> first | exact .inl rfl | exact .inr ⟨_, _, rfl⟩ | cases h
  · cases h
theorem app_new (h : St M ι X κ w us ρ σ) {t tx ty : TypeId} {str ag : Bool} {sz bytes : Nat} (hc : chkApp P str ag sz bytes t tx = true) {vx vy : Value} {x y z : V} {ys : List V} (hx : Rep M ι vx x) (hy : Rep M ι vy y)
    (hs : srcOf str σ y = some ys) (hne : ys ≠ []) (hno : ∀ xs s, x ≠ .sl xs (.gr s)) (he : evApp ag sz bytes x ys = some z) (d : Option Nat) :
    ∃ u w' M' κ', (Builtin.append_ #[t, tx] ty #[vx, vy]).run P w = .ok u w' ∧ Ext X M ι w M' ι w' ∧ HK ι w w' ∧ St M' ι X κ' w' (putL us d u) (put ρ d z) σ := by
  obtain ⟨e, i, hel, hu, hi, his, hz, hby, hsz, hb0, hsrc⟩ := chkApp_spec hc
  have hpos : 0 < ys.length := List.length_pos_iff.2 hne
  rcases evApp_other he with rfl | ⟨xs, c, rfl⟩
  · obtain ⟨hok, hle, rfl⟩ := evApp_nils he hne
    obtain ⟨vs, hS, hrv⟩ := src_of h.wd hsrc hy hs hok
    have hys := (okRow_spec hok).1
    cases hx
    have := app_grow (ty := ty) h hel hz hby hsz (base := none) (sCap := 0) (xs := []) (olds := []) (fun w' _ => rfl) Reps.nil (by simp) hS hrv hys (by simp; exact hpos) (by simpa using hle) (by simpa using le_max hle hb0) d
    simpa using this
  · obtain ⟨hok, hcc, hxs, hle, rfl⟩ := evApp_sl he hne
    obtain ⟨vs, hS, hrv⟩ := src_of h.wd hsrc hy hs hok
    have hys := (okRow_spec hok).1
    have hfx : c = .fx := hcc.resolve_right (fun e => hno xs sz (by rw [e]))
    rcases hx.inv_sl with ⟨b, off, cap, sz', us', rfl, _, hr, hm, hcap, hf⟩ | ⟨a0, rfl, rfl, _⟩
    case inr =>
      exact app_grow (ty := ty) h hel hz hby hsz (base := some a0) (sCap := 0) (xs := []) (olds := []) (fun w' _ => by unfold Builtin.firstCells; simp only [List.length_nil, Nat.zero_mul]; rfl) Reps.nil (by simp) hS hrv hys (by simp; exact hpos) (by simpa using hle) (by simpa using le_max hle hb0) d
    have hcl := hf hfx
    have hcell := h.wd.cells hm
    exact app_grow (ty := ty) h hel hz hby hsz (base := some ⟨b, off, none⟩) (sCap := cap) (xs := xs) (olds := us') (fun w' hw' => by
      refine run_firstCells (cap := cap) (by rw [hr.1, flat_len hxs]) (fun i u hu => ?_) xs.length
      have := hcell i u hu
      simpa [World.cell?, hw'] using this) hr hxs hS hrv hys (by omega) hle (le_max hle hb0) d
theorem src_nil {str : Bool} {tx : TypeId} {sz : Nat} {v : Value} {vs : List Value} {ys : List V} (h : Src P sz tx v ys.length vs w) (hn : ys = []) : Src P sz tx v 0 [] w := by
  subst hn
  have hl := h.newsLen
  have : vs = [] := List.length_eq_zero_iff.1 (by simpa using hl)
  subst this
  exact h
theorem app_none (h : Wd M ι X κ w σ) {t tx ty : TypeId} {str ag : Bool} {sz bytes : Nat} (hc : chkApp P str ag sz bytes t tx = true) {vx vy : Value} {x y z : V} (hx : Rep M ι vx x) (hy : Rep M ι vy y)
    (hs : srcOf str σ y = some []) (he : evApp ag sz bytes x [] = some z) : (Builtin.append_ #[t, tx] ty #[vx, vy]).run P w = .ok vx w ∧ z = x := by
  obtain ⟨e, i, hel, hu, hi, his, hz, hby, hsz, hb0, hsrc⟩ := chkApp_spec hc
  have hok : okRow ag sz [] = true := rfl
  obtain ⟨vs, hS, hrv⟩ := src_of h hsrc hy hs hok
  have hS' := src_nil (str := str) hS rfl
  subst his
  unfold evApp at he
  rw [if_pos hok] at he
  cases x <;> (try (cases he; done))
  case nils =>
    simp at he
    cases hx
    exact ⟨run_app_nothing hu hi hS' (Nat.le_refl _), he.symm⟩
  case sl xs c =>
    simp at he
    rcases hx.inv_sl with ⟨b, off, cap, sz', us', rfl, _, hr, hm, hcap, hf⟩ | ⟨a0, rfl, rfl, _⟩
    · exact ⟨run_app_nothing hu hi hS' hcap, he.symm⟩
    · exact ⟨run_app_nothing hu hi hS' (Nat.le_refl _), he.symm⟩
theorem app_gr (h : St M ι X κ w us ρ σ) {t tx ty : TypeId} {str ag : Bool} {sz bytes : Nat} (hc : chkApp P str ag sz bytes t tx = true) {n s : Nat} {vx vy : Value} {xs : List V} {y z : V} {ys : List V}
    (hv : us[n]? = some vx) (hxn : ρ[n]? = some (.sl xs (.gr s))) (hy : Rep M ι vy y) (hs : srcOf str σ y = some ys) (hne : ys ≠ []) (he : evApp ag sz bytes (.sl xs (.gr s)) ys = some z) (d : Option Nat) :
    ∃ u w' M' κ', (Builtin.append_ #[t, tx] ty #[vx, vy]).run P w = .ok u w' ∧ Ext X M ι w M' ι w' ∧ HK ι w w' ∧ St M' ι X κ' w' (putL us d u) (put (ρ.set n (.sl xs .no)) d z) σ := by
  obtain ⟨e, i, hel, hu, hi, his, hz, hby, hsz, hb0, hsrc⟩ := chkApp_spec hc
  obtain ⟨hok, hcc, hxs, hle, rfl⟩ := evApp_sl he hne
  have hss : s = sz := by rcases hcc with h | h <;> cases h; rfl
  subst hss
  obtain ⟨vs, hS, hrv⟩ := src_of h.wd hsrc hy hs hok
  have hys := (okRow_spec hok).1
  have hrx := h.rep.2 n _ _ hv hxn
  rcases hrx.inv_sl with ⟨b, off, cap, sz', us', rfl, _, hr, hm, hcap, _⟩ | ⟨_, _, _, hng⟩
  case inr => exact absurd rfl (hng _)
  have hcell := h.wd.cells hm
  obtain ⟨κ1, h1, hf, hg⟩ := h.takeSlot hv hxn (rfl : ownB _ _ = some b)
  obtain ⟨g1, g2, ws, T, fz, g3, g4, g5⟩ := hg.ok xs s rfl _ _ _ rfl
  have hfl := flat_len hxs
  simp only at g2 g3 g4 g5
  have h1' : St M ι X κ1 w us (ρ.set n (.sl xs .no)) σ := h1
  by_cases hroom : xs.length + ys.length ≤ cap
  ·
    have hvl : vs.length = ys.length * s := hS.newsLen
    have hend : off + xs.length * s + vs.length ≤ ws.size := by
      rw [hvl, Nat.add_assoc, ← Nat.add_mul]
      exact Nat.le_trans (Nat.add_le_add_left (Nat.mul_le_mul_right _ hroom) _) g4
    subst his
    have hrun := run_app_room (P := P) (ty := ty) hu hi hS hroom g3 hend (fun j hj1 hj2 => g5 j (by rw [hfl]; exact hj1) hj2)
    obtain ⟨h2, hx2⟩ := h1'.fill hf g3 (s := off + xs.length * i.size) (vs := vs) (fun j hj => g2 j (by rw [hfl]; exact hj)) hend
    have hboth : ∀ q ∈ xs ++ ys, q.cells.length = i.size := fun q hq => by
      rcases List.mem_append.1 hq with h | h
      · exact hxs q h
      · exact hys q h
    have hul : us'.length = xs.length * i.size := by rw [hr.1, hfl]
    have hrep : Rep (fillM M b (off + xs.length * i.size) vs) ι (.slice (some ⟨b, off, none⟩) (xs ++ ys).length cap) (.sl (xs ++ ys) (.gr i.size)) := by
      have hrr : Reps (fillM M b (off + xs.length * i.size) vs) ι (us' ++ vs) ((xs ++ ys).flatMap V.cells) := by
        rw [List.flatMap_append]; exact (hr.mono hx2.m hx2.i).append (hrv.mono hx2.m hx2.i)
      refine .sl (xs ++ ys) (.gr i.size) b off cap i.size (us' ++ vs) hboth hrr.1 (fun j u hju => ?_) hrr.2 (by rw [List.length_append]; exact hroom) (fun e => by cases e)
      rw [List.getElem?_append] at hju
      split at hju
      · exact hx2.m.le _ _ _ (hm j u hju)
      · rename_i hge
        unfold fillM
        have hlt := (List.getElem?_eq_some_iff.1 hju).1
        rw [if_pos ⟨rfl, by omega, by omega⟩]
        rw [show off + j - (off + xs.length * i.size) = j - us'.length from by omega]
        exact hju
    obtain ⟨κ', h3⟩ := h2.putOwn hrep (fun b' hb' => by
      cases hb'
      refine ⟨⟨hf.k, hf.x, hf.i, by rw [setRow_size]; exact hf.lt⟩, ⟨fun xs' s' hx' a len cap' hv' => ?_⟩⟩
      cases hx'; cases hv'
      refine ⟨hboth, fun j hj => ?_, layA ws (off + xs.length * i.size) vs, T, fz, by rw [setRow_heap, if_pos rfl, if_pos hf.lt], by rw [layA_size]; exact g4, fun j hj1 hj2 => g5 j ?_ (by rw [layA_size] at hj2; exact hj2)⟩
      · unfold fillM
        have hbl := flat_len hboth
        rw [List.length_append, Nat.add_mul] at hbl
        simp only at hj
        rw [if_neg (by omega)]
        exact g2 j (by omega)
      · have hbl := flat_len hboth
        rw [List.length_append, Nat.add_mul] at hbl
        simp only at hj1
        omega) d
    rw [List.length_append] at h3
    exact ⟨_, _, _, κ', hrun, hx2, fun o b' hi' => by rw [setRow_heap, if_neg (fun e => by subst e; exact hf.i o hi')], h3⟩
  · exact app_grow (ty := ty) h1' hel hz hby hsz (base := some ⟨b, off, none⟩) (sCap := cap) (xs := xs) (olds := us') (fun w' hw' => by
      refine run_firstCells (cap := cap) (by rw [hr.1, flat_len hxs]) (fun i u hu => ?_) xs.length
      have := hcell i u hu
      simpa [World.cell?, hw'] using this) hr hxs hS hrv hys (by omega) hle (le_max hle hb0) d
end
end Go.Ev
set_option linter.unusedSimpArgs false
set_option linter.unusedVariables false
namespace Go.Ev
open Go
def wayOf (P : Program) : List FieldStep → TypeId → Option (TypeId × Nat)
  | [], t => some (t, 0)
  | [s], _ =>
    match s.deref, P.underlying s.struct with
    | false, some (.struct fs) =>
      match fs[s.index]? with
      | some f => if agOf P f.type = some true then some (f.type, f.offset) else none
      | none => none
    | _, _ => none
  | _, _ => none
def isPtrT (P : Program) (t : TypeId) : Option Bool := (P.underlying t).map fun d => match d with | .pointer _ => true | _ => false
def chkNilm (P : Program) (name : String) (t : TypeId) (ag : Bool) : Bool :=
  match P.info? t with
  | some i => match i.methods.find? (·.name == name) with
    | some m => match m.func, wayOf P m.path.toList t with
      | some (_, true), some _ => ag || m.path.toList.isEmpty
      | some (_, false), some (t', _) => (isPtrT P t' == some false) && (ag || m.path.toList.isEmpty)
      | _, _ => false
    | none => false
  | none => false
def chkMeth (P : Program) (name : String) (t : TypeId) (f : FuncId) (w : Option (Nat × Nat)) : Bool :=
  match P.info? t with
  | some i => match i.methods.find? (·.name == name) with
    | some m => match m.func, w with
      | some (g, pr), none => f == g && m.path.toList.isEmpty && isPtrT P t == some pr
      | some (g, pr), some (off, sz) => f == g && !pr && !m.path.toList.isEmpty && (match wayOf P m.path.toList t with
        | some (t', o) => o == off && szOf P t' == some sz && isPtrT P t' == some false
        | none => false)
      | none, _ => false
    | none => false
  | none => false
def keyOk (P : Program) (kk : CK) (t : TypeId) : Bool :=
  match kk, P.underlying t with
  | .s, some .string | .i, some (.int _) | .b, some .bool => true
  | _, _ => false
def keyD : CK → TypeDesc → Bool
  | .s, .string | .i, .int _ | .b, .bool => true
  | _, _ => false
section
variable {P : Program} {M : Mem} {ι : Plc} {X : Nat → Prop} {κ : Own} {w : World} {σ : Objs}
theorem keyOk_spec {kk : CK} {t : TypeId} (h : keyOk P kk t = true) : ∃ d, P.underlying t = some d ∧ keyD kk d = true := by
  unfold keyOk at h
  split at h <;> first | (rename_i hu; exact ⟨_, hu, rfl⟩) | cases h
theorem bytes_beq {s t : ByteArray} : (s == t) = decide (s.data.toList = t.data.toList) := by
  rw [show (s == t) = (s.data == t.data) from by cases s; cases t; rfl]
  by_cases h : s.data = t.data
  · rw [h, decide_eq_true rfl]; exact beq_self_eq_true _
  · rw [decide_eq_false (fun e => h (Array.ext' e))]
    exact beq_false_of_ne h
theorem same_key {kk : CK} {d : TypeDesc} (hd : keyD kk d = true) {u v : Value} {x y : V} (hu : Rep M ι u x) (hv : Rep M ι v y) {b : Bool} (h : eqCellK kk x y = some b) : Instr.sameNow d u v = some b := by
  cases kk with
  | b =>
    cases d <;> (try (cases hd; done))
    cases x <;> (try (cases h; done))
    cases y <;> (try (cases h; done))
    cases h
    rw [hu.inv_bool, hv.inv_bool]
    rfl
  | i =>
    cases d <;> (try (cases hd; done))
    obtain ⟨k, a, c, rfl, rfl, rfl⟩ := eqCellK_i h
    rw [hu.inv_int, hv.inv_int]
    unfold Instr.sameNow
    simp
  | s =>
    cases d <;> (try (cases hd; done))
    obtain ⟨a, c, rfl, rfl, rfl⟩ := eqCellK_s h
    obtain ⟨s, rfl, rfl⟩ := hu.inv_str
    obtain ⟨s', rfl, rfl⟩ := hv.inv_str
    unfold Instr.sameNow
    simp only [bytes_beq]
theorem EntRep.head {e : MapEntry} {en : List MapEntry} {p : V × V} {es : List (V × V)} (h : EntRep M ι (e :: en) (p :: es)) : Rep M ι e.key p.1 ∧ Rep M ι e.val p.2 := h.2 0 e p rfl rfl
theorem EntRep.tail {e : MapEntry} {en : List MapEntry} {p : V × V} {es : List (V × V)} (h : EntRep M ι (e :: en) (p :: es)) : EntRep M ι en es :=
  ⟨by simpa using h.1, fun i e' p' he hp => h.2 (i + 1) e' p' (by simpa using he) (by simpa using hp)⟩
theorem find_ok {kk : CK} {d : TypeDesc} (hd : keyD kk d = true) {kv : Value} {kx : V} (hk : Rep M ι kv kx) : ∀ {en : List MapEntry} {es : List (V × V)}, EntRep M ι en es → ∀ (i : Nat) {r : Option V}, mfind kk kx es = some r →
    (r = none ∧ Instr.findNow d kv en i = some none) ∨ ∃ x j, ∃ e : MapEntry, r = some x ∧ Rep M ι e.val x ∧ Instr.findNow d kv en i = some (some (j, e.val))
  | [], [], _, i, r, h => by
    cases h
    exact .inl ⟨rfl, rfl⟩
  | e :: en, [], he, _, _, _ => by have := he.1; simp at this
  | [], _ :: _, he, _, _, _ => by have := he.1; simp at this
  | e :: en, (k', x) :: es, he, i, r, h => by
    obtain ⟨h1, h2⟩ := he.head
    unfold mfind at h
    split at h
    · rename_i heq
      cases h
      refine .inr ⟨x, i, e, rfl, h2, ?_⟩
      unfold Instr.findNow
      rw [same_key hd hk h1 heq]
    · rename_i heq
      unfold Instr.findNow
      rw [same_key hd hk h1 heq]
      exact find_ok hd hk he.tail (i + 1) h
    · cases h
theorem put_ok {kk : CK} {d : TypeDesc} (hd : keyD kk d = true) {kv : Value} {kx : V} (hk : Rep M ι kv kx) {y : V} : ∀ {en : List MapEntry} {es es' : List (V × V)}, EntRep M ι en es → ∀ (i : Nat), mput kk kx y es = some es' →
    (Instr.findNow d kv en i = some none ∧ es' = es ++ [(kx, y)]) ∨ ∃ j, ∃ e : MapEntry, en[j]? = some e ∧ Instr.findNow d kv en i = some (some (i + j, e.val)) ∧ Instr.sameNow d kv e.key = some true ∧ es' = es.set j (kx, y)
  | [], [], es', _, i, h => by
    cases h
    exact .inl ⟨rfl, rfl⟩
  | e :: en, [], _, he, _, _ => by have := he.1; simp at this
  | [], _ :: _, _, he, _, _ => by have := he.1; simp at this
  | e :: en, (k', x) :: es, es', he, i, h => by
    obtain ⟨h1, h2⟩ := he.head
    unfold mput at h
    split at h
    · rename_i heq
      cases h
      have hs := same_key hd hk h1 heq
      refine .inr ⟨0, e, rfl, ?_, hs, rfl⟩
      unfold Instr.findNow
      rw [hs]
      rfl
    · rename_i heq
      rw [Option.map_eq_some_iff] at h
      obtain ⟨r', hr, rfl⟩ := h
      unfold Instr.findNow
      rw [same_key hd hk h1 heq]
      rcases put_ok hd hk he.tail (i + 1) hr with ⟨g1, g2⟩ | ⟨j, e', g1, g2, g3, g4⟩
      · exact .inl ⟨g1, by rw [g2]; rfl⟩
      · exact .inr ⟨j + 1, e', by simpa using g1, by rw [g2]; simp; omega, g3, by rw [g4]; rfl⟩
    · cases h
theorem run_checkKey {kk : CK} {t : TypeId} {d : TypeDesc} (hu : P.underlying t = some d) (hd : keyD kk d = true) (b : Bool) (v : Value) : (Instr.checkKey b 10000 t v).run P w = .ok () w := by
  show (Instr.checkKey b (9999 + 1) t v).run P w = .ok () w
  unfold Instr.checkKey
  rw [sem_bind_run, run_underlying hu]
  simp only [Result.andThen]
  cases kk <;> cases d <;> first | (cases hd; done) | rfl
theorem run_findKey {t : TypeId} {d : TypeDesc} (hu : P.underlying t = some d) {v : Value} {es : List MapEntry} {r : Option (Nat × Value)} (h : Instr.findNow d v es 0 = some r) : (Instr.findKey t v es).run P w = .ok r w := by
  unfold Instr.findKey
  rw [sem_bind_run, run_underlying hu]
  simp only [Result.andThen, h]
  rfl
theorem run_getMap {r : Nat} {es : Array MapEntry} {clock : Nat} (h : w.heap[r]? = some (.map es clock)) : (getObj r).run P w = .ok (.map es clock) w := by
  unfold getObj
  simp only [Sem.run, h]
theorem Rep.inv_mp {v : Value} {o : Nat} (h : Rep M ι v (.mp o)) : ∃ r, v = .map (some r) ∧ ι o = some r := by cases h; exact ⟨_, rfl, ‹_›⟩
theorem snd_mget (h : Wd M ι X κ w σ) {kk : CK} {t kt e : TypeId} (ht : P.underlying t = some (.map kt e)) (hk : keyOk P kk kt = true) {zv : Value} {z : V} (hz : zeroOf P e = some zv) (hzr : Rep M ι zv z) {vm vk : Value} {m k x : V} (hm : Rep M ι vm m) (hkv : Rep M ι vk k) {ok : Bool} {r : Option V}
    (hr : mlook kk σ m k = some r) (hx : x = if ok then .tup [r.getD z, .bool r.isSome] else r.getD z) : ∃ u, (Instr.lookup t vm vk ok).run P w = .ok u w ∧ Rep M ι u x := by
  have run_z : (zeroValue e).run P w = .ok zv w := by
    unfold zeroOf at hz
    rw [Option.bind_eq_some_iff] at hz
    obtain ⟨i, hi, hz⟩ := hz
    unfold zeroValue
    simp only [sem_bind_run, run_typeInfo hi, Result.andThen, hz]
    rfl
  have fin : ∀ (b : Bool) (v : Value) (y : V), Rep M ι v y → x = (if ok then .tup [y, .bool b] else y) → Rep M ι (if ok then .tuple #[v, .bool b] else v) x := by
    intro b v y hvy hxy
    subst hxy
    cases ok with
    | false => exact hvy
    | true =>
      simp only [if_true]
      refine .tup _ _ rfl fun i u c hu hc => ?_
      match i with
      | 0 => cases hu; cases hc; exact hvy
      | 1 => cases hu; cases hc; exact .bool b
      | i + 2 => simp at hc
  obtain ⟨d, hu, hd⟩ := keyOk_spec hk
  have body : ∀ es : Array MapEntry, ((r = none ∧ Instr.findNow d vk es.toList 0 = some none) ∨ ∃ y j, ∃ e : MapEntry, r = some y ∧ Rep M ι e.val y ∧ Instr.findNow d vk es.toList 0 = some (some (j, e.val))) →
      ∃ u, (do
        Instr.checkKey es.isEmpty 10000 kt vk
        let (v, ok') ← match ← Instr.findKey kt vk es.toList with
          | some (_, v) => pure (v, true)
          | none => pure (← zeroValue e, false)
        pure (if ok then .tuple #[v, .bool ok'] else v) : Sem Value).run P w = .ok u w ∧ Rep M ι u x := by
    intro es hc
    rcases hc with ⟨hn, hf⟩ | ⟨y, j, e', hn, hy, hf⟩
    · subst hn
      refine ⟨_, ?_, fin false zv z hzr hx⟩
      simp only [sem_bind_run, run_checkKey hu hd, run_findKey hu hf, Result.andThen, run_z, sem_pure_run]
    · subst hn
      refine ⟨_, ?_, fin true e'.val y hy hx⟩
      simp only [sem_bind_run, run_checkKey hu hd, run_findKey hu hf, Result.andThen, sem_pure_run]
  unfold mlook at hr
  cases m <;> (try (cases hr; done))
  case nilm =>
    cases hr
    cases hm
    obtain ⟨u, h1, h2⟩ := body #[] (.inl ⟨rfl, rfl⟩)
    refine ⟨u, ?_, h2⟩
    unfold Instr.lookup
    rw [sem_bind_run, run_underlying ht]
    simp only [Result.andThen]
    exact h1
  case mp o =>
    simp only at hr
    split at hr
    · rename_i es hes
      obtain ⟨b, rfl, hi⟩ := hm.inv_mp
      obtain ⟨O, hO, hor⟩ := h.obj o b hi
      rw [hes] at hO; cases hO
      obtain ⟨en, clock, hb, her⟩ := hor
      obtain ⟨u, h1, h2⟩ := body en (find_ok hd hkv her 0 hr)
      refine ⟨u, ?_, h2⟩
      unfold Instr.lookup
      rw [sem_bind_run, run_underlying ht]
      simp only [Result.andThen]
      simp only [sem_bind_run, run_getMap hb, Result.andThen, sem_pure_run] at h1 ⊢
      exact h1
    · cases hr
theorem isPtrT_spec {t : TypeId} {b : Bool} (h : isPtrT P t = some b) : ∃ d, P.underlying t = some d ∧ (b = true → ∃ e, d = .pointer e) ∧ (b = false → ∀ e, d ≠ .pointer e) := by
  unfold isPtrT at h
  rw [Option.map_eq_some_iff] at h
  obtain ⟨d, hd, he⟩ := h
  refine ⟨d, hd, ?_, ?_⟩
  · rintro rfl
    cases d <;> first | exact ⟨_, rfl⟩ | cases he
  · rintro rfl e rfl
    cases he
theorem run_partAg {t : TypeId} {sz : Nat} (ha : agOf P t = some true) (hz : szOf P t = some sz) (vs : Array Value) (off : Nat) : (Go.part t vs off).run P w = .ok (.agg (vs.extract off (off + sz))) w := by
  unfold Go.part
  simp only [sem_bind_run, run_isAgg ha, run_sizeOf hz, Result.andThen, if_true]
  rfl
theorem ag_sz {t : TypeId} (ha : agOf P t = some true) : ∃ sz, szOf P t = some sz := by
  unfold agOf Program.underlying at ha
  unfold szOf
  cases hi : P.info? t with
  | none => rw [hi] at ha; simp at ha
  | some i => exact ⟨_, rfl⟩
theorem wayOf_one {s : FieldStep} {t t' : TypeId} {off : Nat} (h : wayOf P [s] t = some (t', off)) : ∃ fs f, s.deref = false ∧ P.underlying s.struct = some (.struct fs) ∧ fs[s.index]? = some f ∧ agOf P f.type = some true ∧ f.type = t' ∧ f.offset = off := by
  simp only [wayOf] at h
  split at h
  · rename_i fs h1 h2
    split at h
    · rename_i f hf
      split at h
      · rename_i ha; cases h; exact ⟨fs, f, h1, h2, hf, ha, rfl, rfl⟩
      · cases h
    · cases h
  · cases h
theorem run_follow {s : FieldStep} {t t' : TypeId} {off sz : Nat} (h : wayOf P [s] t = some (t', off)) (hz : szOf P t' = some sz) (vs : Array Value) : (follow [s] t (.val (.agg vs))).run P w = .ok (t', .val (.agg (vs.extract off (off + sz)))) w := by
  obtain ⟨fs, f, h1, h2, h3, h4, rfl, rfl⟩ := wayOf_one h
  unfold follow
  simp only [sem_bind_run, run_underlying h2, Result.andThen, h3, h1, Bool.false_eq_true, if_false, run_partAg h4 hz]
  rfl
theorem run_blind {s : FieldStep} {t t' : TypeId} {off sz : Nat} (h : wayOf P [s] t = some (t', off)) (hz : szOf P t' = some sz) (vs : Array Value) : (followBlind [s] t (some (.agg vs))).run P w = .ok (.ok (t', some (.agg (vs.extract off (off + sz))))) w := by
  obtain ⟨fs, f, h1, h2, h3, h4, rfl, rfl⟩ := wayOf_one h
  unfold followBlind
  simp only [sem_bind_run, run_underlying h2, Result.andThen, h3, h1, Bool.false_eq_true, if_false, run_partAg h4 hz]
  rfl
theorem fuel_succ : ∃ n, P.types.size + Made.depth = n + 1 := ⟨P.types.size + Made.depth - 1, by
  have h0 : 0 < Made.depth := by decide
  omega⟩
theorem chkMeth_spec {name : String} {t : TypeId} {f : FuncId} {q : Option (Nat × Nat)} (h : chkMeth P name t f q = true) : ∃ i m pr, P.info? t = some i ∧ i.methods.find? (·.name == name) = some m ∧ m.func = some (f, pr) ∧
    ((q = none ∧ m.path.toList = [] ∧ isPtrT P t = some pr) ∨ ∃ off sz t', q = some (off, sz) ∧ pr = false ∧ m.path.toList ≠ [] ∧ wayOf P m.path.toList t = some (t', off) ∧ szOf P t' = some sz ∧ isPtrT P t' = some false) := by
  unfold chkMeth at h
  split at h
  · rename_i i hi
    split at h
    · rename_i m hm
      split at h
      · rename_i g pr hf
        simp only [Bool.and_eq_true, beq_iff_eq] at h
        obtain ⟨⟨rfl, h2⟩, h3⟩ := h
        exact ⟨i, m, pr, hi, hm, hf, .inl ⟨rfl, by simpa using h2, h3⟩⟩
      · rename_i g pr off sz hf
        simp only [Bool.and_eq_true, beq_iff_eq, Bool.not_eq_true'] at h
        obtain ⟨⟨⟨rfl, h2⟩, h3⟩, h4⟩ := h
        split at h4
        · rename_i t' o hw
          simp only [Bool.and_eq_true, beq_iff_eq] at h4
          obtain ⟨⟨rfl, h5⟩, h6⟩ := h4
          refine ⟨i, m, pr, hi, hm, hf, .inr ⟨o, sz, t', rfl, h2, ?_, hw, h5, h6⟩⟩
          intro e
          rw [e] at h3
          cases h3
        · cases h4
      · cases h
    · cases h
  · cases h
theorem run_method {name : String} {t : TypeId} {f : FuncId} (h : chkMeth P name t f none = true) (v : Value) : (method (P.types.size + Made.depth) t v name).run P w = .ok (f, v) w := by
  obtain ⟨i, m, pr, hi, hm, hf, hc⟩ := chkMeth_spec h
  rcases hc with ⟨-, hp, hpt⟩ | ⟨_, _, _, hq, _⟩
  case inr => cases hq
  obtain ⟨d, hd, h1, h2⟩ := isPtrT_spec hpt
  obtain ⟨n, hn⟩ := fuel_succ (P := P)
  have hpe : m.path = #[] := by apply Array.ext'; simpa using hp
  rw [hn]
  unfold method
  rw [sem_bind_run, run_typeInfo hi]
  simp only [Result.andThen, hm, hpe]
  unfold follow
  simp only [sem_bind_run, sem_pure_run, Result.andThen, hf]
  unfold receiverAt
  simp only [sem_bind_run, run_underlying hd, Result.andThen]
  cases pr with
  | true =>
    obtain ⟨e, rfl⟩ := h1 rfl
    rfl
  | false =>
    have := h2 rfl
    cases d <;> first | rfl | exact absurd rfl (this _)
theorem run_methodP {name : String} {t : TypeId} {f : FuncId} {off sz : Nat} (h : chkMeth P name t f (some (off, sz)) = true) (vs : Array Value) : (method (P.types.size + Made.depth) t (.agg vs) name).run P w = .ok (f, .agg (vs.extract off (off + sz))) w := by
  obtain ⟨i, m, pr, hi, hm, hf, hc⟩ := chkMeth_spec h
  rcases hc with ⟨hq, _⟩ | ⟨off', sz', t', hq, rfl, hne, hw, hz, hpt⟩
  · cases hq
  cases hq
  obtain ⟨d, hd, h1, h2⟩ := isPtrT_spec hpt
  obtain ⟨n, hn⟩ := fuel_succ (P := P)
  rw [hn]
  unfold method
  rw [sem_bind_run, run_typeInfo hi]
  simp only [Result.andThen, hm]
  obtain ⟨s, hs⟩ : ∃ s, m.path.toList = [s] := by
    cases hp : m.path.toList with
    | nil => exact absurd hp hne
    | cons s r => cases r with
      | nil => exact ⟨s, rfl⟩
      | cons _ _ => rw [hp] at hw; cases hw
  rw [hs] at hw
  rw [hs, sem_bind_run, run_follow hw hz]
  simp only [Result.andThen, hf, sem_bind_run]
  unfold receiverAt
  simp only [sem_bind_run, run_underlying hd, Result.andThen]
  have := h2 rfl
  cases d <;> first | rfl | exact absurd rfl (this _)
theorem run_nilAhead {name : String} {t : TypeId} {ag : Bool} (h : chkNilm P name t ag = true) (v : Value) (hv : ag = true → ∃ vs, v = .agg vs) : (nilAhead (P.types.size + Made.depth) t v name).run P w = .ok (some false) w := by
  obtain ⟨n, hn⟩ := fuel_succ (P := P)
  rw [hn]
  unfold chkNilm at h
  split at h
  · rename_i i hi
    split at h
    · rename_i m hm
      unfold nilAhead
      rw [sem_bind_run, run_typeInfo hi]
      simp only [Result.andThen, hm]
      have way : ∀ t' off, wayOf P m.path.toList t = some (t', off) → (ag || m.path.toList.isEmpty) = true → ∃ x, (followBlind m.path.toList t (some v)).run P w = .ok (.ok (t', some x)) w := by
        intro t' off hw ha
        cases hp : m.path.toList with
        | nil =>
          rw [hp] at hw
          cases hw
          exact ⟨v, by unfold followBlind; rfl⟩
        | cons s r =>
          cases r with
          | cons _ _ => rw [hp] at hw; cases hw
          | nil =>
            rw [hp] at ha hw
            obtain ⟨vs, rfl⟩ := hv (by simpa using ha)
            obtain ⟨fs, f, h1, h2, h3, h4, h5, h6⟩ := wayOf_one hw
            obtain ⟨sz, hz⟩ := ag_sz (t := t') (by rw [← h5]; exact h4)
            exact ⟨_, run_blind hw hz vs⟩
      split at h
      · rename_i g q hf hw
        obtain ⟨t', off⟩ := q
        obtain ⟨x, hx⟩ := way t' off hw h
        rw [sem_bind_run, hx]
        simp only [Result.andThen, hf]
        rfl
      · rename_i g t' off hf hw
        simp only [Bool.and_eq_true, beq_iff_eq] at h
        obtain ⟨x, hx⟩ := way t' off hw h.2
        obtain ⟨d, hd, h1, h2⟩ := isPtrT_spec h.1
        rw [sem_bind_run, hx]
        simp only [Result.andThen, hf, sem_bind_run, run_underlying hd]
        have := h2 rfl
        cases d <;> first | rfl | exact absurd rfl (this _)
      · cases h
    · cases h
  · cases h
end
end Go.Ev
set_option linter.unusedSimpArgs false
set_option linter.unusedVariables false
namespace Go.Ev
open Go
def okTk (y : Arg) (tk : Bool) : Bool :=
  match y, tk with
  | _, false => true
  | .t _, true => true
  | _, _ => false
def chkOpt : Option Operand → Option Arg → Bool
  | none, none => true
  | some x, some y => chkArg x y
  | _, _ => false
def notIface : TypeDesc → Bool
  | .interface _ => false
  | _ => true
def isStrT (P : Program) (t : TypeId) : Bool := match P.underlying t with | some .string => true | _ => false
def isU8T (P : Program) (t : TypeId) : Bool := match P.underlying t with | some (.int .u8) => true | _ => false
theorem isStrT_spec {P : Program} {t : TypeId} (h : isStrT P t = true) : P.underlying t = some .string := by
  unfold isStrT at h; split at h <;> first | assumption | cases h
theorem isU8T_spec {P : Program} {t : TypeId} (h : isU8T P t = true) : P.underlying t = some (.int .u8) := by
  unfold isU8T at h; split at h <;> first | assumption | cases h
def chkIns (P : Program) (o : Op) (i : Ins) : Bool :=
  match i with
  | .mv y tk => match o with
    | .move x | .assign x => chkArg x y && okTk y tk
    | _ => false
  | .pick c' a' b' => match o with
    | .pick c a b => chkArg c c' && chkArg a a' && chkArg b b'
    | _ => false
  | .alloc z => match o with
    | .alloc e => (match zeroOf P e with | some zv => chkCells zv.cells.toList z | none => false)
    | _ => false
  | .box y => match o with
    | .box _ x => chkArg x y
    | _ => false
  | .build z qs => match o with
    | .build t ps => chkBuild P t z ps.toList qs
    | _ => false
  | .buildSl ag sz len z qs _ => match o with
    | .buildSlice t len' ps => (match chkElem P t ag sz with
      | some e => len == len' && (len == 0 || chkZero P e z && decide (z.cells.length = sz)) && decide (sz ≠ 0) && decide (len * sz ≤ 16777216) && chkPartsSl ps.toList qs
      | none => false)
    | _ => false
  | .buildG ag sz len z qs => match o with
    | .buildSlice t len' ps => (match chkElem P t ag sz with
      | some e => len == len' && (len == 0 || chkZero P e z && decide (z.cells.length = sz)) && decide (sz ≠ 0) && decide (len * sz ≤ 16777216) && chkPartsSl ps.toList qs
      | none => false)
    | _ => false
  | .mark y => match o with
    | .convert s d x => s == d && (match P.underlying s with | some (.slice e) => isU8T P e | _ => false) && chkArg x y && okTk y true
    | _ => false
  | .load ag sz y => match o with
    | .load t x => chkTy P t ag sz && chkArg x y
    | _ => false
  | .loadT y => match o with
    | .load t x => chkTy P t false 1 && chkArg x y
    | _ => false
  | .store sz p' y tk => match o with
    | .store t p x => decide (szOf P t = some sz) && chkArg p p' && chkArg x y && okTk y tk
    | _ => false
  | .nilc y => match o with
    | .nilCheck x => chkArg x y
    | _ => false
  | .bin op' k x' y' => match o with
    | .binOp op t x y _ => decide (op = op') && chkEq P op k t x y && chkArg x x' && chkArg y y'
    | _ => false
  | .un op' y => match o with
    | .unOp op _ x => decide (op = op') && chkArg x y
    | _ => false
  | .conv k y => match o with
    | .convert s d x => chkArg x y && (match k, P.underlying s, P.underlying d with
      | .toInt k', some _, some (.int j) => decide (k' = j)
      | .same, some .string, some .string => true
      | .intStr, some (.int _), some .string => true
      | .strBytes, some .string, some (.slice e) => isU8T P e
      | .bytesStr, some (.slice e), some .string => isU8T P e
      | .bytesStrN, some (.slice e), some .string => isU8T P e
      | _, _, _ => false)
    | _ => false
  | .bytesH y => match o with
    | .convert s d x => chkArg x y && (match P.underlying s, P.underlying d with
      | some .string, some (.slice e) => isU8T P e
      | _, _ => false)
    | _ => false
  | .cutS y lo' hi' => match o with
    | .slice t x lo hi mx => isStrT P t && mx.isNone && chkArg x y && chkOpt lo lo' && chkOpt hi hi'
    | _ => false
  | .cut sz y lo' hi' mx' => match o with
    | .slice t x lo hi mx => (match P.underlying t with | some (.slice e) => decide (szOf P e = some sz) | _ => false) && chkArg x y && chkOpt lo lo' && chkOpt hi hi' && chkOpt mx mx' && (mx'.isNone || hi'.isSome)
    | _ => false
  | .cutA n sz _ y lo' hi' => match o with
    | .slice t x lo hi mx => (match P.underlying t with | some (.array m e) => n == m && decide (szOf P e = some sz) | _ => false) && mx.isNone && chkArg x y && chkOpt lo lo' && chkOpt hi hi'
    | _ => false
  | .faddr off y => match o with
    | .fieldAddr s x f => (match chkField P s f off with | some t => (match szOf P t with | some sz => decide (sz ≠ 0) | none => false) | none => false) && chkArg x y
    | _ => false
  | .field ag off sz y => match o with
    | .field s x f => (match chkField P s f off with | some t => chkTy P t ag sz | none => false) && chkArg x y
    | _ => false
  | .iaddr sz y j => match o with
    | .indexAddr t x i => (match P.underlying t with | some (.slice e) => decide (szOf P e = some sz) | _ => false) && chkArg x y && chkArg i j
    | _ => false
  | .iaddrA n sz y j => match o with
    | .indexAddr t x i => (match P.underlying t with | some (.array m e) => n == m && decide (szOf P e = some sz) | _ => false) && chkArg x y && chkArg i j
    | _ => false
  | .idx y j => match o with
    | .index t x i => isStrT P t && chkArg x y && chkArg i j
    | _ => false
  | .idxA n ag sz y j => match o with
    | .index t x i => (match P.underlying t with | some (.array m e) => n == m && chkTy P e ag sz | _ => false) && chkArg x y && chkArg i j
    | _ => false
  | .lenS y => match o with
    | .call { callee := .builtin .len, args, argTypes } => chkArgs args.toList [y] && (match argTypes.toList with | [t] => isStrT P t | _ => false)
    | _ => false
  | .len y => match o with
    | .call { callee := .builtin .len, args, argTypes } => chkArgs args.toList [y] && (match argTypes.toList with | [t] => (match P.underlying t with | some (.slice _) => true | _ => false) | _ => false)
    | _ => false
  | .app str ag sz bytes x' y' tk => match o with
    | .call { callee := .builtin .append, args, argTypes } => chkArgs args.toList [x', y'] && okTk x' tk && (match argTypes.toList with | [t, tx] => chkApp P str ag sz bytes t tx | _ => false)
    | _ => false
  | .mkfn f' a' b' => match o with
    | .makeFunc (.func f) a b => f == f' && chkArgs a.toList a' && chkArgs b.toList b'
    | _ => false
  | .mkif t' y => match o with
    | .makeInterface t x => t == t' && chkArg x y && (match P.underlying t with | some d => notIface d | none => false)
    | _ => false
  | .extr y j => match o with
    | .extract x i => i == j && chkArg x y
    | _ => false
  | .mkSl ag sz bytes z l' c' _ => match o with
    | .makeSlice t l c => (match chkElem P t ag sz with
      | some e => chkZero P e z && decide (z.cells.length = sz) && decide (sz ≠ 0) && decide (bytes ≠ 0) && decide ((P.info? e).map (·.bytes) = some bytes) && chkArg l l' && chkArg c c'
      | none => false)
    | _ => false
  | .mm mx ys => match o with
    | .call { callee := .builtin b, args, argTypes := _ } => (match b, mx with | .max, true => true | .min, false => true | _, _ => false) && chkArgs args.toList ys
    | _ => false
  | .call f ys => match o with
    | .call { callee := .value (.func g), args, argTypes := _ } => f == g && chkArgs args.toList ys
    | _ => false
  | .callv y ys => match o with
    | .call { callee := .value x, args, argTypes := _ } => chkArg x y && chkArgs args.toList ys
    | _ => false
  | .no => true
  | .mth k y => match o with
    | .makeFunc (.method n) a b => mthName k == n && b.toList.isEmpty && chkArgs a.toList [y]
    | _ => false
  | .nilm k ts y => match o with
    | .nilCheck x => chkArg x y && ts.all fun p => chkNilm P (mthName k) p.1 p.2
    | _ => false
  | .calli y ms ys => match o with
    | .call { callee := .invoke x n, args, argTypes := _ } => chkArg x y && chkArgs args.toList ys && ms.all fun p => chkMeth P n p.1 p.2.1 p.2.2
    | _ => false
  | .callT f ys j => match o with
    | .call { callee := .value (.func g), args, argTypes := _ } => f == g && chkArgs args.toList ys && (match ys[j]? with | some y => okTk y true | none => false)
    | _ => false
  | .rng y => match o with
    | .range t x => isStrT P t && chkArg x y
    | _ => false
  | .nxt y => match o with
    | .next x true => chkArg x y
    | _ => false
  | .mkmp => match o with
    | .makeMap t r => (match r with | none => true | some (.const (.int _ _)) => (match P.underlying t with | some (.map _ _) => true | _ => false) | _ => false)
    | _ => false
  | .mset kk m' k' x' => match o with
    | .mapUpdate t m k x | .insert t m k x => (match P.underlying t with | some (.map kt _) => keyOk P kk kt | _ => false) && chkArg m m' && chkArg k k' && chkArg x x'
    | _ => false
  | .mget kk z m' k' ok' => match o with
    | .lookup t m k ok => (match P.underlying t with | some (.map kt e) => keyOk P kk kt && (match zeroOf P e with | some zv => chkConst zv z | none => false) | _ => false) && ok == ok' && chkArg m m' && chkArg k k'
    | _ => false
  | .cpy str sz x' y' => match o with
    | .call { callee := .builtin .copy, args, argTypes } => chkArgs args.toList [x', y'] && (match argTypes.toList with
      | [t, tx] => (match P.underlying t with | some (.slice e) => decide (szOf P e = some sz) && decide (sz ≠ 0) && chkSrc P str tx sz | _ => false)
      | _ => false)
    | _ => false
  | .clr sz z x' => match o with
    | .call { callee := .builtin .clear, args, argTypes } => chkArgs args.toList [x'] && (match argTypes.toList with
      | [t] => (match P.underlying t with | some (.slice e) => decide (szOf P e = some sz) && chkZero P e z && decide (sz ≠ 0) | _ => false)
      | _ => false)
    | _ => false
  | .appG str ag sz bytes x' y' => match o with
    | .call { callee := .builtin .append, args, argTypes } => chkArgs args.toList [x', y'] && okTk x' true && (match argTypes.toList with | [t, tx] => chkApp P str ag sz bytes t tx | _ => false)
    | _ => false
  | _ => false
section
variable {P : Program} {M : Mem} {ι : Plc} {X : Nat → Prop} {κ : Own} {w : World} {ρ : List V} {σ : Objs} {G : GV} {a : Act}
theorem chkOpt_rep {r : Operand → Value} {A : Arg → V} (hA : Opd M ι r A) {x : Option Operand} {y : Option Arg} (h : chkOpt x y = true) : RepO M ι (x.map r) (y.map A) := by
  cases x <;> cases y <;> first | trivial | exact hA.ok _ _ h | cases h
theorem chkArgs_two {xs : List Operand} {y z : Arg} (h : chkArgs xs [y, z] = true) : ∃ p q, xs = [p, q] ∧ chkArg p y = true ∧ chkArg q z = true := by
  cases xs with
  | nil => simp [chkArgs] at h
  | cons p xs =>
    cases xs with
    | nil => simp [chkArgs] at h
    | cons q xs =>
      cases xs with
      | nil => simp only [chkArgs, Bool.and_eq_true] at h; exact ⟨p, q, rfl, h.1, h.2.1⟩
      | cons _ _ => simp [chkArgs] at h
theorem chkArgs_one {xs : List Operand} {y : Arg} (h : chkArgs xs [y] = true) : ∃ p, xs = [p] ∧ chkArg p y = true := by
  cases xs with
  | nil => simp [chkArgs] at h
  | cons p xs =>
    cases xs with
    | nil => simp only [chkArgs, Bool.and_eq_true] at h; exact ⟨p, rfl, h.1⟩
    | cons _ _ => simp [chkArgs] at h
theorem exec_len {r : Operand → Value} {dst : Option Tmp} {args : Array Operand} {ts : Array TypeId} {type : TypeId} {pos : String} {after : Array Edge} {guard : Option (Nat × Bool)} :
    execOp r ⟨dst, .call { callee := .builtin .len, args := args, argTypes := ts }, type, pos, after, guard⟩ = (do pure (.value (← Builtin.len_ ts type (args.map r)))) := rfl
theorem exec_append {r : Operand → Value} {dst : Option Tmp} {args : Array Operand} {ts : Array TypeId} {type : TypeId} {pos : String} {after : Array Edge} {guard : Option (Nat × Bool)} :
    execOp r ⟨dst, .call { callee := .builtin .append, args := args, argTypes := ts }, type, pos, after, guard⟩ = (do pure (.value (← Builtin.append_ ts type (args.map r)))) := rfl
theorem run_pure (h : Wd M ι X κ w σ) {o : Oper} {i : Ins} {A : Arg → V} {x : V} (hA : Opd M ι a.eval A) (hc : chkIns P o.op i = true) (hns : ∀ y, i ≠ .conv .strBytes y) (he : evPure A σ i = some x) :
    ∃ u, (execOp a.eval o).run P w = .ok (.value u) w ∧ Rep M ι u x := by
  obtain ⟨dst, op, type, pos, after, guard⟩ := o
  have val : ∀ (s : Sem Value) {y : V}, (∃ u, s.run P w = .ok u w ∧ Rep M ι u y) → (execOp a.eval ⟨dst, op, type, pos, after, guard⟩ = (do pure (.value (← s)))) → ∃ u, (execOp a.eval ⟨dst, op, type, pos, after, guard⟩).run P w = .ok (.value u) w ∧ Rep M ι u y := by
    intro s y ⟨u, h1, h2⟩ he
    refine ⟨u, ?_, h2⟩
    rw [he, sem_bind_run, h1]
    rfl
  cases i <;> (try (simp only [evPure] at he; cases he; done))
  case pick c' a' b' =>
    cases op <;> (try (cases hc; done))
    simp only [chkIns, Bool.and_eq_true] at hc
    simp only [evPure] at he
    split at he
    · rename_i t ht
      cases he
      have hcv := hA.ok _ _ hc.1.1
      rw [ht] at hcv
      have hb := hcv.inv_bool
      rename_i c1 a1 b1 _
      refine ⟨if t then a.eval a1 else a.eval b1, ?_, ?_⟩
      · simp only [execOp, sem_bind_run, hb, asBool, sem_pure_run, Result.andThen]
      · cases t
        · exact hA.ok _ _ hc.2
        · exact hA.ok _ _ hc.1.2
    · cases he
  case build z qs =>
    cases op <;> (try (cases hc; done))
    simp only [chkIns] at hc
    exact val _ (snd_build hA hc he) rfl
  case load ag sz y =>
    cases op <;> (try (cases hc; done))
    simp only [chkIns, Bool.and_eq_true] at hc
    exact val _ (snd_load h hc.1 (hA.ok _ _ hc.2) he) rfl
  case nilc y =>
    cases op <;> (try (cases hc; done))
    simp only [chkIns] at hc
    have hv := hA.ok _ _ hc
    simp only [evPure] at he
    unfold evNilc at he
    split at he
    · rename_i hy
      cases he
      rw [hy] at hv
      obtain ⟨b, hvb, hi⟩ := hv.inv_ptr
      refine ⟨_, ?_, .ptr _ _ b hi⟩
      simp only [execOp, hvb]; rfl
    · rename_i cs off hy
      cases he
      rw [hy] at hv
      have hv' := hv
      obtain ⟨b, base, us, hvb, _, _⟩ := hv.inv_eptr
      rw [hvb] at hv'
      refine ⟨_, ?_, hv'⟩
      simp only [execOp, hvb]; rfl
    · rename_i f p q hy
      cases he
      rw [hy] at hv
      have hv' := hv
      generalize hg : a.eval _ = vv at hv hv'
      cases hv with
      | fn _ ars bs _ _ _ _ _ _ =>
        refine ⟨_, ?_, hv'⟩
        simp only [execOp, hg]; rfl
    · cases he
  case bin op' k x' y' =>
    cases op <;> (try (cases hc; done))
    simp only [chkIns, Bool.and_eq_true, decide_eq_true_eq] at hc
    obtain ⟨⟨⟨rfl, h2⟩, h3⟩, h4⟩ := hc
    exact val _ (snd_bin h2 (hA.ok _ _ h3) (hA.ok _ _ h4) he) rfl
  case un op' y =>
    cases op <;> (try (cases hc; done))
    simp only [chkIns, Bool.and_eq_true, decide_eq_true_eq] at hc
    obtain ⟨rfl, h2⟩ := hc
    exact val _ (snd_un (hA.ok _ _ h2) he) rfl
  case conv k y =>
    cases op <;> (try (cases hc; done))
    simp only [chkIns, Bool.and_eq_true] at hc
    obtain ⟨h1, h2⟩ := hc
    have hv := hA.ok _ _ h1
    simp only [evPure] at he
    split at h2 <;> (try (cases h2; done))
    · rename_i hs hd
      have hkj : _ = _ := of_decide_eq_true h2
      subst hkj
      exact val _ (snd_toInt (σ := σ) hs hd hv he) rfl
    · rename_i hs hd
      exact val _ (snd_same (σ := σ) hs hd hv he) rfl
    · rename_i hs hd
      exact val _ (snd_intStr (σ := σ) hs hd hv he) rfl
    · exact absurd rfl (hns y)
    · rename_i hs hd
      exact val _ (snd_bytesStr h hs (isU8T_spec h2) hd hv he) rfl
    · rename_i hs hd
      exact val _ (snd_bytesStr h hs (isU8T_spec h2) hd hv (evConv_N he)) rfl
  case cutS y lo' hi' =>
    cases op <;> (try (cases hc; done))
    rename_i t x lo hi mx
    simp only [chkIns, Bool.and_eq_true, decide_eq_true_eq] at hc
    obtain ⟨⟨⟨⟨h1, h2⟩, h3⟩, h4⟩, h5⟩ := hc
    cases mx with
    | some _ => cases h2
    | none => exact val _ (snd_cutS (isStrT_spec h1) (hA.ok _ _ h3) (chkOpt_rep hA h4) (chkOpt_rep hA h5) he) rfl
  case cut sz y lo' hi' mx' =>
    cases op <;> (try (cases hc; done))
    rename_i t x lo hi mx
    simp only [chkIns, Bool.and_eq_true] at hc
    obtain ⟨⟨⟨⟨⟨h1, h2⟩, h3⟩, h4⟩, h5⟩, h6⟩ := hc
    split at h1
    · rename_i e hu
      refine val _ (snd_cut hu (of_decide_eq_true h1) (hA.ok _ _ h2) (chkOpt_rep hA h3) (chkOpt_rep hA h4) (chkOpt_rep hA h5) (fun hm => ?_) he) rfl
      cases mx' <;> cases hi' <;> simp_all
    · cases h1
  case cutA n sz ag y lo' hi' =>
    cases op <;> (try (cases hc; done))
    rename_i t x lo hi mx
    simp only [chkIns, Bool.and_eq_true] at hc
    obtain ⟨⟨⟨⟨h1, h2⟩, h3⟩, h4⟩, h5⟩ := hc
    split at h1
    · rename_i m e hu
      simp only [Bool.and_eq_true, beq_iff_eq] at h1
      obtain ⟨rfl, h1⟩ := h1
      cases mx with
      | some _ => cases h2
      | none => exact val _ (snd_cutA h hu (of_decide_eq_true h1) (hA.ok _ _ h3) (chkOpt_rep hA h4) (chkOpt_rep hA h5) he) rfl
    · cases h1
  case faddr off y =>
    cases op <;> (try (cases hc; done))
    simp only [chkIns, Bool.and_eq_true] at hc
    obtain ⟨h1, h2⟩ := hc
    split at h1
    · rename_i t ht
      split at h1
      · rename_i sz hsz
        exact val _ (snd_faddr ht hsz (of_decide_eq_true h1) (hA.ok _ _ h2) he) rfl
      · cases h1
    · cases h1
  case field ag off sz y =>
    cases op <;> (try (cases hc; done))
    simp only [chkIns, Bool.and_eq_true] at hc
    obtain ⟨h1, h2⟩ := hc
    split at h1
    · rename_i t ht
      exact val _ (snd_field ht h1 (hA.ok _ _ h2) he) rfl
    · cases h1
  case iaddr sz y j =>
    cases op <;> (try (cases hc; done))
    simp only [chkIns, Bool.and_eq_true] at hc
    obtain ⟨⟨h1, h2⟩, h3⟩ := hc
    split at h1
    · rename_i e hu
      exact val _ (snd_iaddr h hu (of_decide_eq_true h1) (hA.ok _ _ h2) (hA.ok _ _ h3) he) rfl
    · cases h1
  case iaddrA n sz y j =>
    cases op <;> (try (cases hc; done))
    simp only [chkIns, Bool.and_eq_true] at hc
    obtain ⟨⟨h1, h2⟩, h3⟩ := hc
    split at h1
    · rename_i m e hu
      simp only [Bool.and_eq_true, beq_iff_eq] at h1
      obtain ⟨rfl, h1⟩ := h1
      exact val _ (snd_iaddrA hu (of_decide_eq_true h1) (hA.ok _ _ h2) (hA.ok _ _ h3) he) rfl
    · cases h1
  case idx y j =>
    cases op <;> (try (cases hc; done))
    simp only [chkIns, Bool.and_eq_true, decide_eq_true_eq] at hc
    obtain ⟨⟨h1, h2⟩, h3⟩ := hc
    exact val _ (snd_idx (isStrT_spec h1) (hA.ok _ _ h2) (hA.ok _ _ h3) he) rfl
  case idxA n ag sz y j =>
    cases op <;> (try (cases hc; done))
    simp only [chkIns, Bool.and_eq_true] at hc
    obtain ⟨⟨h1, h2⟩, h3⟩ := hc
    split at h1
    · rename_i m e hu
      simp only [Bool.and_eq_true, beq_iff_eq] at h1
      obtain ⟨rfl, h1⟩ := h1
      exact val _ (snd_idxA hu h1 (hA.ok _ _ h2) (hA.ok _ _ h3) he) rfl
    · cases h1
  case extr y j =>
    cases op <;> (try (cases hc; done))
    simp only [chkIns, Bool.and_eq_true, beq_iff_eq] at hc
    obtain ⟨rfl, h2⟩ := hc
    exact val _ (snd_extr (hA.ok _ _ h2) he) rfl
  case mkif t' y =>
    cases op <;> (try (cases hc; done))
    simp only [chkIns, Bool.and_eq_true, beq_iff_eq] at hc
    obtain ⟨⟨rfl, h2⟩, h3⟩ := hc
    simp only [evPure] at he
    cases he
    split at h3
    · rename_i d hd
      refine val _ ⟨_, ?_, .ifc _ _ _ (hA.ok _ _ h2)⟩ rfl
      unfold Instr.makeInterface
      simp only [sem_bind_run, run_underlying hd, Result.andThen]
      cases d <;> first | rfl | cases h3
    · cases h3
  case mkfn f' a' b' =>
    cases op <;> (try (cases hc; done))
    rename_i fn fi ca
    cases fn <;> (try (cases hc; done))
    simp only [chkIns, Bool.and_eq_true, beq_iff_eq] at hc
    obtain ⟨⟨rfl, h2⟩, h3⟩ := hc
    simp only [evPure] at he
    cases he
    have r1 := hA.args h2
    have r2 := hA.args h3
    refine val _ ⟨_, rfl, ?_⟩ rfl
    refine .fn _ _ _ _ _ (by have := r1.1; simpa using this) (by have := r2.1; simpa using this) (fun i v c hv hcc => r1.2 i v c ?_ hcc) (fun i v c hv hcc => r2.2 i v c ?_ hcc)
    · simpa using hv
    · simpa using hv
  case lenS y =>
    cases op <;> (try (cases hc; done))
    rename_i c
    obtain ⟨callee, args, argTypes⟩ := c
    cases callee <;> (try (cases hc; done))
    rename_i b
    cases b <;> (try (cases hc; done))
    simp only [chkIns, Bool.and_eq_true] at hc
    obtain ⟨h1, h2⟩ := hc
    obtain ⟨p, hp, hpy⟩ := chkArgs_one h1
    split at h2
    · rename_i t htt
      have hat : argTypes = #[t] := by apply Array.ext'; simpa using htt
      have har : args = #[p] := by apply Array.ext'; simpa using hp
      subst hat har
      exact val _ (snd_lenS (ty := type) (isStrT_spec h2) (hA.ok _ _ hpy) he) (by rw [exec_len]; simp)
    · cases h2
  case len y =>
    cases op <;> (try (cases hc; done))
    rename_i c
    obtain ⟨callee, args, argTypes⟩ := c
    cases callee <;> (try (cases hc; done))
    rename_i b
    cases b <;> (try (cases hc; done))
    simp only [chkIns, Bool.and_eq_true] at hc
    obtain ⟨h1, h2⟩ := hc
    obtain ⟨p, hp, hpy⟩ := chkArgs_one h1
    split at h2
    · rename_i t htt
      have hat : argTypes = #[t] := by apply Array.ext'; simpa using htt
      have har : args = #[p] := by apply Array.ext'; simpa using hp
      subst hat har
      split at h2
      · rename_i e hu
        exact val _ (snd_len (ty := type) hu (hA.ok _ _ hpy) he) (by rw [exec_len]; simp)
      · cases h2
    · cases h2
  case mm mx ys =>
    cases op <;> (try (cases hc; done))
    rename_i c
    obtain ⟨callee, args, argTypes⟩ := c
    cases callee <;> (try (cases hc; done))
    rename_i b
    simp only [chkIns, Bool.and_eq_true] at hc
    obtain ⟨h1, h2⟩ := hc
    have hr := hA.args h2
    simp only [evPure] at he
    split at he
    · rename_i x0 r hys
      split at he
      · rename_i hint
        rw [hys] at hr
        cases hal : args.toList with
        | nil => rw [hal] at hr; have := hr.1; simp at this
        | cons p ps =>
          rw [hal] at hr
          have har : args = (p :: ps).toArray := by apply Array.ext'; simpa using hal
          subst har
          obtain ⟨u, hrun, hu⟩ := snd_mm (P := P) (w := w) (mx := mx) hr.head hint hr.tail he
          cases mx <;> cases b <;> (try (cases h1; done))
          · refine val (Builtin.min_ argTypes type ((p :: ps).toArray.map a.eval)) ⟨u, ?_, hu⟩ rfl
            simpa [Builtin.min_] using hrun
          · refine val (Builtin.max_ argTypes type ((p :: ps).toArray.map a.eval)) ⟨u, ?_, hu⟩ rfl
            simpa [Builtin.max_] using hrun
      · cases he
    · cases he
  case mth k y =>
    cases op <;> (try (cases hc; done))
    rename_i fn fi ca
    cases fn <;> (try (cases hc; done))
    simp only [chkIns, Bool.and_eq_true, beq_iff_eq] at hc
    obtain ⟨⟨rfl, h2⟩, h3⟩ := hc
    obtain ⟨p, hp, hpy⟩ := chkArgs_one h3
    have hfi : fi = #[p] := by apply Array.ext'; simpa using hp
    have hca : ca = #[] := by apply Array.ext'; simpa using h2
    subst hfi hca
    simp only [evPure] at he
    split at he
    · rename_i t y0 hy
      cases he
      have hv := hA.ok _ _ hpy
      rw [hy] at hv
      exact val (Instr.makeFunc (.method (mthName k)) (#[p].map a.eval) (#[].map a.eval)) ⟨.func (.method (mthName k)) #[a.eval p] #[], by simp [Instr.makeFunc, sem_pure_run], .mth _ _ _ hv⟩ rfl
    · cases he
  case nilm k ts y =>
    cases op <;> (try (cases hc; done))
    simp only [chkIns, Bool.and_eq_true, List.all_eq_true] at hc
    obtain ⟨h1, h2⟩ := hc
    have hv := hA.ok _ _ h1
    simp only [evPure] at he
    unfold evNilm at he
    split at he
    · rename_i j t y0 hy
      split at he
      · rename_i t' ag hf
        split at he
        · rename_i hcond
          obtain ⟨rfl, hag⟩ := hcond
          cases he
          rw [hy] at hv
          generalize hg : a.eval _ = vv at hv
          cases hv with
          | mth _ v _ hv' =>
            cases hv' with
            | ifc _ v0 _ hv0 =>
              have ht : t' = t := by simpa using List.find?_some hf
              subst ht
              have hck := h2 _ (List.mem_of_find?_eq_some hf)
              have hna := run_nilAhead (P := P) (w := w) hck v0 (fun ha => by
                have := hag ha
                cases y0 <;> (try (cases this; done))
                cases hv0 with
                | agg vs _ _ _ => exact ⟨vs, rfl⟩)
              refine ⟨.func (.method (mthName j)) #[.iface t' v0] #[], ?_, .mth _ _ _ (.ifc _ _ _ hv0)⟩
              simp only [execOp, hg]
              simp only [List.getElem?_toArray, List.getElem?_cons_zero, sem_bind_run, program]
              simp [sem_bind_run, Sem.run, Result.andThen, hna, sem_pure_run]
        · cases he
      · cases he
    · cases he
  case mget kk z m' k' ok' =>
    cases op <;> (try (cases hc; done))
    rename_i t m k ok
    simp only [chkIns, Bool.and_eq_true, beq_iff_eq] at hc
    obtain ⟨⟨⟨h1, rfl⟩, h3⟩, h4⟩ := hc
    split at h1
    · rename_i kt e hu
      simp only [Bool.and_eq_true] at h1
      obtain ⟨h5, h6⟩ := h1
      split at h6
      · rename_i zv hz
        simp only [evPure, Option.bind_eq_bind, Option.bind_eq_some_iff] at he
        obtain ⟨r, hr, he⟩ := he
        split at he
        · rename_i hik
          refine val _ (snd_mget h hu h5 hz (chkConst_rep h6).1 (hA.ok _ _ h3) (hA.ok _ _ h4) hr (ok := ok) ?_) rfl
          split at he <;> (rename_i hok; cases he; simp [hok])
        · cases he
      · cases h6
    · cases h1
end
end Go.Ev
